import Derived.MapKept
import Derived.Maps.OwnOps
import Derived.Laws.EntriesVeiled
import Derived.IntWalk
import Derived.Test.YtfcnedcahoifoaaGreatDoorA
namespace Go.Proofs.YtfcnedcahoifoaaGreatDoor
open Go.RowKit
open _root_.Array renaming getElem?_eq_some_iff→aw,mem_of_getElem?→h_,replicate→fF
open _root_.Bool renaming and_eq_true→ba,not_eq_true'→jp
open _root_.ByteArray renaming mk→jf,size_append→fc
open _root_.Go renaming Addr→jG,CallsIn→bj2,Calls→jE,Code→bk9,Ending→bi6,Exit→bk7,KeepsOthers→bj4,MapEntry→bk4,Oper→bk0,OwnFrom→bj3,Program→bi3,TypeId→jH,Value→jD,World→jC,belowK_b→bj6,bodyPost_ret→jF,callsIn_of_wp_marks→bi7,callsIn_wide→jI,info_parts→bi5,ownsRow_setCell_other→bj0,results_none→bj7,rounds_succ→bi9,run_takeDeferred→bi2,run_underlying→bi8,wpIn_wide→bi4,wpQuiet_nil→bl0,wp_loop_rounds→bj8
open _root_.Go.Code renaming region→jo
open _root_.Go.Exit renaming noGoto_ret→cf
open _root_.Go.Fence renaming wide→cz
open _root_.Go.Instr renaming findNow→eI,lookup→eU,mapUpdate→fG,next→fw,typeAssert→dd
open _root_.Go.IntWalk renaming i64_in→dv
open _root_.Go.KeepsOthers renaming setCell→b7
open _root_.Go.Lib renaming BuilderAtF→fN,IsBuilderF→dX,OthersKept→eh,below_iterAt→iq,byteCells_append→iX,byteCells_length→ii,byteCells→dV,hid→ai,iterAt_heap→iC,joinTail→iH,run_next_any_at→fp,run_next_end_at→fq,runeCells→iS
open _root_.Go.Op renaming bytesLess→dW,stringOp→fK
open _root_.Go.Oper renaming semAt_some→db
open _root_.Go.Region renaming Mode→fD
open _root_.Go.Result renaming andThen→dw
open _root_.Go.RowKit renaming intOf→av
open _root_.Go.Sem renaming run_bind→eT,run_pure→fX
open _root_.Go.Value renaming ownBlock→gy,slice→eo
open _root_.Go.World renaming alloc_heap_new→du,iterPos→eR,ownsRow_nil→dY,ownsRow→gX
open _root_.List renaming all_eq_true→dZ,append_assoc→eH,cons_append→dj,flatMap_cons→dg,getElem?_eq_some_iff→ci,getElem?_map→eD,getElem_mem→ar,length_append→cd,length_cons→c_,length_map→ax,length_nil→dp,map_cons→df,mem_append→ed,mem_cons_self→di,mem_cons→cw,mem_range→dh,mem_singleton→eM,nil_append→dz,pairwise_cons→b6,pairwise_iff_getElem→cj,push_toArray→fW,range→bu
open _root_.Nat renaming le_refl→ay,le_succ→dU,le_trans→a_,reduceAdd→ao,reduceSub→dk,zero_add→au,zero_le→be
open _root_.Bool renaming false→u?,true→t?
open _root_.Go.Ending renaming returned→a?
open _root_.Go.IntKind renaming i32→q?,i64→o?,u8→p?
open _root_.Go.Obj renaming cells→m?
open _root_.Go.Value renaming agg→g?,bool→h?,iface→i?,int→c?,nilIface→j?,pointer→e?,slice→b?,string→f?,tuple→d?
open _root_.Option renaming none→Z,some→M
open _root_.Or renaming inl→r?,inr→s?
open _root_ renaming Array→x?,ByteArray→v?,Int→I,List→E,Nat→O,Option→w?,UInt8→y?,absurd→H?,beq_eq_false_iff_ne→G?,congrArg→C?,decide_eq_true_eq→D?,if_neg→A?,if_pos→B?
set_option maxRecDepth 100000
set_option maxHeartbeats 16000000
set_option linter.unusedVariables false
set_option linter.unusedSimpArgs false
set_option linter.defProp false
instance aX7(x0:O)(x1:v?):CoeOut (wU 27 x0 x1) O:=⟨λ_=>(x0+(nP ((tx x1).drop x0)).2)⟩
instance aX5(x0:O)(x1:O × O):CoeOut (wU 36 x0 x1) (x? jD):=⟨λ_=>#[jO x0,c? q? x1.1]⟩
structure SdI(x0:v?)(x1:O) where
def dI(b:v?)(a:O):SdI b a:=⟨⟩
instance aU0(x0:v?)(x1:O):CoeOut (SdI x0 x1) (E y?):=⟨λ_=>((tx x0).drop x1)⟩
section
variable{w w':jC}{B B':O}{A:w? jG}{l:E kI}
end
section
open Go.RowKit Go.Shelf
attribute [local go_sem] db
end
section
variable{F:Fence}{n:O}{P:bi3}
end
section
attribute [local go_sem] db
end
section
open Go.RowKit Go.Shelf
def lays167_ren:Go.Shelf.Ren:=⟨fun|167=>187|240=>206|276=>243|n=>n,fun|0=>0|3=>3|4=>4|5=>5|9=>9|20=>20|21=>21|37=>151|46=>152|51=>365|70=>310|72=>312|75=>171|80=>315|164=>372|127=>355|n=>n,fun|n=>n⟩
def lays167:Go.Proofs.Lays.n167 Tryz.prog lays167_ren:={
 mixed:=oo
 f167:=Tryz.func187.trans (C? M oo)
 f240:=Tryz.func206.trans (C? M oo)
 f276:=Tryz.func243.trans (C? M oo)
 t0:=Tryz.underlying0
 a0:=Tryz.isAgg0
 z0:=Tryz.sizeOf0
 v0:=Tryz.zeroValue0
 t4:=Tryz.underlying4
 a4:=Tryz.isAgg4
 z4:=Tryz.sizeOf4
 v4:=Tryz.zeroValue4
 t5:=Tryz.underlying5
 a5:=Tryz.isAgg5
 z5:=Tryz.sizeOf5
 v5:=Tryz.zeroValue5
 t9:=Tryz.underlying9
 a9:=Tryz.isAgg9
 z9:=Tryz.sizeOf9
 v9:=Tryz.zeroValue9
 t20:=Tryz.underlying20
 a20:=Tryz.isAgg20
 z20:=Tryz.sizeOf20
 v20:=Tryz.zeroValue20
 t37:=Tryz.underlying151
 a37:=Tryz.isAgg151
 z37:=Tryz.sizeOf151
 v37:=Tryz.zeroValue151
 t70:=Tryz.underlying310
 a70:=Tryz.isAgg310
 z70:=Tryz.sizeOf310
 v70:=Tryz.zeroValue310
 t72:=Tryz.underlying312
 a72:=Tryz.isAgg312
 z72:=Tryz.sizeOf312
 v72:=Tryz.zeroValue312
 t75:=Tryz.underlying171
 a75:=Tryz.isAgg171
 z75:=Tryz.sizeOf171
 v75:=Tryz.zeroValue171
 t164:=Tryz.underlying372
 a164:=Tryz.isAgg372
 z164:=Tryz.sizeOf372
 v164:=Tryz.zeroValue372}
def Builder_Extra_167:Builder.Extra Tryz.prog lays167_ren:={
 sizeBuilder:=oo
 liesBuilder:=oo
 t5:=Tryz.underlying5
 a5:=Tryz.isAgg5
 z5:=Tryz.sizeOf5
 v5:=Tryz.zeroValue5
 infoByte:=oo
 cellsByte:=oo
 sizeByte:=oo
 neB5:=by decide}
def lays168_ren:Go.Shelf.Ren:=⟨fun|168=>188|240=>206|242=>223|276=>243|278=>249|n=>n,fun|0=>0|3=>3|4=>4|5=>5|9=>9|20=>20|21=>21|37=>151|46=>152|51=>365|70=>310|72=>312|75=>171|80=>315|164=>372|127=>355|n=>n,fun|n=>n⟩
def lays168:Go.Proofs.Lays.n168 Tryz.prog lays168_ren:={
 mixed:=oo
 f168:=Tryz.func188.trans (C? M oo)
 f240:=Tryz.func206.trans (C? M oo)
 f242:=Tryz.func223.trans (C? M oo)
 f276:=Tryz.func243.trans (C? M oo)
 f278:=Tryz.func249.trans (C? M oo)
 t0:=Tryz.underlying0
 a0:=Tryz.isAgg0
 z0:=Tryz.sizeOf0
 v0:=Tryz.zeroValue0
 t3:=Tryz.underlying3
 a3:=Tryz.isAgg3
 z3:=Tryz.sizeOf3
 v3:=Tryz.zeroValue3
 t4:=Tryz.underlying4
 a4:=Tryz.isAgg4
 z4:=Tryz.sizeOf4
 v4:=Tryz.zeroValue4
 t5:=Tryz.underlying5
 a5:=Tryz.isAgg5
 z5:=Tryz.sizeOf5
 v5:=Tryz.zeroValue5
 t9:=Tryz.underlying9
 a9:=Tryz.isAgg9
 z9:=Tryz.sizeOf9
 v9:=Tryz.zeroValue9
 t20:=Tryz.underlying20
 a20:=Tryz.isAgg20
 z20:=Tryz.sizeOf20
 v20:=Tryz.zeroValue20
 t21:=Tryz.underlying21
 a21:=Tryz.isAgg21
 z21:=Tryz.sizeOf21
 v21:=Tryz.zeroValue21
 t37:=Tryz.underlying151
 a37:=Tryz.isAgg151
 z37:=Tryz.sizeOf151
 v37:=Tryz.zeroValue151
 t46:=Tryz.underlying152
 a46:=Tryz.isAgg152
 z46:=Tryz.sizeOf152
 v46:=Tryz.zeroValue152
 t51:=Tryz.underlying365
 a51:=Tryz.isAgg365
 z51:=Tryz.sizeOf365
 v51:=Tryz.zeroValue365
 t70:=Tryz.underlying310
 a70:=Tryz.isAgg310
 z70:=Tryz.sizeOf310
 v70:=Tryz.zeroValue310
 t72:=Tryz.underlying312
 a72:=Tryz.isAgg312
 z72:=Tryz.sizeOf312
 v72:=Tryz.zeroValue312
 t75:=Tryz.underlying171
 a75:=Tryz.isAgg171
 z75:=Tryz.sizeOf171
 v75:=Tryz.zeroValue171
 t164:=Tryz.underlying372
 a164:=Tryz.isAgg372
 z164:=Tryz.sizeOf372
 v164:=Tryz.zeroValue372}
def Builder_Extra_168:Builder.Extra Tryz.prog lays168_ren:={
 sizeBuilder:=oo
 liesBuilder:=oo
 t5:=Tryz.underlying5
 a5:=Tryz.isAgg5
 z5:=Tryz.sizeOf5
 v5:=Tryz.zeroValue5
 infoByte:=oo
 cellsByte:=oo
 sizeByte:=oo
 neB5:=by decide}
def lays169_ren:Go.Shelf.Ren:=⟨fun|169=>172|n=>n,fun|0=>0|3=>3|4=>4|5=>5|9=>9|20=>20|21=>21|37=>151|46=>152|51=>365|70=>310|72=>312|75=>171|80=>315|164=>372|127=>355|n=>n,fun|n=>n⟩
def lays169:Go.Proofs.Lays.n169 Tryz.prog lays169_ren:={
 mixed:=oo
 f169:=Tryz.func172.trans (C? M oo)
 t0:=Tryz.underlying0
 a0:=Tryz.isAgg0
 z0:=Tryz.sizeOf0
 v0:=Tryz.zeroValue0
 t3:=Tryz.underlying3
 a3:=Tryz.isAgg3
 z3:=Tryz.sizeOf3
 v3:=Tryz.zeroValue3
 t9:=Tryz.underlying9
 a9:=Tryz.isAgg9
 z9:=Tryz.sizeOf9
 v9:=Tryz.zeroValue9
 t37:=Tryz.underlying151
 a37:=Tryz.isAgg151
 z37:=Tryz.sizeOf151
 v37:=Tryz.zeroValue151
 t70:=Tryz.underlying310
 a70:=Tryz.isAgg310
 z70:=Tryz.sizeOf310
 v70:=Tryz.zeroValue310
 t72:=Tryz.underlying312
 a72:=Tryz.isAgg312
 z72:=Tryz.sizeOf312
 v72:=Tryz.zeroValue312
 t127:=Tryz.underlying355
 a127:=Tryz.isAgg355
 z127:=Tryz.sizeOf355
 v127:=Tryz.zeroValue355}
def Builder_Extra_169:Builder.Extra Tryz.prog lays169_ren:={
 sizeBuilder:=oo
 liesBuilder:=oo
 t5:=Tryz.underlying5
 a5:=Tryz.isAgg5
 z5:=Tryz.sizeOf5
 v5:=Tryz.zeroValue5
 infoByte:=oo
 cellsByte:=oo
 sizeByte:=oo
 neB5:=by decide}
def Fp(B b:O)(bs:E jD)(c:I)(w:jC)(h:dX 312 5 B b bs w)(a:bs.length+1<=140737488355328)(d:B<=w.heap.size):jE Tryz.prog 187 #[jO b,c? p? c] w λe w'=>e=a? j?/\(fN 312 5 B b (e? (aC b)) (bs++[c? p? c]) w'/\Below B w w'/\eh 5 (M b) w w'):=
 Any.Builder_WriteByte_k lays167 Builder_Extra_167 B b bs c w h a d
def yd(B b:O)(bs:E jD)(r:I)(c: -2147483648<=r)(f:r<=2147483647)(w:jC)(h:dX 312 5 B b bs w)(a:bs.length+4<=140737488355328)(d:B<=w.heap.size):jE Tryz.prog 188 #[jO b,c? q? r] w λe w'=>e=a? (d? #[jJ (iS r).length,j?])/\(fN 312 5 B b (e? (aC b)) (bs++iS r) w'/\Below B w w'/\eh 5 (M b) w w'):=
 Any.Builder_WriteRune_k lays168 Builder_Extra_168 B b bs r c f w h a d
def OH(B b:O)(l:E y?)(w:jC)(h:dX 312 5 B b (dV l) w)(a:B<=w.heap.size):jE Tryz.prog 172 #[jO b] w λe w'=>e=a? (f? ⟨l.toArray⟩)/\(dX 312 5 B b (dV l) w'/\Below B w w'/\eh 5 (M b) w w'):=
 Any.Builder_String_any_k lays169 Builder_Extra_169 B b l w h a
end
variable{P:bi3}{w:jC}{m clock:O}{es:x? bk4}{T kt et:jH}{c:I}{v:jD}
def Qu(b:w.heap[m]? =some (.map es clock))(d:P.underlying T=some (.map kt et))(a:P.underlying kt=some (.int .i32))(g:eI (.int .i32) (.int .i32 c) es.toList 0=some none):(fG T (.map (some m)) (.int .i32 c) v).run P w=.ok () (w.putObj m (.map (es.push {key:=.int .i32 c,val:=v,born:=clock}) (clock+1))):=by
 have e:=Go.MapKept.run_checkKey (w:=w) a (k:=.int .i32 c) rfl false 9999;have f:=Go.MapKept.run_findKey (w:=w) a g;simp only[fG,eT,bi8 d,dw,getObj,Sem.run,b,e,f,setObj];rfl
variable{W:jC}
def sh(b:W.heap.size=m)(d:P.underlying T=some (.map kt et))(a:P.underlying kt=some (.int .i32))(e:eI (.int .i32) (.int .i32 c) es.toList 0=some none):(fG T (.map (some m)) (.int .i32 c) v).run P (W.alloc (.map es clock))=.ok () (W.alloc (.map (es.push {key:=.int .i32 c,val:=v,born:=clock}) (clock+1))):=by
 subst b;rw[Qu (du _ _) d a e];congr 1;simp only[World.putObj,World.alloc];congr 1;apply Array.ext';simp[Array.setIfInBounds,Array.toList_push]
def xI{i:Nat}(b:w.heap[m]? =some (.map es clock))(d:P.underlying T=some (.map kt et))(a:P.underlying kt=some (.int .i32))(g:eI (.int .i32) (.int .i32 c) es.toList 0=some (some (i,v))):(eU T (.map (some m)) (.int .i32 c) true).run P w=.ok (.tuple #[v,.bool true]) w:=by
 have e:=Go.MapKept.run_checkKey (w:=w) a (k:=.int .i32 c) rfl es.isEmpty 9999;have f:=Go.MapKept.run_findKey (w:=w) a g;simp only[eU,eT,bi8 d,dw,getObj,Sem.run,b,fX,e,f];rfl
def Av{z:jD}(b:w.heap[m]? =some (.map es clock))(d:P.underlying T=some (.map kt et))(a:P.underlying kt=some (.int .i32))(f:eI (.int .i32) (.int .i32 c) es.toList 0=some none)(e:(zeroValue et).run P w=.ok z w):(eU T (.map (some m)) (.int .i32 c) true).run P w=.ok (.tuple #[z,.bool false]) w:=by
 have g:=Go.MapKept.run_checkKey (w:=w) a (k:=.int .i32 c) rfl es.isEmpty 9999;have h:=Go.MapKept.run_findKey (w:=w) a f;simp only[eU,eT,bi8 d,dw,getObj,Sem.run,b,fX,g,h,e];rfl
def u7(g:O):x? bk4:=#[{key:=.int q? 61,val:=.func (.func 207) #[jO g] #[],born:=0},{key:=.int q? 44,val:=.func (.func 208) #[jO g] #[],born:=1},{key:=.int q? 92,val:=.func (.func 209) #[jO g] #[],born:=2}]
structure RS where
 nm:v?
 vl:v?
 place:I
 runes:I
 l:E kI
def RS.zero:RS:=⟨⟨#[]⟩,⟨#[]⟩,0,0,[]⟩
def lZ(B g m:Nat)(s:RS)(W:jC):Prop:=
 B<=g/\B<=m/\W.heap[m]? =some (.map (u7 g) 3)/\∃a,jR W g 324 #[jL s.nm,jL s.vl,jJ s.place,jJ s.runes,a,.map (some m)]/\W.ownsRow B 71 2 a s.l.length (k_ s.l)
def B_(w:jC):jE Tryz.prog 174 #[] w λe w'=>e=.returned (.pointer (aM w))/\lZ w w (w.heap.size+1) RS.zero w'/\Below w w w':=by
 have a:(w.alloc (.cells #[aF,aF,jJ 0,jJ 0,jM,.map none] 324)).heap.size=w.heap.size+1:=lV;have g:=λv=>sh (P:=Tryz.prog) (T:=322) (c:=61) (v:=v) (es:=#[]) (clock:=0) a Tryz.underlying322 Tryz.underlying21 rfl;have j:=λv d=>sh (P:=Tryz.prog) (T:=322) (c:=44) (v:=v) (es:=#[{key:=.int .i32 61,val:=d,born:=0}]) (clock:=1) a Tryz.underlying322 Tryz.underlying21 rfl;have f:=λv d b=>sh (P:=Tryz.prog) (T:=322) (c:=92) (v:=v) (es:=#[{key:=.int .i32 61,val:=d,born:=0},{key:=.int .i32 44,val:=b,born:=1}]) (clock:=2) a Tryz.underlying322 Tryz.underlying21 rfl;simp only[fW,dz,dj,au,ao]at g j f;have k:=@run_makeMap Tryz.prog;go_in;go_wp2;go_ret;refine⟨rfl,⟨ay _,dU _,?_,jM,(jR.new w _ _).alloc _,dY _ _ _ _⟩,jP (jP (jQ _) _) _⟩;have h:=du (w.alloc (.cells #[aF,aF,jJ 0,jJ 0,jM,.map (some (w.heap.size+1))] 324)) (.map (u7 w) 3);rw[show(w.alloc (.cells #[aF,aF,jJ 0,jJ 0,jM,.map (some (w.heap.size+1))] 324)).heap.size=w.heap.size+1 by simp]at h;exact h
def kQ(B g m:O)(w:jC)(r:w? RS)(e:bi6)(w':jC):Prop:=
 Below B w w'/\eh 71 (M g) w w'/\(match r with
  |some s'=>e=a? j?/\lZ B g m s' w'
  |none=>(∃t,e=a? (i? 317 (g? #[jL t])))/\∃s',lZ B g m s' w')
variable{B g:O}{s:RS}{w':jC}{t:v?}
def kQ.err(a:Below B w w')(b:eh 71 (M g) w w')(h:lZ B g m s w'):kQ B g m w Z (a? (i? 317 (g? #[jL t]))) w':=⟨a,b,⟨t,rfl⟩,s,h⟩
def kQ.ok(a:Below B w w')(b:eh 71 (M g) w w')(h:lZ B g m s w'):kQ B g m w (M s) (a? j?) w':=⟨a,b,rfl,h⟩
variable{r:w? RS}{e:bi6}
def kQ.chain{a:jC}(h:kQ B g m w r e w')(b:Below B a w)(c:eh 71 (M g) a w):kQ B g m a r e w':=⟨b.trans h.1,c.trans h.2.1,h.2.2⟩
variable{n:O}{xs:E jD}{cs:x? jD}
def LT{o:O}{u:jD}(h:W.ownsRow B 71 2 v n xs)(j:jR W g 324 cs):(W.setCell ⟨g,o,Z⟩ u).ownsRow B 71 2 v n xs:=by
 obtain⟨c,h|⟨r,cap,cur,f,b,a,l,d,e,k⟩⟩:=h
 .exact⟨c,r? h⟩
 refine⟨c,s? ⟨r,cap,cur,f,b,(Below.heap_setCell W ⟨g,o,Z⟩ u r ?_).trans a,l,d,e,k⟩⟩;rintro rfl;rw[show W.heap[r]? =_ from j]at a;injection a with a;injection a with _ a;exact H? a B8
def Qs{c:Nat}{t:jH}(a:W.heap[m]? =some (.map es c))(b:jR W g t cs):m≠g:=by
 rintro rfl;rw[show W.heap[m]? =_ from b]at a
 cases a
variable{s':RS}
def lZ.set{i:Nat}{u:jD}(h:lZ B g m s W)(e:s'.l=s.l)(k:∀a,(#[.string s.nm,.string s.vl,.int .i64 s.place,.int .i64 s.runes,a,.map (some m)]:Array jD).setIfInBounds i u=#[.string s'.nm,.string s'.vl,.int .i64 s'.place,.int .i64 s'.runes,a,.map (some m)]):lZ B g m s' (W.setCell ⟨g,i,none⟩ u):=by
 obtain⟨f,c,d,a,b,j⟩:=h;refine⟨f,c,(Below.heap_setCell W ⟨g,i,none⟩ u m (Qs d b)).trans d,a,?_,by rw[e];exact LT j b⟩;have:=b.kY i u;rw[k a]at this;exact this
def lZ.fr(h:lZ B g m s W)(a:Below B w W)(b:eh 71 (M g) w W)(i:O)(u:jD):Below B w (W.setCell ⟨g,i,Z⟩ u)/\eh 71 (M g) w (W.setCell ⟨g,i,Z⟩ u):=
 ⟨a.setCell h.1 _,b.setCell _ rfl _⟩
def encR(d:O×O):v?:=Utf8.encode (d.1:I)
def pN(s:RS)(d:O×O):w? RS:=
 if s.place=0 then(if lD d=t?/\s.nm.size<12 then M {s with nm:=s.nm++encR d}else Z)
 else(if lm d=t?/\s.runes<24 then M {s with vl:=s.vl++encR d,runes:=s.runes+1}else Z)
def uz(s:RS)(d:O×O):w? RS:=if s.place=1 then pN s d else if tx s.nm=[]then Z else M {s with place:=1}
def xv(s:RS):w? RS:=if s.place=0 then Z else M {s with place:=2}
structure RS.Ok(s:RS):Prop where
 nm:s.nm.size<=12
 vl:(s.vl.size:I)<=4*s.runes
 r0:0<=s.runes
 r24:s.runes<=24
 l:s.l.length<=6
def Qd(B g m:O)(s:RS)(d:O×O)(q:d.1<=1114111)(w:jC)(h:lZ B g m s w)(G:s.Ok)(f:s.place=0)(p:lD d=t?)(F:s.nm.size<12):jE Tryz.prog 210 (lI 36 g d) w (kQ B g m w (M {s with nm:=s.nm++encR d})):=by
 obtain⟨b,V,place,c,l⟩:=s;obtain⟨Q,D,r,L,C⟩:=G;simp only at Q D r L C f F;have y:=h;obtain⟨T,t,R,J,a,K⟩:=h;simp only at a K;have c0:=ce a 0;have c1:=ce a 1;have c2:=ce a 2;have Y:=ce a 3;have X:=a.frozen 0;have f1:=a.frozen 1;have W:=a.frozen 2;have f3:=a.frozen 3;have n:=ah y;subst f;obtain⟨x,k⟩:∃x,Utf8.encode (d.1:I)=x:=⟨_,rfl⟩;have A:x.size<=4:=by rw[<-k];exact encode_size_le _
 have o:fK .add b x=pure (f? (b++x)):=by
  rw[fK,A?];show¬((b.size+x.size:O):I)>9223372036854775807;omega
 have z:((b.size:I)==12)=u?:=O1;have H:(b.size==12)=u?:=O1;have N:Hid (encR d=x):=k;go_in;go_wp2_with fail;refine(oM d _ q).mono ?_;rintro e w1⟨rfl,rfl⟩;rw[p];go_wp2_with fail;go_ret;have j:=n.fr (Below.refl _ _) (Lib.OthersKept.refl _ _ _) 0 (f? (b++x));exact kQ.ok j.1 j.2 (n.set rfl (λJ=>by rw[N];rfl))
def Qc(B g m:O)(s:RS)(d:O×O)(j:d.1<=1114111)(w:jC)(h:lZ B g m s w)(r:s.Ok)(c:s.place=0)(f:lD d=u?):jE Tryz.prog 210 (lI 36 g d) w (kQ B g m w Z):=by
 obtain⟨P,D,place,b,l⟩:=s;obtain⟨z,q,k,y,p⟩:=r;simp only at z q k y p c;have o:=h;obtain⟨C,n,A,G,a,x⟩:=h;simp only at a x;have c0:=ce a 0;have c1:=ce a 1;have c2:=ce a 2;have J:=ce a 3;have H:=a.frozen 0;have L:=a.frozen 1;have F:=a.frozen 2;have K:=a.frozen 3;have t:=ah o;subst c;go_in;go_wp2_with fail;refine(oM d _ j).mono ?_;rintro e N⟨rfl,rfl⟩;rw[f];go_wp2;go_ret;exact kQ.err (Below.refl _ _) (Lib.OthersKept.refl _ _ _) t
def Qb(B g m:O)(s:RS)(d:O×O)(k:d.1<=1114111)(w:jC)(h:lZ B g m s w)(y:s.Ok)(c:s.place=0)(j:lD d=t?)(x:¬s.nm.size<12):jE Tryz.prog 210 (lI 36 g d) w (kQ B g m w Z):=by
 obtain⟨f,J,place,b,l⟩:=s;obtain⟨F,t,n,D,r⟩:=y;simp only at F t n D r c x;have p:=h;obtain⟨H,o,G,L,a,C⟩:=h;simp only at a C;have c0:=ce a 0;have c1:=ce a 1;have c2:=ce a 2;have Q:=ce a 3;have N:=a.frozen 0;have T:=a.frozen 1;have K:=a.frozen 2;have R:=a.frozen 3;have A:=ah p;subst c;have q:((f.size:I)==12)=t?:=TQ;have z:(f.size==12)=t?:=TQ;go_in;go_wp2_with fail;refine(oM d _ k).mono ?_;rintro e V⟨rfl,rfl⟩;rw[j];go_wp2;go_ret;exact kQ.err (Below.refl _ _) (Lib.OthersKept.refl _ _ _) A
def Qa(B g m:O)(s:RS)(d:O×O)(t:d.1<=1114111)(w:jC)(h:lZ B g m s w)(J:s.Ok)(hp:¬s.place=0)(r:lm d=t?)(H:s.runes<24):jE Tryz.prog 210 (lI 36 g d) w (kQ B g m w (M {s with vl:=s.vl++encR d,runes:=s.runes+1})):=by
 obtain⟨T,c,place,a,l⟩:=s;obtain⟨R,G,y,N,F⟩:=J;simp only at R G y N F hp H;have A:=h;obtain⟨W,z,V,n,b,L⟩:=h;simp only at b L;have c0:=ce b 0;have c1:=ce b 1;have c2:=ce b 2;have c3:=ce b 3;have Y:=b.frozen 0;have f1:=b.frozen 1;have X:=b.frozen 2;have f3:=b.frozen 3;have p:=ah A;have K:(place==0)=u?:=VV;obtain⟨x,o⟩:∃x,Utf8.encode (d.1:I)=x:=⟨_,rfl⟩;have D:x.size<=4:=by rw[<-o];exact encode_size_le _
 have q:fK .add c x=pure (f? (c++x)):=by
  rw[fK,A?];show¬((c.size+x.size:O):I)>9223372036854775807;omega
 have C:(a==24)=u?:=by rw[G?];omega
 have Q:Hid (encR d=x):=o;go_in;go_wp2_with fail;refine(oz d _ t).mono ?_;rintro e w1⟨rfl,rfl⟩;rw[r];go_wp2_with fail;go_ret;have k:=p.fr (Below.refl _ _) (Lib.OthersKept.refl _ _ _) 1 (f? (c++x));have j:lZ B g m ⟨T,c++encR d,place,a,l⟩ _:=p.set rfl (i:=1) (u:=f? (c++x)) (λn=>by rw[Q];rfl);have f:=j.fr k.1 k.2 3 (c? o? (a+1));exact kQ.ok f.1 f.2 (j.set rfl (λn=>rfl))
def P_(B g m:O)(s:RS)(d:O×O)(f:d.1<=1114111)(w:jC)(h:lZ B g m s w)(q:s.Ok)(hp:¬s.place=0)(c:lm d=u?):jE Tryz.prog 210 (lI 36 g d) w (kQ B g m w Z):=by
 obtain⟨Q,D,place,b,l⟩:=s;obtain⟨z,p,j,y,o⟩:=q;simp only at z p j y o hp;have n:=h;obtain⟨C,k,A,G,a,x⟩:=h;simp only at a x;have c0:=ce a 0;have c1:=ce a 1;have c2:=ce a 2;have J:=ce a 3;have H:=a.frozen 0;have L:=a.frozen 1;have F:=a.frozen 2;have K:=a.frozen 3;have t:=ah n;have r:(place==0)=u?:=VV;go_in;go_wp2_with fail;refine(oz d _ f).mono ?_;rintro e N⟨rfl,rfl⟩;rw[c];go_wp2;go_ret;exact kQ.err (Below.refl _ _) (Lib.OthersKept.refl _ _ _) t
def P9(B g m:O)(s:RS)(d:O×O)(f:d.1<=1114111)(w:jC)(h:lZ B g m s w)(t:s.Ok)(hp:¬s.place=0)(c:lm d=t?)(r:¬s.runes<24):jE Tryz.prog 210 (lI 36 g d) w (kQ B g m w Z):=by
 obtain⟨T,G,place,b,l⟩:=s;obtain⟨C,q,j,A,p⟩:=t;simp only at C q j A p hp r;have n:=h;obtain⟨F,k,D,J,a,z⟩:=h;simp only at a z;have c0:=ce a 0;have c1:=ce a 1;have c2:=ce a 2;have L:=ce a 3;have K:=a.frozen 0;have Q:=a.frozen 1;have H:=a.frozen 2;have N:=a.frozen 3;have y:=ah n;have x:(place==0)=u?:=VV;have o:(b==24)=t?:=TQ;go_in;go_wp2_with fail;refine(oz d _ f).mono ?_;rintro e R⟨rfl,rfl⟩;rw[c];go_wp2;go_ret;exact kQ.err (Below.refl _ _) (Lib.OthersKept.refl _ _ _) y
def xB(B g m:O)(s:RS)(d:O×O)(j:d.1<=1114111)(w:jC)(h:lZ B g m s w)(f:s.Ok):jE Tryz.prog 210 (lI 36 g d) w (kQ B g m w (pN s d)):=by
 unfold pN;by_cases b:s.place=0
 .rw[B? b];by_cases a:lD d=t?/\s.nm.size<12
  .rw[B? a];exact Qd B g m s d j w h f b a.1 a.2
  rw[A? a]
  cases c:lD d with
  |false=>exact Qc B g m s d j w h f b c
  |true=>exact Qb B g m s d j w h f b c (λe=>a ⟨c,e⟩)
 rw[A? b];by_cases a:lm d=t?/\s.runes<24
 .rw[B? a];exact Qa B g m s d j w h f b a.1 a.2
 rw[A? a]
 cases c:lm d with
 |false=>exact P_ B g m s d j w h f b c
 |true=>exact P9 B g m s d j w h f b c (λe=>a ⟨c,e⟩)
def RY(B g m:O)(s:RS)(d:O×O)(n:d.1<=1114111)(w:jC)(h:lZ B g m s w)(k:s.Ok)(b:s.place=1):jE Tryz.prog 207 (lI 36 g d) w (kQ B g m w (pN s d)):=by
 have G:=ah (xB B g m s d n w h k);have z:=ah b;obtain⟨X,K,place,c,l⟩:=s;obtain⟨F,x,o,D,r⟩:=k;simp only at F x o D r b;have q:=h;obtain⟨J,p,H,N,a,C⟩:=h;simp only at a C;have c0:=ce a 0;have c1:=ce a 1;have c2:=ce a 2;have Q:=ce a 3;have P:=a.frozen 0;have V:=a.frozen 1;have L:=a.frozen 2;have T:=a.frozen 3;have R:=ah q;subst b;go_in;go_wp2_with fail;refine G.mono ?_;rintro e W j;obtain⟨v,A⟩:∃v,e=a? v:=by
  obtain⟨_,_,f⟩:=j;split at f
  .exact⟨_,f.1⟩
  obtain⟨⟨t,y⟩,_⟩:=f;exact⟨_,y⟩
 subst A;go_wp2;go_ret;exact j
def RX(B g m:O)(s:RS)(d:O×O)(C:d.1<=1114111)(w:jC)(h:lZ B g m s w)(p:s.Ok)(hp:¬s.place=1)(c:tx s.nm=[]):jE Tryz.prog 207 (lI 36 g d) w (kQ B g m w Z):=by
 obtain⟨e,F,place,b,l⟩:=s;obtain⟨y,o,f,x,n⟩:=p;simp only at y o f x n hp c;have k:=h;obtain⟨A,j,z,H,a,t⟩:=h;simp only at a t;have c0:=ce a 0;have c1:=ce a 1;have c2:=ce a 2;have L:=ce a 3;have J:=a.frozen 0;have Q:=a.frozen 1;have G:=a.frozen 2;have N:=a.frozen 3;have r:=ah k;have q:(place==1)=u?:=VV;have D:(e.toList==[])=t?:=by rw[km,c];rfl
 have K:e.toList=[]:=by rw[km,c]
 go_in;go_wp2;go_ret;exact kQ.err (Below.refl _ _) (Lib.OthersKept.refl _ _ _) r
def RW(B g m:O)(s:RS)(d:O×O)(K:d.1<=1114111)(w:jC)(h:lZ B g m s w)(y:s.Ok)(hp:¬s.place=1)(j:¬tx s.nm=[]):jE Tryz.prog 207 (lI 36 g d) w (kQ B g m w (M {s with place:=1})):=by
 obtain⟨b,N,place,f,l⟩:=s;obtain⟨G,t,o,F,r⟩:=y;simp only at G t o F r hp j;have q:=h;obtain⟨J,p,H,C,a,D⟩:=h;simp only at a D;have c0:=ce a 0;have c1:=ce a 1;have c2:=ce a 2;have T:=ce a 3;have R:=a.frozen 0;have W:=a.frozen 1;have Q:=a.frozen 2;have V:=a.frozen 3;have n:=ah q;have A:(place==1)=u?:=VV;have c:¬b.toList=[]:=by rw[km];exact j
 have z:(b.toList==[])=u?:=by simpa using c
 have L:b.toList.isEmpty=u?:=by rw[km];cases e:tx b with
  |nil=>exact H? e j
  |cons x l=>rfl
 go_in;go_wp2;go_ret;have k:=n.fr (Below.refl _ _) (Lib.OthersKept.refl _ _ _) 2 (c? o? 1);exact kQ.ok k.1 k.2 (n.set rfl (λC=>rfl))
def KK(B g m:O)(s:RS)(d:O×O)(e:d.1<=1114111)(w:jC)(h:lZ B g m s w)(c:s.Ok):jE Tryz.prog 207 (lI 36 g d) w (kQ B g m w (uz s d)):=by
 unfold uz;by_cases a:s.place=1
 .rw[B? a];exact RY B g m s d e w h c a
 rw[A? a];by_cases b:tx s.nm=[]
 .rw[B? b];exact RX B g m s d e w h c a b
 rw[A? b];exact RW B g m s d e w h c a b
def TK(B g m:O)(s:RS)(c:I)(w:jC)(h:lZ B g m s w)(p:s.Ok)(d:s.place=0):jE Tryz.prog 209 #[jO g,c? q? c] w (kQ B g m w Z):=by
 obtain⟨C,J,place,b,l⟩:=s;obtain⟨t,n,e,r,k⟩:=p;simp only at t n e r k d;have j:=h;obtain⟨y,f,x,A,a,q⟩:=h;simp only at a q;have c0:=ce a 0;have c1:=ce a 1;have c2:=ce a 2;have F:=ce a 3;have D:=a.frozen 0;have H:=a.frozen 1;have z:=a.frozen 2;have G:=a.frozen 3;have o:=ah j;subst d;go_in;go_wp2;go_ret;exact kQ.err (Below.refl _ _) (Lib.OthersKept.refl _ _ _) o
def TJ(B g m:O)(s:RS)(c:I)(w:jC)(h:lZ B g m s w)(r:s.Ok)(hp:¬s.place=0):jE Tryz.prog 209 #[jO g,c? q? c] w (kQ B g m w (M {s with place:=2})):=by
 obtain⟨D,K,place,b,l⟩:=s;obtain⟨y,q,k,x,p⟩:=r;simp only at y q k x p hp;have o:=h;obtain⟨A,n,z,j,a,t⟩:=h;simp only at a t;have c0:=ce a 0;have c1:=ce a 1;have c2:=ce a 2;have G:=ce a 3;have F:=a.frozen 0;have J:=a.frozen 1;have C:=a.frozen 2;have H:=a.frozen 3;have e:=ah o;have f:(place==0)=u?:=VV;go_in;go_wp2;go_ret;have d:=e.fr (Below.refl _ _) (Lib.OthersKept.refl _ _ _) 2 (c? o? 2);exact kQ.ok d.1 d.2 (e.set rfl (λj=>rfl))
def Nn(B g m:O)(s:RS)(c:I)(w:jC)(h:lZ B g m s w)(b:s.Ok):jE Tryz.prog 209 #[jO g,c? q? c] w (kQ B g m w (xv s)):=by
 unfold xv;by_cases a:s.place=0
 .rw[B? a];exact TK B g m s c w h b a
 rw[A? a];exact TJ B g m s c w h b a
section
variable{P:bi3}{ops:x? bk0}{Q:bk7->Act->jC->Prop}{md:fD}{S:jC->Prop}{s:O}
end
def oC(s:RS):w? RS:=if s.place=1 then(if s.l.length<6 then M ⟨⟨#[]⟩,⟨#[]⟩,0,0,s.l++[(s.nm,s.vl)]⟩else Z)else Z
def ae3(B g m:O)(s:RS)(w:jC)(h:lZ B g m s w)(o:s.Ok)(hp:¬s.place=1):jE Tryz.prog 176 #[jO g] w (kQ B g m w Z):=by
 obtain⟨C,J,place,b,l⟩:=s;obtain⟨t,k,d,r,j⟩:=o;simp only at t k d r j hp;have f:=h;obtain⟨y,e,x,A,a,q⟩:=h;simp only at a q;have c0:=ce a 0;have c1:=ce a 1;have c2:=ce a 2;have F:=ce a 3;have D:=a.frozen 0;have H:=a.frozen 1;have z:=a.frozen 2;have G:=a.frozen 3;have n:=ah f;have c:(place !=1)=t?:=by simp[hp]
 have p:(place==1)=u?:=VV;go_in;go_wp2;go_ret;exact kQ.err (Below.refl _ _) (Lib.OthersKept.refl _ _ _) n
def ae2(B g m:O)(s:RS)(w:jC)(h:lZ B g m s w)(r:s.Ok)(d:s.place=1)(q:¬s.l.length<6):jE Tryz.prog 176 #[jO g] w (kQ B g m w Z):=by
 obtain⟨X,H,place,b,l⟩:=s;obtain⟨z,p,f,y,o⟩:=r;simp only at z p f y o d q;have k:=h;obtain⟨C,j,e,L,a,c⟩:=h;simp only at a c;have c0:=ce a 0;have c1:=ce a 1;have c2:=ce a 2;have R:=ce a 3;have N:=a.frozen 0;have V:=a.frozen 1;have K:=a.frozen 2;have T:=a.frozen 3;have x:=ah k;obtain⟨A,W,rfl⟩:=CR c;have Q:=a.cell 4;have G:=a.frozen 4;have D:=ah c;have J:=ah a;have F:=ah e;subst d;have n:((l.length:I)==6)=t?:=TQ;have t:(l.length==6)=t?:=TQ;go_in;go_wp2;go_ret;exact kQ.err (Below.refl _ _) (Lib.OthersKept.refl _ _ _) x
def ae1(B g m:Nat)(s:RS)(w:jC)(h:lZ B g m s w)(hk:s.Ok)(hp:s.place=1)(hl:s.l.length<6):jE Tryz.prog 176 #[jO g] w (kQ B g m w (some ⟨⟨#[]⟩,⟨#[]⟩,0,0,s.l++[(s.nm,s.vl)]⟩)):=by
 obtain⟨f,d,place,b,l⟩:=s;obtain⟨k1,k2,k3,k4,k5⟩:=hk;simp only at k1 k2 k3 k4 k5 hp hl;have y:=h;obtain⟨hB,η,hm,Y,n,ho⟩:=h;simp only at n ho;have c0:=ce n 0;have c1:=ce n 1;have c2:=ce n 2;have F:=ce n 3;have f0:=n.frozen 0;have f1:=n.frozen 1;have f2:=n.frozen 2;have f3:=n.frozen 3;have HR:=ah y;obtain⟨A,H,rfl⟩:=CR ho;have c4:w.cell? ⟨g,4,none⟩=some (.slice A l.length H):=n.cell 4;have f4:=n.frozen 4;have HO:=ah ho;have OX:=ah n;have HM:=ah hm;clear hm ho n y;subst hp;have ν:((l.length:Int)==6)=false:=by rw[beq_eq_false_iff_ne];omega
 have μ:(l.length==6)=false:=by rw[beq_eq_false_iff_ne];omega
 obtain⟨i0,δ,θ,α,κ⟩:=bi5 Tryz.Mc;go_in;go_wp2_with fail;refine kG (S:=λw'=>w'.cell? ⟨g,4,none⟩=some (.slice A l.length H)/\w'.cell? ⟨g,0,none⟩=some (.string f)/\w'.cell? ⟨g,1,none⟩=some (.string d)) (s:=13) (by kernel_rfl) ?_;refine sU ⟨c4,c0,c1⟩ ?_;refine oY 9 λK t=>?_;go_simp;have C:Below w w ((w.alloc (lI 61 f d)).drew):=below_drewN (jP (jQ w) (lI 61 f d)) 1;have NB:Hid (jR ((w.alloc (lI 61 f d)).drew) w 71 #[jL f,jL d]):=(jR.new w 71 #[jL f,jL d]).drew;have xe:Hid (((w.alloc (lI 61 f d)).drew).ownsRow B 71 2 (.slice A l.length H) l.length (k_ l)):=(World.ownsRow.alloc HO _);have V:Hid (eh 71 (some g) w ((w.alloc (lI 61 f d)).drew)):=((Lib.OthersKept.refl _ _ w).alloc _).drew;have N:Hid (Below B w ((w.alloc (lI 61 f d)).drew)):=C.mono (by have:=OX.lt;omega);have X:Hid (((w.alloc (lI 61 f d)).drew).heap[m]? =some (.map (u7 g) 3)):=(C.block m (aw.1 HM).1).trans HM;have G:=ah (OX.later C);clear C OX HM HO HR c0 c1 c2 F c4 f0 f1 f2 f3 f4;generalize(w.alloc (lI 61 f d)).drew=W2 at*;have d0:=ce G 0;have d1:=ce G 1;have L:=ce G 4;refine t.out _ _ (λ_=>⟨L,d0,d1⟩) ?_;clear t K;refine az ?_;refine oY 10 λK t=>?_;refine tg rfl (.tmp 22) (.tmp 27) 72 rfl B 71 i0 (.agg #[aF,aF]) 2 32 Tryz.underlying72 δ θ α κ rfl (by decide) (.slice A l.length H) l.length _ rfl xe (w.heap.size+1) (aM w) 1 1 [jL f,jL d] rfl (by simp) (JJ (cs:=[jL f,jL d]) NB) (by intro u hu;simp at hu;rcases hu with rfl|rfl<;>rfl) (by unfold maxLen;omega) (by omega) (by have:=G.lt;omega) ?_;intro J F D x q;have j:=TV xe;have W:∀r,(eo A l.length H).ownBlock=some r->r≠g:=λr y e=>by
  obtain⟨_,c,fz,z⟩:=j r y;subst e;rw[show W2.heap[r]? =_ from G]at z;injection z with z;injection z with _ z;exact absurd z (by decide)
 have R:∀r,(eo A l.length H).ownBlock=some r->r≠m:=λr y e=>by
  obtain⟨_,c,fz,z⟩:=j r y;subst e;rw[X]at z
  cases z
 have k:Hid (jR D g 324 #[jL f,jL d,jJ 1,jJ b,jN A l H,.map (some m)]):=G.grown q (λe=>W _ e.symm rfl);have Fk:Hid (D.heap[m]? =some (.map (u7 g) 3)):=(q.block m (aw.1 X).1 (λe=>R _ e.symm rfl)).trans X;have ε:Hid (eh 71 (some g) w D):=V.grown q (λr y=>(j r y).2);have γ:Hid (Below B w D):=N.grown q (by have:=G.lt;omega) (λr y=>(j r y).1);have w_:Hid (D.ownsRow B 71 2 (.slice J (l.length+1) F) (l.length+1) (k_ (l++[(f,d)]))):=by show gX _ _ _ _ _ _ _;rw[AW];exact x
 clear x q j W R G X V N xe NB d0 d1 L;have d0:=ce k 0;have d1:=ce k 1;have L:=ce k 4;refine t.out _ _ (λ_=>⟨L,d0,d1⟩) ?_;clear t K;refine az ?_;refine oY 11 λK t=>?_;go_simp;refine t.out _ _ (λ_=>⟨L,d0,d1⟩) ?_;clear t K;refine az ?_;refine sU ⟨L,d0,d1⟩ ?_;have f0:=k.frozen 0;have f1:=k.frozen 1;have f2:=k.frozen 2;have f3:=k.frozen 3;have f4:=k.frozen 4;refine oY 13 λK t=>?_;go_simp;refine t.out _ _ (λh=>by cases h) ?_;clear t K;refine az ?_;refine yi ?_;have d2:=ce k 2;have d3:=ce k 3;go_wp2_with fail;go_ret;have T:lZ B g m ⟨f,d,1,b,l++[(f,d)]⟩ (D.setCell ⟨g,4,none⟩ (.slice J (l.length+1) F)):=by
  refine⟨hB,η,(Below.heap_setCell D ⟨g,4,none⟩ _ m (Qs Fk k)).trans Fk,.slice J (l.length+1) F,k.kY 4 _,?_⟩;have:=LT (o:=4) (u:=.slice J (l.length+1) F) w_ k;simpa using this
 have b4:Below B w (D.setCell ⟨g,4,none⟩ (.slice J (l.length+1) F)):=γ.setCell hB _;have β:eh 71 (some g) w (D.setCell ⟨g,4,none⟩ (.slice J (l.length+1) F)):=ε.setCell _ rfl _;have r0:lZ B g m ⟨⟨#[]⟩,d,1,b,l++[(f,d)]⟩ _:=T.set (i:=0) (u:=aF) rfl (λY=>rfl);have q0:=T.fr b4 β 0 (aF);have r1:lZ B g m ⟨⟨#[]⟩,⟨#[]⟩,1,b,l++[(f,d)]⟩ _:=r0.set (i:=1) (u:=aF) rfl (λY=>rfl);have q1:=r0.fr q0.1 q0.2 1 (aF);have r2:lZ B g m ⟨⟨#[]⟩,⟨#[]⟩,0,b,l++[(f,d)]⟩ _:=r1.set (i:=2) (u:=.int .i64 0) rfl (λY=>rfl);have q2:=r1.fr q1.1 q1.2 2 (.int .i64 0);have r3:lZ B g m ⟨⟨#[]⟩,⟨#[]⟩,0,0,l++[(f,d)]⟩ _:=r2.set (i:=3) (u:=.int .i64 0) rfl (λY=>rfl);have q3:=r2.fr q2.1 q2.2 3 (.int .i64 0);exact kQ.ok q3.1 q3.2 r3
def Mq(B g m:O)(s:RS)(w:jC)(h:lZ B g m s w)(c:s.Ok):jE Tryz.prog 176 #[jO g] w (kQ B g m w (oC s)):=by
 unfold oC;by_cases a:s.place=1
 .rw[B? a];by_cases b:s.l.length<6
  .rw[B? b];exact ae1 B g m s w h c a b
  rw[A? b];exact ae2 B g m s w h c a b
 rw[A? a];exact ae3 B g m s w h c a
def kQ.form(c:kQ B g m w r e w'):∃v,e=a? v:=by
 obtain⟨_,_,a⟩:=c;split at a
 .exact⟨_,a.1⟩
 obtain⟨⟨t,b⟩,_⟩:=a;exact⟨_,b⟩
def OB(B g m:O)(s:RS)(c:I)(w:jC)(h:lZ B g m s w)(b:s.Ok):jE Tryz.prog 208 #[jO g,c? q? c] w (kQ B g m w (oC s)):=by
 have Q:=ah (Mq B g m s w h b);go_in;go_wp2_with fail;refine Q.mono ?_;rintro e d a;obtain⟨v,rfl⟩:=a.form;go_wp2;go_ret;exact a
def qk(s:RS)(d:O×O):w? RS:=
 if s.place=2 then pN {s with place:=1} d
 else if d.1=61 then uz s d else if d.1=44 then oC s else if d.1=92 then xv s else pN s d
variable{d:O×O}
def KE(e:¬d.1=61/\¬d.1=44/\¬d.1=92):eI (.int .i32) (.int .i32 (d.1:Int)) (u7 g).toList 0=some none:=by
 have c:((d.1:Int)==61)=false:=O1;have a:((d.1:Int)==44)=false:=O1;have b:((d.1:Int)==92)=false:=O1;simp only[u7,eI,Instr.sameNow,if_true,c,a,b]
def WO(B g m:O)(s:RS)(d:O×O)(D:d.1<=1114111)(w:jC)(h:lZ B g m s w)(G:s.Ok)(f:s.place=2):jE Tryz.prog 175 (lI 36 g d) w (kQ B g m w (pN {s with place:=1} d)):=by
 obtain⟨C,t,place,b,l⟩:=s;obtain⟨A,r,n,z,q⟩:=G;simp only at A r n z q f;have o:=h;obtain⟨J,F,j,H,a,y⟩:=h;simp only at a y;have c0:=ce a 0;have c1:=ce a 1;have c2:=ce a 2;have R:=ce a 3;have N:=a.frozen 0;have V:=a.frozen 1;have L:=a.frozen 2;have T:=a.frozen 3;have x:=ah o;have P:=a.cell 5;have K:=ah j;clear j y a o;subst f;have c:lZ B g m ⟨C,t,1,b,l⟩ (w.setCell ⟨g,2,Z⟩ (c? o? 1)):=x.set (i:=2) (u:=c? o? 1) rfl (λH=>rfl);have k:=ah (x.fr (Below.refl _ _) (Lib.OthersKept.refl _ _ _) 2 (c? o? 1));have Q:=ah (xB B g m ⟨C,t,1,b,l⟩ d D _ c ⟨A,r,n,z,q⟩);go_in;go_wp2_with fail;refine Q.mono ?_;rintro e W p;obtain⟨v,rfl⟩:=p.form;go_wp2;go_ret;exact p.chain k.out.1 k.out.2
def PA(B g m:O)(s:RS)(d:O×O)(y:d.1<=1114111)(w:jC)(h:lZ B g m s w)(C:s.Ok)(c:¬s.place=2)(q:d.1=61):jE Tryz.prog 175 (lI 36 g d) w (kQ B g m w (uz s d)):=by
 obtain⟨J,D,place,b,l⟩:=s;obtain⟨x,p,j,t,o⟩:=C;simp only at x p j t o c;have k:=h;obtain⟨K,z,f,N,a,r⟩:=h;simp only at a r;have c0:=ce a 0;have c1:=ce a 1;have c2:=ce a 2;have T:=ce a 3;have P:=a.frozen 0;have W:=a.frozen 1;have L:=a.frozen 2;have V:=a.frozen 3;have G:=ah k;have R:w.cell? ⟨g,5,Z⟩=M (.map (M m)):=a.cell 5;have A:=ah f;clear f r a k;have F:(place==2)=u?:=by rw[G?];exact c
 have H:(eU 322 (.map (M m)) (.int q? (d.1:I)) t?).run Tryz.prog w=.ok (.tuple #[.func (.func 207) #[jO g] #[],.bool t?]) w:=xI (es:=u7 g) A Tryz.underlying322 Tryz.underlying21 (i:=0) (by rw[q];rfl);have Q:=ah (KK B g m ⟨J,D,place,b,l⟩ d y w G ⟨x,p,j,t,o⟩);clear q;go_in;go_wp2_with fail;refine Q.mono ?_;rintro e X n;obtain⟨v,rfl⟩:=n.form;go_wp2;go_ret;exact n
def PB(B g m:O)(s:RS)(d:O×O)(K:d.1<=1114111)(w:jC)(h:lZ B g m s w)(A:s.Ok)(c:¬s.place=2)(q:d.1=44):jE Tryz.prog 175 (lI 36 g d) w (kQ B g m w (oC s)):=by
 obtain⟨H,C,place,b,l⟩:=s;obtain⟨x,p,j,t,o⟩:=A;simp only at x p j t o c;have k:=h;obtain⟨J,y,f,N,a,r⟩:=h;simp only at a r;have c0:=ce a 0;have c1:=ce a 1;have c2:=ce a 2;have T:=ce a 3;have P:=a.frozen 0;have W:=a.frozen 1;have L:=a.frozen 2;have V:=a.frozen 3;have F:=ah k;have R:w.cell? ⟨g,5,Z⟩=M (.map (M m)):=a.cell 5;have z:=ah f;clear f r a k;have D:(place==2)=u?:=by rw[G?];exact c
 have G:(eU 322 (.map (M m)) (.int q? (d.1:I)) t?).run Tryz.prog w=.ok (.tuple #[.func (.func 208) #[jO g] #[],.bool t?]) w:=xI (es:=u7 g) z Tryz.underlying322 Tryz.underlying21 (i:=1) (by rw[q];rfl);have Q:=ah (OB B g m ⟨H,C,place,b,l⟩ (d.1:I) w F ⟨x,p,j,t,o⟩);clear q;go_in;go_wp2_with fail;refine Q.mono ?_;rintro e X n;obtain⟨v,rfl⟩:=n.form;go_wp2;go_ret;exact n
def Pz(B g m:O)(s:RS)(d:O×O)(K:d.1<=1114111)(w:jC)(h:lZ B g m s w)(A:s.Ok)(c:¬s.place=2)(q:d.1=92):jE Tryz.prog 175 (lI 36 g d) w (kQ B g m w (xv s)):=by
 obtain⟨H,C,place,b,l⟩:=s;obtain⟨x,p,j,t,o⟩:=A;simp only at x p j t o c;have k:=h;obtain⟨J,y,f,N,a,r⟩:=h;simp only at a r;have c0:=ce a 0;have c1:=ce a 1;have c2:=ce a 2;have T:=ce a 3;have P:=a.frozen 0;have W:=a.frozen 1;have L:=a.frozen 2;have V:=a.frozen 3;have F:=ah k;have R:w.cell? ⟨g,5,Z⟩=M (.map (M m)):=a.cell 5;have z:=ah f;clear f r a k;have D:(place==2)=u?:=by rw[G?];exact c
 have G:(eU 322 (.map (M m)) (.int q? (d.1:I)) t?).run Tryz.prog w=.ok (.tuple #[.func (.func 209) #[jO g] #[],.bool t?]) w:=xI (es:=u7 g) z Tryz.underlying322 Tryz.underlying21 (i:=2) (by rw[q];rfl);have Q:=ah (Nn B g m ⟨H,C,place,b,l⟩ (d.1:I) w F ⟨x,p,j,t,o⟩);clear q;go_in;go_wp2_with fail;refine Q.mono ?_;rintro e X n;obtain⟨v,rfl⟩:=n.form;go_wp2;go_ret;exact n
def WN(B g m:Nat)(s:RS)(d:Nat×Nat)(q:d.1<=1114111)(w:jC)(h:lZ B g m s w)(z:s.Ok)(hp:¬s.place=2)(y:¬d.1=61/\¬d.1=44/\¬d.1=92):jE Tryz.prog 175 (lI 36 g d) w (kQ B g m w (pN s d)):=by
 obtain⟨H,A,place,b,l⟩:=s;obtain⟨o,k,c,n,j⟩:=z;simp only at o k c n j hp;have t:=h;obtain⟨J,r,p,L,a,G⟩:=h;simp only at a G;have c0:=ce a 0;have c1:=ce a 1;have c2:=ce a 2;have T:=ce a 3;have N:=a.frozen 0;have W:=a.frozen 1;have K:=a.frozen 2;have V:=a.frozen 3;have D:=ah t;have R:=a.cell 5;have x:=ah p;have C:(place==2)=false:=VV;have F:=Av (es:=u7 g) x Tryz.underlying322 Tryz.underlying21 (KE y) (by rfl);have Q:=ah (xB B g m ⟨H,A,place,b,l⟩ d q w D ⟨o,k,c,n,j⟩);go_in;go_wp2_with fail;refine Q.mono ?_;rintro e X f;obtain⟨v,rfl⟩:=f.form;go_wp2;go_ret;exact f
def PC(B g m:O)(s:RS)(d:O×O)(c:d.1<=1114111)(w:jC)(h:lZ B g m s w)(b:s.Ok):jE Tryz.prog 175 (lI 36 g d) w (kQ B g m w (qk s d)):=by
 unfold qk;by_cases a:s.place=2
 .rw[B? a];exact WO B g m s d c w h b a
 rw[A? a];by_cases c1:d.1=61
 .rw[B? c1];exact PA B g m s d c w h b a c1
 rw[A? c1];by_cases c2:d.1=44
 .rw[B? c2];exact PB B g m s d c w h b a c2
 rw[A? c2];by_cases e:d.1=92
 .rw[B? e];exact Pz B g m s d c w h b a e
 rw[A? e];exact WN B g m s d c w h b a ⟨c1,c2,e⟩
def wO(a b:E y?):I:=if lsB a b=t? then -1 else if a=b then 0 else 1
def qg(a:v?)(w:jC):jE Tryz.prog 179 #[jL a] w λe w'=>e=a? (h? u?)/\w=w':=by
 have b:(a.toList==a.toList)=t?:=lV;go_in;go_wp2;go_ret;exact⟨rfl,rfl⟩
def If(a b:v?)(w:jC):jE Tryz.prog 133 #[jL a,jL b] w λe w'=>e=a? (c? o? (wO (tx a) (tx b)))/\w=w':=by
 cases h:lsB (tx a) (tx b)with
 |true=>
  have d:dW a.toList b.toList=t?:=by rw[km,km];exact h
  have c:Hid (wO (tx a) (tx b)= -1):=by show _=_;rw[wO,B? h]
  go_in;go_wp2_with fail;refine(qg a _).mono ?_;rintro e w'⟨rfl,rfl⟩;go_wp2_with fail;refine(qg b _).mono ?_;rintro e w'⟨rfl,rfl⟩;go_wp2;go_ret;exact⟨by rw[c];rfl,rfl⟩
 |false=>
  have d:dW a.toList b.toList=u?:=by rw[km,km];exact h
  by_cases e:tx a=tx b
  .have f:(a.toList==b.toList)=t?:=by rw[km,km,e];simp
   have c:Hid (wO (tx a) (tx b)=0):=by show _=_;rw[wO,A? (by rw[h];simp),B? e]
   go_in;go_wp2_with fail;refine(qg a _).mono ?_;rintro e w'⟨rfl,rfl⟩;go_wp2_with fail;refine(qg b _).mono ?_;rintro e w'⟨rfl,rfl⟩;go_wp2;go_ret;exact⟨by rw[c];rfl,rfl⟩
  have f:(a.toList==b.toList)=u?:=by rw[km,km];simpa using e
  have c:Hid (wO (tx a) (tx b)=1):=by show _=_;rw[wO,A? (by rw[h];simp),A? e]
  go_in;go_wp2_with fail;refine(qg a _).mono ?_;rintro e w'⟨rfl,rfl⟩;go_wp2_with fail;refine(qg b _).mono ?_;rintro e w'⟨rfl,rfl⟩;go_wp2;go_ret;exact⟨by rw[c];rfl,rfl⟩
def Se(x y:kI)(w:jC):jE Tryz.prog 132 #[g? #[jL x.1,jL x.2],g? #[jL y.1,jL y.2]] w λe w'=>e=a? (c? o? (wO (tx x.1) (tx y.1)))/\Below w w w':=by
 have T:Below w w ((w.alloc (m? #[jL x.1,jL x.2] 71)).alloc (m? #[jL y.1,jL y.2] 71)):=jP (jP (jQ _) _) _;have Q:=ah (λw=>If x.1 y.1 w);generalize wO (tx x.1) (tx y.1)=c at*;go_in;go_wp2_with fail;refine(Q _).mono ?_;rintro e w'⟨rfl,rfl⟩;go_wp2;go_ret;exact⟨rfl,T⟩
def UQ(a b:E y?):decide (wO a b<0)=lsB a b:=by
 unfold wO
 cases h:lsB a b with
 |true=>rfl
 |false=>rw[A? lV];split<;>rfl
def SortI(B r cap:O)(l:E kI)(w:jC)(cur:E kI)(wr:jC):Prop:=
 cur.Perm l/\wr.ownsRow B 71 2 (b? (aC r) cur.length cap) cur.length (k_ cur)/\Below B w wr
def SortI.cell{B r cap:O}{l:E kI}{w:jC}{cur:E kI}{wr:jC}(h:SortI B r cap l w cur wr){j:O}(b:j<cur.length):wr.cell? ⟨r,j*2,Z⟩=M (f? (k7 cur j).1)/\wr.cell? ⟨r,j*2+1,Z⟩=M (f? (k7 cur j).2):=by
 obtain⟨a,c⟩:=AY cur j b;exact⟨(h.2.1.cellAt (j*2) jS).trans a,(h.2.1.cellAt (j*2+1) jS).trans c⟩
def SortI.lt{B r cap:O}{l:E kI}{w:jC}{cur:E kI}{wr:jC}(h:SortI B r cap l w cur wr):r<wr.heap.size/\B<=r:=by
 have:=h.2.1.lt r rfl;exact⟨this.2,this.1⟩
variable{l cur:E kI}
def SortI.later{r cap:O}{wr:jC}(h:SortI B r cap l w cur wr)(a:Below wr wr w'):SortI B r cap l w cur w':=by
 refine⟨h.1,h.2.1.kept (row:=Z) ⟨a.os,a.tape,a.output,a.size,λi b _=>a.block i b⟩ (s? (by simp[gy])),h.2.2.trans (a.mono (by have:=h.lt;omega))⟩
def SortI.swap{r cap:O}{wr:jC}(h:SortI B r cap l w cur wr){j:O}(b:0<j)(c:j<cur.length):SortI B r cap l w (sN cur j) ((((wr.setCell ⟨r,j*2,Z⟩ (f? (k7 cur (j-1)).1)).setCell ⟨r,j*2+1,Z⟩ (f? (k7 cur (j-1)).2)).setCell ⟨r,(j-1)*2,Z⟩ (f? (k7 cur j).1)).setCell ⟨r,(j-1)*2+1,Z⟩ (f? (k7 cur j).2)):=by
 have a:=h.lt.2;refine⟨(Np b c).trans h.1,?_,(((h.2.2.setCell a _).setCell a _).setCell a _).setCell a _⟩;have:=((((h.2.1.stored (j*2) (f? (k7 cur (j-1)).1)).1.stored (j*2+1) (f? (k7 cur (j-1)).2)).1.stored ((j-1)*2) (f? (k7 cur j).1)).1.stored ((j-1)*2+1) (f? (k7 cur j).2)).1;rw[Dn,Dn]at this;rw[Cz];exact this
def zD(B r cap:O)(l:E kI)(w w':jC):Prop:=∃cur,SortI B r cap l w cur w'/\S_ cur cur.length
def GV(B r cap:O)(l:E kI)(hl:l.length<=12)(w:jC)(h0:SortI B r cap l w l w):jE Tryz.prog 211 #[.slice (aC r) l.length cap,jJ 0,jJ l.length,.func (.func 132) #[] #[]] w λe w'=>(∃v,e=a? v)/\zD B r cap l w w':=by
 have H0:=ah h0;go_in;go_wp2_with fail;go_loopw[8] (λi wr=>∃(k:O)(cur:E kI),i=.int o? ((k:I)+1)/\k<=l.length/\Hid (S_ cur (k+1))/\Hid (SortI B r cap l w cur wr)) (λi _=>l.length+1-(av i).toNat)
 case atStart=>exact⟨0,l,by simp,be _,(λa b h1 h2=>by omega),H0⟩
 obtain⟨k,cur,rfl,hk,HS,g⟩:=hrel;have n:=g.1.length_eq;by_cases κ:k+1<l.length
 .have β:decide ((k:I)+1<(l.length:I))=t?:=by simp;omega
  have z:=ah (Mid.start HS (by omega));have Lv:=ah n;clear n HS;go_wp2_with fail;obtain⟨wo,rfl⟩:∃wo:jC,wo=wr:=⟨_,rfl⟩;go_loopw[9] (λj wr=>∃(q:O)(d:E kI),j=(aJ q)/\q<=k+1/\Hid (Mid d (k+1) q)/\Hid (SortI B r cap l w d wr)) (λj _=>(av j).toNat)
  case atStart=>exact⟨k+1,cur,by simp,ay _,z,g⟩
  clear z g;obtain⟨q,d,rfl,hq,z,g⟩:=hrel;have n:=g.1.length_eq;rcases q with _|p
  .have R:Hid (S_ d (k+1+1)):=z.done (r? rfl);clear z Lv n;simp only[Int.natCast_zero];go_wp2_with fail;go_quiet(fail);go_wp2_with fail;go_roundw
   case rel=>exact⟨k+1,d,by simp,by omega,R,g.later (below_drewN (jQ _) _)⟩
   simp[av];omega
  have N:p+1<d.length:=by omega
  obtain⟨c1,c2⟩:=g.cell N;obtain⟨V,W⟩:=g.cell (show p<d.length by omega);obtain⟨A,ν⟩:=g.lt;rw[show((p+1:O):I)=(p:I)+1 from by omega];have F1:=After.cell c1 A;have F2:=After.cell c2 A;have F3:=After.cell V A;have F4:=After.cell W A;haveI:=After.some wr;have X:Hid (∀y:After wr,jE Tryz.prog 132 #[g? #[jL (k7 d (p+1)).1,jL (k7 d (p+1)).2],g? #[jL (k7 d p).1,jL (k7 d p).2]] y.at_ λe w'=>e=a? (.int o? (wO (tx (k7 d (p+1)).1) (tx (k7 d p).1)))/\Below y.at_.heap.size y.at_ w'):=λy=>Se (k7 d (p+1)) (k7 d p) y.at_;have T:Hid (decide (wO (tx (k7 d (p+1)).1) (tx (k7 d p).1)<0)=ahead (k7 d (p+1)) (k7 d p)):=UQ _ _;have μ:(0:I)<=p:=by omega
  have δ:(p:I)+1<(l.length:I):=by omega
  have χ:(0:I)<=p+1:=by omega
  have ρ:(p:I)<l.length:=by omega
  have ξ:decide ((0:I)<p+1)=t?:=ae;have φ:=ah n;have Vm:Hid (ahead (k7 d (p+1)) (k7 d p)=t?->Mid (sN d (p+1)) (k+1) p):=λh=>z.swap (by omega) h;have D:Hid (ahead (k7 d (p+1)) (k7 d p)=u?->S_ d (k+1+1)):=λh=>z.done (s? h);have C:Hid (∀f,Below wr wr f->SortI B r cap l w (sN d (p+1)) ((((f.setCell ⟨r,(p+1)*2,Z⟩ (.string (k7 d p).1)).setCell ⟨r,(p+1)*2+1,Z⟩ (.string (k7 d p).2)).setCell ⟨r,p*2,Z⟩ (.string (k7 d (p+1)).1)).setCell ⟨r,p*2+1,Z⟩ (.string (k7 d (p+1)).2))):=λf h=>(g.later h).swap (by omega) N;have G:Hid (∀f,Below wr wr f->∀o,f.frozen? ⟨r,o,Z⟩=u?):=λf h o=>(g.later h).2.1.frozenAt o;generalize k7 d (p+1)=x at*;generalize k7 d p=y at*;generalize wO (tx x.1) (tx y.1)=c at*;clear n Lv z
  cases F:ahead x y with
  |true=>
   rw[F]at T;have J:decide (c<0)=t?:=T;have γ:=ah (Vm F);clear F Vm D;go_wp2_with fail;refine rgb ?_;repeat(go_big_quiet_step (with_reducible exact na (X.out _)))
   refine bl0 ?_;rintro f⟨⟨w8,m⟩,h9⟩;obtain rfl:f=w8:=h9;have d1:=(m.cell (p:=⟨r,(p+1)*2,Z⟩) A).trans c1;have d2:=(m.cell (p:=⟨r,(p+1)*2+1,Z⟩) A).trans c2;have d3:=(m.cell (p:=⟨r,p*2,Z⟩) A).trans V;have d4:=(m.cell (p:=⟨r,p*2+1,Z⟩) A).trans W;have f1:=G f m ((p+1)*2);have f2:=G f m ((p+1)*2+1);have f3:=G f m (p*2);have f4:=G f m (p*2+1);have Y:=ah (C f m);have η:r<f.heap.size:=by have:=m.size;omega
   clear C G X F1 F2 F3 F4 c1 c2 V W m g;go_wp2_with fail;refine kG (S:=λw'=>w'.cell? ⟨r,(p+1)*2,Z⟩=M (.string x.1)/\w'.cell? ⟨r,(p+1)*2+1,Z⟩=M (.string x.2)/\w'.cell? ⟨r,p*2,Z⟩=M (.string y.1)/\w'.cell? ⟨r,p*2+1,Z⟩=M (.string y.2)) (s:=15) (by kernel_rfl) ?_;have ε:IntKind.i64.wrap ((p:I)+1-1)=(p:I):=(dv _ (by omega)).trans (by omega);have θ:IntKind.i64.wrap (p:I)=(p:I):=dv _ (by omega);refine sU ⟨d1,d2,d3,d4⟩ ?_;refine oY 15 λK H=>?_;go_simp;refine H.out _ _ (λh=>by cases h) ?_;refine az ?_;refine oY 16 λK H=>?_;go_simp;refine H.out _ _ (λh=>qch) ?_;refine az ?_;refine oY 17 λK H=>?_;go_simp;refine H.out _ _ (λh=>by cases h) ?_;clear H K;refine az ?_;refine yi ?_;go_wp2_with fail;go_roundw
   case rel=>exact⟨p,sN d (p+1),rfl,by omega,γ,Y.later (below_drewN (jQ _) 1)⟩
   simp[av]<;>omega
  |false=>
   rw[F]at T;have J:decide (c<0)=u?:=T;have R:=ah (D F);clear F Vm D C G;go_wp2_with fail;refine rgb ?_;repeat(go_big_quiet_step (with_reducible exact na (X.out _)))
   refine bl0 ?_;rintro f⟨⟨w8,m⟩,h9⟩;obtain rfl:f=w8:=h9;have α:=ah (g.later m);clear X F1 F2 F3 F4 c1 c2 V W m g;go_wp2_with fail;go_roundw
   case rel=>exact⟨k+1,d,by simp,by omega,R,α⟩
   exact No
 have β:decide ((k:I)+1<(l.length:I))=u?:=mO;have R:Hid (S_ cur cur.length):=λa b h1 h2=>HS a b h1 jS;go_wp2;go_end0;exact⟨⟨_,rfl⟩,cur,g,R⟩
def TT(B r cap:O)(l:E kI)(a:l.length<=12)(q:I)(w:jC)(b:SortI B r cap l w l w):jE Tryz.prog 177 #[.slice (aC r) l.length cap,jJ 0,jJ l.length,jJ q,.func (.func 132) #[] #[]] w λe w'=>(∃v,e=a? v)/\zD B r cap l w w':=by
 have Q:=ah (GV B r cap l a w b);have d:decide ((l.length:I)<=12)=t?:=ae;go_in;go_wp2_with fail;refine bj8 1 ?_;rw[bi9];go_wp2_with fail;refine Q.mono ?_;rintro e f⟨⟨v,rfl⟩,c⟩;go_wp2;refine jF (bj7 rfl _ _ _) rfl ?_;exact⟨⟨_,rfl⟩,c⟩
def DR(B r cap:O)(l:E kI)(a:l.length<=12)(w:jC)(c:SortI B r cap l w l w):jE Tryz.prog 131 #[.slice (aC r) l.length cap,.func (.func 132) #[] #[]] w λe w'=>(∃v,e=a? v)/\zD B r cap l w w':=by
 have Q:Hid (∀q,jE Tryz.prog 177 #[.slice (aC r) l.length cap,jJ 0,jJ l.length,jJ q,.func (.func 132) #[] #[]] w λe w'=>(∃v,e=a? v)/\zD B r cap l w w'):=λq=>TT B r cap l a q w c;have f:(l.length:I)<=12:=jS;generalize l.length=n at*;go_in;go_wp2_with fail;refine(Tryz.bits_Len _ _ jS jS).mono ?_;rintro e b⟨rfl,rfl⟩;go_wp2_with fail;refine(Q _).mono ?_;rintro e b⟨⟨v,rfl⟩,d⟩;go_wp2;go_end0;exact⟨⟨_,rfl⟩,d⟩
def sX:RS->E (O×O)->w? RS
 |s,[]=>M s
 |s,d::l=>(qk s d).bind λs'=>sX s' l
def tt:∀(l m:E (O×O))(s:RS),sX s (l++m)=(sX s l).bind λs'=>sX s' m
 |[],_,_=>rfl
 |d::l,m,s=>by
  rw[dj,sX,sX]
  cases qk s d with
  |none=>rfl
  |some s'=>exact tt l m s'
def CG(l:E (O×O))(d:O×O)(s:RS):sX s (l++[d])=(sX s l).bind λs'=>qk s' d:=by
 rw[tt]
 cases sX s l with
 |none=>rfl
 |some s'=>show sX s' [d]=qk s' d;rw[sX];cases qk s' d<;>rfl
def pE(t:E y?):w? (E kI):=if oJ t=t? then((sX RS.zero (cp t)).bind oC).map (·.l)else Z
def UF(d:O×O):(encR d).size<=4:=encode_size_le _
def Ot(h:lD d=t?):(encR d).size=1:=by
 simp[lD]at h;unfold encR Utf8.encode;have a:Utf8.valid (d.1:I)=t?:=by simp[Utf8.valid];omega
 have b:(d.1:I).toNat<128:=jS;simp only[a,if_true,b];rfl
def xC(h:s.Ok)(e:pN s d=M s'):s'.Ok:=by
 obtain⟨j,c,f,g,a⟩:=h;unfold pN at e;split at e
 .split at e
  .rename_i b
   cases e
   have:=Ot b.1;exact⟨by show(s.nm++encR d).size<=12;rw[fc];omega,c,f,g,a⟩
  cases e
 split at e
 .rename_i b
  cases e
  have:=UF d;exact⟨j,by show((s.vl++encR d).size:I)<=4*(s.runes+1);rw[fc];omega,by show 0<=s.runes+1;omega,by show s.runes+1<=24;omega,a⟩
 cases e
def Mr(h:s.Ok)(e:oC s=M s'):s'.Ok:=by
 obtain⟨f,b,c,d,a⟩:=h;unfold oC at e;split at e
 .split at e
  .cases e
   exact⟨by show(0:O)<=12;omega,by show((0:O):I)<=4*0;omega,Int.le_refl _,by show(0:I)<=24;omega,by show(s.l++[(s.nm,s.vl)]).length<=6;rw[cd];simp;omega⟩
  cases e
 cases e
def FK(h:s.Ok)(e:qk s d=M s'):s'.Ok:=by
 unfold qk at e;split at e
 .exact xC (s:={s with place:=1}) ⟨h.nm,h.vl,h.r0,h.r24,h.l⟩ e
 split at e
 .unfold uz at e;split at e
  .exact xC h e
  split at e
  .cases e
  cases e;exact⟨h.nm,h.vl,h.r0,h.r24,h.l⟩
 split at e
 .exact Mr h e
 split at e
 .unfold xv at e;split at e
  .cases e
  cases e;exact⟨h.nm,h.vl,h.r0,h.r24,h.l⟩
 exact xC h e
def LB:RS.zero.Ok:=⟨by show(0:O)<=12;omega,by show((0:O):I)<=4*0;omega,Int.le_refl _,by show(0:I)<=24;omega,by show(0:O)<=6;omega⟩
def Qi{B':O}(h:w.ownsRow B 71 2 v n xs)(c:B'<=B):w.ownsRow B' 71 2 v n xs:=by
 obtain⟨a,b|⟨g,cap,cur,d,e,f⟩⟩:=h
 .exact⟨a,r? b⟩
 exact⟨a,s? ⟨g,cap,cur,d,a_ c e,f⟩⟩
def lZ.later{B g m:O}{s:RS}{w w':jC}(h:lZ B g m s w)(a:Below w w w'):lZ B g m s w':=by
 obtain⟨f,l,b,c,k,j⟩:=h;exact⟨f,l,(a.block m (aw.1 b).1).trans b,c,k.later a,j.kept (row:=Z) ⟨a.os,a.tape,a.output,a.size,λi d _=>a.block i d⟩ (by
  cases e:c.ownBlock with
  |none=>exact r? rfl
  |some r=>exact s? lV)⟩
def lZ.lt(h:lZ B g m s w):m<w.heap.size:=(aw.1 h.2.2.1).1
def lZ.iterAt{B g m:Nat}{s:RS}{w:jC}(h:lZ B g m s w){k:Nat}{t:ByteArray}{p:Nat}(d:w.heap[k]? =some (.stringIter t p))(q:Nat):lZ B g m s (w.iterAt k t q):=by
 obtain⟨z,D,n,v,F,C,a⟩:=h;have b:∀j o,w.heap[j]? =some o->(∀(t:ByteArray)(p:Nat),o≠Obj.stringIter t p)->(w.iterAt k t q).heap[j]? =some o:=λj o c f=>by
  rw[Lib.iterAt_other w k j t q (by rintro rfl;rw[c]at d;exact f _ _ (Option.some.inj d))];exact c
 refine⟨z,D,b m _ n (λ_ _ e=>LS),v,b g _ F (λ_ _ e=>LS),C,?_⟩;rcases a with a|⟨r,cap,cur,x,y,A,l⟩
 .exact .inl a
 exact .inr ⟨r,cap,cur,x,y,b r _ A (λ_ _ e=>LS),l⟩
def kQ.some_(h:kQ B g m w (M s) e w'):Below B w w'/\eh 71 (M g) w w'/\e=a? j?/\lZ B g m s w':=h
def kQ.none_(h:kQ B g m w Z e w'):Below B w w'/\eh 71 (M g) w w'/\(∃t,e=a? (i? 317 (g? #[jL t])))/\∃s',lZ B g m s' w':=h
def pW(w:jC)(r:w? (E kI))(e:bi6)(w':jC):Prop:=
 Below w w w'/\(match r with
  |some l=>∃a,e=a? (d? #[a,j?])/\w'.ownsRow w 71 2 a l.length (k_ l)
  |none=>∃v t,e=a? (d? #[v,i? 317 (g? #[jL t])]))
def pW.no(h:Below w w w'):pW w Z (a? (d? #[v,i? 317 (g? #[jL t])])) w':=⟨h,v,t,rfl⟩
def wd(s:v?)(w:jC)(hs:s.size<=4294967296)(hT:Tb w):jE Tryz.prog 129 #[f? s] w (pW w (pE (tx s))):=by
 have X:Hid (∀a,Tb a->jE Tryz.prog 173 #[f? s] a λe w'=>e=a? (d? #[c? o? (mc (tx s)).1,h? (mc (tx s)).2])/\(bJ a w')):=λa h=>xq s a hs h;have HT:=ai hT;clear hT
 cases A:oJ (tx s)with
 |false=>
  have Y:Hid (pE (tx s)=Z):=by show _=_;rw[pE,A];rfl
  have D:mc (tx s)=(0,u?):=by rw[mc,A? (by rw[A];simp)]
  rw[D]at X;clear D A;rw[Y.out];go_in;go_wp2_with fail;go_step3;go_wp2_with fail;refine(X.out _ HT.out).mono ?_;rintro e a⟨rfl,p⟩;go_wp2_with fail;rw[cf];go_ret2;exact pW.no p
 |true=>
  have Y:Hid (pE (tx s)=((sX RS.zero (cp (tx s))).bind oC).map (·.l)):=by show _=_;rw[pE,A];rfl
  have D:mc (tx s)=(((cp (tx s)).length:I),t?):=by rw[mc,B? A]
  rw[D]at X;clear D A;generalize((cp (tx s)).length:I)=nr at*;go_in;go_wp2_with fail;go_step3;go_wp2_with fail;refine(X.out _ HT.out).mono ?_;rintro e a⟨rfl,p⟩;go_wp2_with fail;refine(B_ a).mono ?_;rintro e f⟨rfl,N,B⟩;have o:=ai N;have g:=ai B;have q:=ai p;clear N B p;have β:Hid ((f.iter s 0).heap[f.heap.size]? =M (.stringIter s 0)):=World.iter_heap f s 0;have r:Hid (lZ a.heap.size a.heap.size (dE a) RS.zero (f.iter s 0)):=o.out.later (jP (jQ f) _);have c:=ah (g.out.trans ((jP (jQ f) (.stringIter s 0)).mono g.out.size));have hk:=o.out.lt;go_wp2_with fail;go_step3;go_wp2_with fail;go_loopw[7] (λe wr=>∃(pos:O)(j:E (O×O))(n:RS),e=j?/\Hid (pK s pos j)/\Hid (sX RS.zero j=M n)/\Hid n.Ok/\Hid (lZ a.heap.size a.heap.size (dE a) n wr)/\Hid (wr.heap[f.heap.size]? =M (.stringIter s pos))/\Hid (bJ a wr)) (λ_ wr=>s.size-wr.iterPos f.heap.size)
  case atStart=>exact⟨0,[],RS.zero,rfl,pK.zero s,rfl,LB,r.out,β.out,c.out⟩
  obtain⟨pos,j,n,rfl,HW,HF,oH,HR,H,HB⟩:=hrel;have HP:Hid (wr.iterPos f.heap.size=pos):=by show _=_;simp[eR,H.out]
  by_cases W:pos<s.size
  .have Q:∀v,(fw (aV f) t? v).run Tryz.prog wr=_:=λv=>fp wr f.heap.size s pos v H.out W;rw[tX]at Q;have δ:=ai (iC wr f.heap.size s pos (lI 27 pos s) H.out);have L:=ai (HW.out.next W);obtain⟨d1,d2,d3,_⟩:=oQ (dI s pos);have o:=ai (HR.out.iterAt H.out (lI 27 pos s));have g:=ai (iq HB.out (k:=f.heap.size) jS s (lI 27 pos s));have K:Hid (qk n (nP (dI s pos))=Z->pE (tx s)=Z):=λh=>by
    rw[Y.out,L.out.is,tt,CG,HF.out];show((((qk n _).bind _).bind oC).map _)=Z;rw[h];rfl
   generalize nP (dI s pos)=d at*
   generalize ε:wr.iterAt f.heap.size s (pos+d.2)=wi at*
   have T:=ai (PC a.heap.size a.heap.size (dE a) n d d1 wi o.out oH.out)
   cases b:qk n d with
   |none=>
    rw[b]at T;have F:=ai (K.out b);go_wp2_with fail;refine T.out.mono ?_;intro e w3 x;obtain⟨z,R,⟨t,rfl⟩,s3,y⟩:=x.none_;have c:=ai (Below.two q.out (g.out.trans z));obtain⟨_,_,_,lv,m,_⟩:=y;have c4:=m.cell 4;go_wp2;rw[cf];go_ret2;rw[F.out];exact pW.no c.out
   |some s'=>
    rw[b]at T;have α:Hid (sX RS.zero (j++[d])=M s'):=by show _=_;rw[CG,HF.out];exact b
    have γ:=ai (FK oH.out b);go_wp2_with fail;refine T.out.mono ?_;intro e w3 x;obtain⟨z,R,rfl,y⟩:=x.some_;have r:=ai y;have c:=ai (g.out.trans z);have C:=ai (R.iter δ.out jS);go_wp2;go_roundw
    case rel=>exact⟨pos+d.2,j++[d],s',rfl,L.out,α.out,γ.out,r.out,C.out,c.out⟩
    rw[HP.out];simp only[eR,C.out];omega
  have Q:∀v,(fw (aV f) t? v).run Tryz.prog wr=_:=λv=>fq wr f.heap.size s pos v H.out W;have G:Hid (pE (tx s)=(oC n).map (·.l)):=by show _=_;rw[Y.out,HW.out.done W,HF.out];rfl
  have V:=ai (Mq a.heap.size a.heap.size (dE a) n wr HR.out oH.out)
  cases b:oC n with
  |none=>
   rw[b]at V;have F:Hid (pE (tx s)=Z):=by show _=_;rw[G.out,b];rfl
   go_wp2_with fail;refine V.out.mono ?_;intro e w3 x;obtain⟨z,R,⟨t,rfl⟩,s3,y⟩:=x.none_;have c:=ai (Below.two q.out (HB.out.trans z));obtain⟨_,_,_,lv,m,_⟩:=y;have c4:=m.cell 4;go_wp2;rw[cf];go_ret2;rw[F.out];exact pW.no c.out
  |some s'=>
   rw[b]at V;have F:Hid (pE (tx s)=M s'.l):=by show _=_;rw[G.out,b];rfl
   go_wp2_with fail;refine V.out.mono ?_;intro e w3 x;obtain⟨z,R,rfl,y⟩:=x.some_;have c:=ai (Below.two q.out (HB.out.trans z));obtain⟨_,_,_,lv,m,ho⟩:=y;have c4:=m.cell 4;have HO:=ai (Qi ho q.out.size);go_wp2;rw[cf];go_ret2;rw[F.out];exact⟨c.out,lv,rfl,HO.out⟩
def rx(l:E kI):Prop:=∀x∈l,x.1.size<=12/\x.2.size<=96
def rx.perm{m:E kI}(h:rx l)(p:m.Perm l):rx m:=λx a=>h x (p.mem_iff.1 a)
def Af(e:pN s d=M s'):s'.l=s.l:=by
 unfold pN at e;split at e<;>split at e<;>cases e<;>rfl
def Bf(h:s.Ok)(a:rx s.l)(e:oC s=M s'):rx s'.l:=by
 obtain⟨b,f,g,j,d⟩:=h;unfold oC at e;split at e
 .split at e
  .cases e
   intro x c;rcases ed.1 c with h|h
   .exact a x h
   rw[eM.1 h];exact⟨b,by show s.vl.size<=96;omega⟩
  cases e
 cases e
def FJ(h:s.Ok)(a:rx s.l)(e:qk s d=M s'):rx s'.l:=by
 unfold qk at e;split at e
 .rw[Af e];exact a
 split at e
 .unfold uz at e;split at e
  .rw[Af e];exact a
  split at e
  .cases e
  cases e;exact a
 split at e
 .exact Bf h a e
 split at e
 .unfold xv at e;split at e
  .cases e
  cases e;exact a
 rw[Af e];exact a
def zU:∀(l:E (O×O))(s s':RS),s.Ok->rx s.l->sX s l=M s'->s'.Ok/\rx s'.l
 |[],s,s',h,b,e=>by cases e;exact⟨h,b⟩
 |d::l,s,s',h,b,e=>by
  rw[sX]at e
  cases a:qk s d with
  |none=>rw[a]at e;cases e
  |some c=>rw[a]at e;exact zU l c s' (FK h a) (FJ h b a) e
variable{t:E y?}
def JI(h:pE t=M l):rx l/\1<=l.length/\l.length<=6:=by
 unfold pE at h;split at h
 .cases b:sX RS.zero (cp t)with
  |none=>rw[b]at h;cases h
  |some s=>
   rw[b]at h;obtain⟨c,d⟩:=zU _ _ _ LB (λx e=>by cases e) b
   cases a:oC s with
   |none=>rw[show(M s).bind oC=oC s from rfl,a]at h;cases h
   |some s'=>
    rw[show(M s).bind oC=oC s from rfl,a]at h
    cases h
    refine⟨Bf c d a,?_,(Mr c a).l⟩;unfold oC at a;split at a
    .split at a
     .cases a;simp
     cases a
    cases a
 cases h
def mW(t:E y?)(r:w? (E kI)):Prop:=match pE t with
 |none=>r=Z
 |some l=>∃cur:E kI,cur.Perm l/\S_ cur cur.length/\r=if setB cur=t? then M cur else Z
def uf(w:jC)(t:E y?)(e:bi6)(w':jC):Prop:=
 Below w w w'/\∃r,mW t r/\(match r with
  |some cur=>∃A cap,e=a? (d? #[jN A cur cap,jJ 0])/\cur.length<=cap/\cap<=9223372036854775807/\Lb w' w' A cur
  |none=>e=a? (d? #[jM,jJ 40]))
def uf.no(h:mW t Z)(a:Below w w w'):uf w t (a? (d? #[jM,jJ 40])) w':=⟨a,Z,h,rfl⟩
def Oo(t:v?)(w:jC):jE Tryz.prog 130 #[i? 317 (g? #[jL t])] w λe w'=>e=a? (c? o? 40)/\Below w w w':=by
 have a:∀w,(dd (i? 317 (g? #[jL t])) 171 317 t?).run Tryz.prog w=.ok (d? #[g? #[jL t],h? t?]) w:=λw=>oo;go_in;go_wp2;go_ret;exact⟨rfl,jP (jQ _) _⟩
def parse_any(s:v?)(w:jC)(hs:s.size<=4294967296)(hT:Tb w):jE Tryz.prog 93 #[jL s] w (uf w (tx s)):=by
 have Q:=ah (wd s w hs hT);have HT:=ah hT
 cases hr:pE (tx s)with
 |none=>
  rw[hr]at Q;have HP:Hid (mW (tx s) Z):=by show mW _ _;unfold mW;rw[hr]
  go_in;go_wp2_with fail;refine Q.mono ?_;rintro e w1⟨hb1,v,t,rfl⟩;go_wp2_with fail;refine(Oo t _).mono ?_;rintro e w2⟨rfl,hb2⟩;go_wp2;go_ret2;exact uf.no HP (Below.two hb1 hb2)
 |some l=>
  rw[hr]at Q;have HL:=JI hr;have HSH:=ah HL.1;have hl1:=HL.2.1;have hl6:=HL.2.2;have HP:Hid (∀cur:E kI,cur.Perm l->S_ cur cur.length->mW (tx s) (if setB cur=t? then M cur else Z)):=λcur h1 h2=>by
   unfold mW;rw[hr];exact⟨cur,h1,h2,rfl⟩
  go_in;go_wp2_with fail;refine Q.mono ?_;rintro e w1⟨hb1,lv,rfl,ho⟩;obtain⟨r,cap,rfl,hr1⟩:∃r cap,lv=b? (aC r) l.length cap/\cap<=maxLen:=by
   obtain⟨_,⟨_,e⟩|⟨r,cap,cur,e1,_,_,_,e2,_⟩⟩:=ho
   .omega
   exact⟨r,cap,e1,e2⟩
  have HS:=ah (DR w r cap l jS w1 ⟨List.Perm.refl _,ho,Below.refl _ _⟩);have HB1:=ah hb1;go_wp2_with fail;refine HS.mono ?_;rintro e w2⟨⟨v,rfl⟩,cur,⟨hperm,hown,hbl⟩,hsrt⟩;have HB2:=HB1.trans hbl;have HPC:=ah (HP cur hperm hsrt);have hlc:=hperm.length_eq;have HCS:=ah (HSH.perm hperm);have Lv:Hid (cur.length<=cap):=by
   obtain⟨_,⟨e,_⟩|⟨_,_,_,e,_,_,hle,_⟩⟩:=hown
   .cases e
   injection e with _ _ e;rw[e];exact hle
  have Wu:=ah (Xe hown);rw[<-hlc];have QR:=ah (j_ (aC r) cur cap (λx hx=>by have:=(HCS x hx).2;omega) w2 (HT.later HB2) Wu);clear hperm hown hbl hsrt hlc HP HS
  cases hb:setB cur with
  |true=>
   rw[hb]at QR HPC;clear hb;go_wp2_with fail;refine QR.mono ?_;rintro e w3⟨rfl,hb3⟩;have HB3:=ah (Below.two HB2 hb3);have SS:=ah (nY Wu hb3);clear hb3;go_wp2_with fail;go_ret2;exact⟨HB3,M cur,HPC,M ⟨r,0,Z⟩,cap,rfl,Lv,by unfold maxLen at hr1;omega,SS⟩
  |false=>
   rw[hb]at QR HPC;go_wp2_with fail;refine QR.mono ?_;rintro e w3⟨rfl,hb3⟩;go_wp2;go_ret2;exact uf.no HPC (Below.two HB2 hb3)
def tG(d:O×O):E y?:=(if d.1=44\/d.1=92 then[92]else[])++Lib.encodeRune (d.1:I)
def uE(l:E y?):E y?:=(cp l).flatMap tG
def KM(r:I):(Lib.encodeRune r).length<=4:=by
 have:=Lib.runeCells_le r;rw[Lib.runeCells_length]at this;omega
def TL(d:O×O):(tG d).length<=5:=by
 unfold tG;have:=KM (d.1:I);rw[cd];split<;>simp<;>omega
def yI(l:E (O×O)):(l.flatMap tG).length<=5*l.length:=by
 induction l with
 |nil=>simp
 |cons d l a=>rw[dg,cd,c_];have:=TL d;omega
def JK(s:v?)(w:jC)(hs:s.size<=1000000):jE Tryz.prog 146 #[jL s] w λe w'=>e=a? (f? ⟨(uE (tx s)).toArray⟩)/\Below w w w':=by
 go_in;go_wp2_with fail;go_loopw[] (λwr=>∃(pos:O)(a:E (O×O)),Hid (pK s pos a)/\dX 312 5 w w (dV (a.flatMap tG)) wr/\wr.heap[w.heap.size+1]? =M (.stringIter s pos)/\Below w w wr) (λwr=>s.size-wr.iterPos (w.heap.size+1))
 case atStart=>
  refine⟨0,[],pK.zero s,(Lib.IsBuilderF.of (Lib.fresh_isBuilder 312 5 w)).alloc _,?_,((Below.refl _ w).alloc aa _).alloc lV _⟩;have:=World.iter_heap (w.alloc (m? #[e? Z,jM] 312)) s 0;simpa using this
 obtain⟨pos,a,F,hI,b,r⟩:=hrel;have ε:=(aw.1 b).1;have γ:=F.len;have Wd:=yI a;have HP:Hid (wr.iterPos (w.heap.size+1)=pos):=by show _=_;simp[eR,b]
 by_cases C:pos<s.size
 .have g:∀m,(fw (e? (M (aE w))) t? m).run Tryz.prog wr=_:=λm=>fp wr (w.heap.size+1) s pos m b C;rw[tX]at g;have x:=ah (F.next C);obtain⟨d1,d2,d3,_⟩:=oQ (dI s pos);have V:=hI.iterAt b (lI 27 pos s);have y:=iC wr (w.heap.size+1) s pos (lI 27 pos s) b;have t:=iq r (k:=w.heap.size+1) jS s (lI 27 pos s);have c:w.heap.size<=(wr.iterAt (w.heap.size+1) s (lI 27 pos s)).heap.size:=by rw[Lib.iterAt_size];omega
  have p:=ah V;have W:=ah y;have K:=ah t;generalize nP (dI s pos)=d at*;have l:∃wi,wr.iterAt (w.heap.size+1) s (pos+d.2)=wi:=⟨_,rfl⟩;obtain⟨wi,l⟩:=l;rw[l]at p W K c g;have A:Hid ((a++[d]).flatMap tG=a.flatMap tG++tG d):=by show _=_;simp
  generalize a.flatMap tG=o at*;by_cases j:d.1=44\/d.1=92
  .have D:Hid (dV (tG d)=[c? p? 92]++iS (d.1:I)):=by
    show _=_;rw[tG,B? j,iX,Lib.byteCells_encodeRune];rfl
   have α:∀T:jC,fN 312 5 w w (e? (aM w)) (dV o++[c? p? 92]++iS (d.1:I)) T->dX 312 5 w w (dV ((a++[d]).flatMap tG)) T:=λT h=>by
    rw[A,iX,D,<-eH];exact Or.inr h
   have v:=ah α
   have Q:(dV o).length<=5*a.length:=by rw[ii];exact Wd
   have G:(d.1:I)=44\/(d.1:I)=92:=jS
   clear j D
   rcases G with j|j
   all_goals
    rw[j]at g v;clear j;go_wp2_with fail;refine(Fp w w _ 92 _ p (by omega) c).mono ?_;rintro e R⟨rfl,h1,Y,k1⟩;have J:=ah (k1.iter W (by omega));have B:=ah (K.trans Y);have q:w.heap.size<=R.heap.size:=B.size;have H1:Hid (dX 312 5 w w _ R):=Or.inr h1;go_wp2_with fail;refine(yd w w _ _ jS jS _ H1 (by rw[cd];simp;omega) q).mono ?_;rintro e H⟨rfl,X,b2,L⟩;have f:=ah (L.iter J jS);have n:=ah (B.trans b2);have H2:=ah (v H X);go_wp2;go_roundw
    case rel=>exact⟨pos+d.2,a++[d],x,H2,f,n⟩
    rw[HP.out];simp only[eR,f.out];omega
  have D:Hid (dV (tG d)=iS (d.1:I)):=by
   show _=_;rw[tG,A? j,dz,Lib.byteCells_encodeRune]
  have β:((d.1:I)==44)=u?:=O1;have δ:((d.1:I)==92)=u?:=O1;have Q:(dV o).length<=5*a.length:=by rw[ii];exact Wd
  go_wp2_with fail;refine(yd w w _ _ jS jS _ p jS c).mono ?_;rintro e H⟨rfl,X,b2,L⟩;have f:=ah (L.iter W jS);have n:=ah (K.trans b2);have H2:Hid (dX 312 5 w w (dV ((a++[d]).flatMap tG)) H):=by
   show dX _ _ _ _ _ _;rw[A,iX,D];exact Or.inr X
  go_wp2;go_roundw
  case rel=>exact⟨pos+d.2,a++[d],x,H2,f,n⟩
  rw[HP.out];simp only[eR,f.out];omega
 have g:∀m,(fw (e? (M (aE w))) t? m).run Tryz.prog wr=_:=λm=>fq wr (w.heap.size+1) s pos m b C;have HE:Hid (uE (tx s)=a.flatMap tG):=by show _=_;rw[uE,F.done C]
 go_wp2_with fail;refine(OH w w (a.flatMap tG) _ hI jS).mono ?_;rintro e R⟨rfl,_,Y,_⟩;go_wp2;go_ret;exact⟨by rw[HE];rfl,r.trans Y⟩
section
variable{P:bi3}{md:fD}{ops:x? bk0}{Q:bk7->Act->jC->Prop}{l n:O}
end
section
attribute [local go_sem] db
def ve{ops:x? bk0}{Q:bk7->Act->jC->Prop}{l s:O}{S:jC->Prop}{id:O}{a:Act}(b:P.follows .mixedOrders=t?)(d:ops.toList.all (λo:bk0=>match o.op with|.defer _=>u?|_=>t?)=t?)(f:¬LetsOut Q)(h:mh P .any ops Q S s ops.size (fF ops.size u?) a w.drew):(jo id ops t?).wpIn (Fence.wide.inRound l) n P Q a w:=by
 refine wpIn_region_any b (rS (λi o g c e=>?_) f _ _ _ _ (vh _ _ _ _ h));have:=dZ.1 d o (by simpa using h_ g);rw[e]at this
 cases this
def pG(x:kI):v?:=x.1++⟨#[61]⟩++⟨(uE (tx x.2)).toArray⟩
def xE(l:E kI):E jD:=l.map λx=>f? (pG x)
def qR(l:E kI):E y?:=Lib.join ((l.map pG).map (·.data.toList)) [44]
def TxI(w:jC)(n₀ c:O)(l:E kI)(a:E (At l.length))(W:jC):Prop:=
 (∃b,jR W c 66 #[b]/\W.ownsRow n₀ 9 1 b (m_ l a).length (xE (m_ l a)))/\Below w w W
def TxX(w:jC)(l:E kI)(c:bk9)(a:E (At l.length))(W:jC):Prop:=False
def tK{c:jC}{sz:O}{t:jH}{row:w? O}(h:W.ownsRow B t sz v n xs)(k:W.grownBy c row)(f:∀r,row=M r->(aH W r)):c.ownsRow B t sz v n xs:=by
 refine h.kept k ?_
 cases e:v.ownBlock with
 |none=>exact r? rfl
 |some r=>
  refine s? ?_;rintro rfl;obtain⟨o,b,j⟩:=f r rfl;obtain⟨_,⟨a,_⟩|⟨g,cap,cur,a,_,d,_⟩⟩:=h
  .subst a;cases e
  subst a;cases e;rw[d]at b;cases b;cases j
def tJ{sz:O}{t:jH}(h:w.ownsRow B t sz v n xs):∀g,v.ownBlock=M g->B<=g/\∃c f,w.heap[g]? =M (m? c t f):=by
 intro g a;obtain⟨_,⟨h,e⟩|⟨r,cap,cur,b,j,d,_⟩⟩:=h
 .subst h;cases a
 subst b;cases a;exact⟨j,_,_,d⟩
def sn{d:jC}{r:w? O}(f:W.grownBy d r)(j:∀k,r=M k->∃c t b,W.heap[k]? =M (m? c t b)):bj4 W d:=
 ⟨f.size,λk o a g=>(f.block k (aw.1 a).1 (λe=>by
  obtain⟨c,t,b,h⟩:=j k e.symm;rw[h]at a;cases a;cases g)).trans a⟩
def U5{n₀ g:O}{Bd:O}(f:w.heap.size<=Bd):bj3 Bd (TxI w n₀ g l):=by
 rintro s W n m⟨⟨j,h,d⟩,c⟩ a b;exact⟨⟨j,h.kept a (λr e=>(b r e).2),tK d a (λr e=>(b r e).2)⟩,c.grown a c.size (λk e=>a_ f (b k e).1)⟩
def U1{c:bk9}{Bd:O}:bj3 Bd (TxX w l c):=λ_ _ _ _ h _ _=>h.elim
def Tryz.Un:(Tryz.prog.info? 9).map (λi=>(i.zero,i.size,i.bytes))=M (M (f? ⟨#[]⟩),1,16):=oo
def TM(l:E y?):(uE l).length<=5*(cp l).length:=yI _
def FU(h:setB l=t?):∀x∈l,nameB (tx x.1)=t?/\mP (tx x.2)=t?:=by
 have:∀(l:E kI)(b:E y?),chainB b l=t?->∀x∈l,nameB (tx x.1)=t?/\mP (tx x.2)=t?:=by
  intro l;induction l with
  |nil=>intro _ _ x a;cases a
  |cons y l c=>
   intro b h x a;rw[chainB,ba]at h;rcases cw.1 a with rfl|a
   .have:=h.1;rw[ri]at this;simp only[ba]at this;exact⟨this.1,this.2.2⟩
   exact c _ h.2 x a
 unfold setB at h;simp only[ba]at h;exact this l [] h.2
def xo(h:setB l=t?):∀x∈l,x.1.size<=12/\(uE (tx x.2)).length<=120:=λx b=>by
 obtain⟨a,c⟩:=FU h x b;simp only[nameB,mP,ba,D?]at a c;rw[lG]at a;have:=TM (tx x.2);exact⟨a.1.2,jS⟩
def To(h:∀x∈l,x.1.size<=12/\(uE (tx x.2)).length<=120)(e:l.length<=6):(Lib.join ((l.map pG).map (·.data.toList)) [44]).length<=140737488355328:=by
 have c:∀x∈l,(pG x).data.toList.length<=133:=λx a=>by
  obtain⟨d,b⟩:=h x a;show(tx (pG x)).length<=_;rw[lG,pG,fc,fc,zR (uE (tx x.2))];show x.1.size+1+_<=133;omega
 have:∀l:E kI,(∀x∈l,(pG x).data.toList.length<=133)->(iH [44] ((l.map pG).map (·.data.toList))).length<=134*l.length:=by
  intro l;induction l with
  |nil=>intro _;simp[iH]
  |cons y l f=>
   intro h;have d:=h y lV;have b:=f (λx a=>h x (by simp[a]));simp only[iH,df,List.flatten_cons,cd,c_,dp]at b⊢;omega
 cases l with
 |nil=>simp[Lib.join_nil]
 |cons y l=>
  rw[df,df,Lib.join_cons,cd];have d:=c y lV;have b:=this l (λx a=>c x (by simp[a]));simp only[c_]at e;omega
def L4{k:O}(h:k<l.length):k7 l k∈l:=by
 have:k7 l k=l[k]:=by simp[k7,h]
 rw[this];exact ar h
theorem Tq(A:Option jG)(l:List kI)(cap:Nat)(hr:setB l=true)(hs:∀x∈l,(x.2).size≤1000000)(w:jC)(hT:Tb w)(hS:Lb w w A l):
 bj2 cz 6 Tryz.prog 99 #[jN A l cap] w fun e w'=>e=.returned (.tuple #[.string ⟨(qR l).toArray⟩,jJ 0])∧Below w w w':=by
 have hl6:1≤l.length∧l.length≤6:=by
  unfold setB at hr;simp only[ba,decide_eq_true_eq]at hr;exact hr.1
 have SZ:Hid (∀k,k<l.length→(k7 l k).1.size≤12∧(uE (tx (k7 l k).2)).length≤120∧(k7 l k).2.size≤1000000):=fun k hk=>by
  have h1:=xo hr _ (L4 hk);exact⟨h1.1,h1.2,hs _ (L4 hk)⟩
 have SZ2:Hid (∀x∈l,x.1.size≤12∧(uE (tx x.2)).length≤120):=xo hr
 have QR:=ah (j_ A l cap (fun x hx=>by have:=hs x hx;omega) w hT hS)
 rw[hr]at QR
 have HS:=ah hS
 have NE:Hid (l.length≠0→∀ad,A=some ad→ad.block<w.heap.size):=fun h ad e=>by
  obtain⟨b,off,e',hb,_⟩:=hS.at_ (by omega);rw[e']at e;cases e;exact hb
 obtain⟨hl1,hl6⟩:=hl6
 clear hS hT hr hs
 refine bi7 Tryz.func99 rfl trivial ?_ rfl
 simp only[Tryz.ntmps99,xb,ao,dk]
 refine bi4.2 ?_
 go_wp2_with fail
 refine QR.mono ?_
 rintro e w0⟨rfl,hb0⟩
 have T:Below w w (w0.alloc (.cells #[jM] 66)):=jP hb0 _
 have P0:=ah (jR.new w0 66 #[jM])
 have hw0:=hb0.size
 replace HS:=ah (nY (nY HS hb0) (jP (jQ w0) (.cells #[jM] 66)))
 clear hb0
 go_wp2_with fail
 generalize w0.alloc (.cells #[jM] 66)=w1 at*
 refine(tT _ _ _ _).mono ?_
 rintro e w'⟨rfl,rfl⟩
 have hba:=jP (jQ w1) (.cells #[jN A l cap] 72)
 have Z:=ah (jR.new w1 72 #[jN A l cap])
 have hw1:=P0.lt
 replace P0:=ah (P0.later hba)
 replace HS:=ah (nY HS hba)
 replace T:=Below.two T hba
 clear hba
 go_wp2_with fail
 generalize w1.alloc (.cells #[jN A l cap] 72)=V at*
 have pz:=P0.lt
 have vz:=Z.lt
 obtain⟨zs,hzs⟩:=mH (N:=l.length) (bu l.length) (fun p hp=>dh.1 hp)
 have HZ:=ah hzs
 have hst:TxI w V w0 l [] V:=⟨⟨_,P0,dY _ _ _ _⟩,T⟩
 clear hzs
 refine(bi4 (n:=6)).1 ?_
 refine pB rfl (by omega) (gf:=222) (lb:=#[jO w1]) rfl trivial (enters_of Tryz.func222 (by kernel_rfl) rfl)
  (values_stops 5 (by omega) w1 cap (fun i=>i≠w0.heap.size) A l zs HZ (by omega) V (by omega) (fun h ad e=>by have:=NE h ad e;omega) Z HS)
  (fun h k=>lJ h k) (zm (by omega)) (fun W o h=>kW (by omega) (jP (jQ W) o)) (Below.refl _ _) (fun _=>rfl)
  (TxI w V w0 l) (TxX w l) (U5 (by have:=T.size;omega)) (fun c=>U1) hst
  (fun x b=>{tmps:=#[jN A l cap,undef,.string ⟨#[]⟩,jJ 0,jO w0,jO b,jN A l cap,.bool true,.bool false,jN A l cap,
   .func (.func 222) #[] #[jO w1],.agg #[jL (k7 l x.1).1,jL (k7 l x.1).2],undef,undef,undef,undef,undef,undef,undef,undef,undef,undef,undef,undef],defers:=[]})
  (fun x=>.cells #[jL (k7 l x.1).1,jL (k7 l x.1).2] 71) ?assign ?body ?done ?stop
 case assign=>
  intro l x W K hK;gi_wp2;exact hK
 case body=>
  rintro l' pre x W b⟨⟨pv,hP,hO⟩,hb⟩ hbz hN hlt;have HN:Hid (jR W b 71 #[jL (k7 l x.1).1,jL (k7 l x.1).2]):=hN;have OQ:=ah hP;have HO:=ah hO;have HB:=ah hb;have hlen:(m_ l pre).length<l.length:=by simp[m_];omega
  have HMS:Hid (xE (m_ l (pre++[x]))=xE (m_ l pre)++[.string (pG (k7 l x.1))]):=by show _=_;rw[rK];simp[xE]
  have HML:Hid ((m_ l (pre++[x])).length=(m_ l pre).length+1):=by show _=_;rw[rK];simp
  obtain⟨sz1,sz2,sz3⟩:=SZ x.1 x.2;obtain⟨i0,hi0,hz0,hz1,hz2⟩:=bi5 Tryz.Un;clear hP hO hb hN;generalize k7 l x.1=it at*
  obtain⟨nm,vl⟩:=it;have HPT:Hid (pG (nm,vl)=nm++⟨#[61]⟩++⟨(uE (tx vl)).toArray⟩):=rfl;have QQ:Hid (∀w1,jE Tryz.prog 146 #[jL vl] w1 fun e w'=>e=.returned (.string ⟨(uE (tx vl)).toArray⟩)∧Below w1 w1 w'):=fun w1=>JK vl w1 sz3;have hq1:(jf (uE (tx vl)).toArray).size≤120:=by rw[zR];exact sz2
  generalize jf (uE (tx vl)).toArray=qv at*
  have ha1:fK .add nm ⟨#[61]⟩=pure (.string (nm++⟨#[61]⟩)):=oL (by simp only at sz1;show nm.size+1≤1000000;omega);have ha2:fK .add (nm++⟨#[61]⟩) qv=pure (.string (nm++⟨#[61]⟩++qv)):=oL (by simp only at sz1;rw[fc];show nm.size+1+qv.size≤1000000;omega);generalize xE (m_ l pre)=xs at*
  generalize(m_ l pre).length=np at*
  simp only at sz1 sz2 sz3 HN;have c0:=OQ.one;have n0:=HN.p0;have n1:=HN.p1;have fz:=OQ.frozen 0;gi_wp2_with fail;refine ve (S:=fun w'=>w'.cell? ⟨w0,0,none⟩=some pv∧w'.cell? ⟨b,0,none⟩=some (.string nm)∧w'.cell? ⟨b,1,none⟩=some (.string vl)) (s:=10) (by kernel_rfl) (by kernel_rfl) (by rintro⟨_,_,h⟩;exact h) ?_;refine sU ⟨c0,n0,n1⟩ ?_;refine oY 6 fun K hK=>?_;go_simp;refine(QQ _).mono ?_;rintro e W2⟨rfl,hb2⟩;have hd:Below W W W2:=Below.two (below_drewN (jQ W) 1) hb2;have hVW:V.heap.size≤W.heap.size:=by have:=HN.lt;omega
  replace HN:=ah (HN.later hd);replace OQ:=ah (OQ.later hd);have xd:Hid (W2.ownsRow V 9 1 pv np xs):=lf HO hd;have HB2:=ah (Below.two HB hd);have KO:=ky hd;have KP:=ah (kW (n₀:=V.heap.size) (p:=fun i=>i≠w0.heap.size) hVW hd);have av6:V.heap.size≤W2.heap.size:=a_ hVW hd.size;clear hd hb2 c0 n0 n1 fz HO HB;have c0:=OQ.one;have n0:=HN.p0;have n1:=HN.p1;refine hK.out _ _ (fun _=>⟨c0,n0,n1⟩) ?_;clear hK K;refine az ?_;refine sU ⟨c0,n0,n1⟩ ?_;refine oY 8 fun K hK=>?_;go_simp;have hba:Below W2 W2 (W2.alloc (.cells #[jL (nm++⟨#[61]⟩++qv)] 9)):=jP (jQ W2) _;have NB:Hid (jR (W2.alloc (.cells #[jL (nm++⟨#[61]⟩++qv)] 9)) W2 9 #[jL (nm++⟨#[61]⟩++qv)]):=jR.new W2 _ _;replace HN:=ah (HN.later hba);replace OQ:=ah (OQ.later hba);have w_:Hid ((W2.alloc (.cells #[jL (nm++⟨#[61]⟩++qv)] 9)).ownsRow V 9 1 pv np xs):=lf xd hba;have HB3:=ah (Below.two HB2 hba);replace KO:=KO.trans (ky hba);replace KP:=ah (lJ KP (kW av6 hba));have hw2:=hba.size;clear hba c0 n0 n1 xd HB2;generalize(W2.alloc (.cells #[jL (nm++⟨#[61]⟩++qv)] 9))=W3 at*
  have c0:=OQ.one;have n0:=HN.p0;have n1:=HN.p1;refine hK.out _ _ (fun _=>⟨c0,n0,n1⟩) ?_;clear hK K;refine az ?_;refine oY 9 fun K hK=>?_;refine tg rfl (.tmp 12) (.tmp 20) 66 rfl V.heap.size 9 i0 (aF) 1 16 Tryz.underlying66 hi0 hz0 hz1 hz2 rfl (by decide) pv np xs rfl w_.out (dE W2) (some (lz 43 W2)) 1 1 [.string (nm++⟨#[61]⟩++qv)] rfl (by simp) (JJ (cs:=[.string (nm++⟨#[61]⟩++qv)]) NB.out) (by intro u hu;simp at hu;subst hu;rfl) (by unfold maxLen;omega) (by omega) (by omega) ?_;intro A3 c3 W4 hown4 hg4;have hrow:=tJ w_;have hne:∀r,pv.ownBlock=some r→r≠w0.heap.size:=fun r hr e=>by
   have:=(hrow r hr).1;omega
  replace OQ:Hid (jR W4 w0 66 #[pv]):=OQ.grown hg4 (fun e=>hne _ e.symm rfl);have hnb:∀r,pv.ownBlock=some r→r≠b:=fun r hr e=>by
   obtain⟨_,c,fz,hc⟩:=hrow r hr;subst e;rw[show W3.heap[r]? =_ from HN]at hc;injection hc with hc;injection hc with _ hc;exact absurd hc (by decide)
  replace HN:Hid (jR W4 b 71 #[jL nm,jL vl]):=HN.grown hg4 (fun e=>hnb _ e.symm rfl);have IS:=ah hown4;have HB4:(bB w W4):=HB3.grown hg4 (HB3.size) (fun r hr=>by have:=(hrow r hr).1;have:=T.size;omega);replace KO:=KO.trans (sn hg4 (fun k e=>by obtain⟨_,c,fz,hc⟩:=hrow k e;exact⟨c,_,fz,hc⟩));replace KP:Hid (qK V (fun i=>i≠w0.heap.size) W W4):=lJ KP ⟨hg4.size,fun i hi _=>hg4.block i (by omega) (fun e=>by have:=(hrow i e.symm).1;omega)⟩;clear hown4 hg4 hrow hne hnb c0 n0 n1 w_ HB3 NB;have c0:=OQ.out.one;have n0:=HN.out.p0;have n1:=HN.out.p1;have fz:=OQ.out.frozen 0;refine hK.out _ _ (fun _=>⟨c0,n0,n1⟩) ?_;clear hK K;refine az ?_;refine oY 10 fun K hK=>?_;go_simp;refine hK.out _ _ (fun h=>by cases h) ?_;clear hK K;refine az ?_;refine yi ?_;have hOW:(W4.setCell (lz 43 w0) (.slice A3 (np+1) c3)).ownsRow V.heap.size 9 1 (.slice A3 (np+1) c3) (np+1) (xs++[.string (nm++⟨#[61]⟩++qv)]):=
   bj0 IS (a:=⟨w0,0,none⟩) (fun e=>by have:=(tJ IS _ e).1;simp only at this;omega) _
  refine⟨KO.trans (b7 _ _ _),lJ KP (uw (by simp)),⟨.slice A3 (np+1) c3,OQ.kY 0 _,?_⟩,HB4.setCell (by show w.heap.size≤w0.heap.size;exact hw0) _⟩;rw[HML,HMS,HPT];exact hOW
 case done=>
  rintro D ys W hD rfl⟨⟨pv,hP,hO⟩,hb⟩ hK;rw[wl HZ]at hO;have c0:=hP.one;have hN0:0<l.length:=by omega
  obtain⟨r,cap',rfl,hrl⟩:∃r cap',pv=.slice (aC r) l.length cap'∧l.length≤cap':=by
   obtain⟨_,⟨_,e⟩|⟨r,cap',cur,e1,_,_,e2,_⟩⟩:=hO
   ·omega
   exact⟨r,cap',e1,e2⟩
  have QJ:=ah (Tryz.strings_Join r 0 cap' (l.map pG) ⟨#[44]⟩ W (fun j x hj=>by
   rw[au,hO.cellAt j (by
    have:=(ci.1 hj).1;simpa using this)]
   simp only[xE,eD,Option.map_eq_some_iff]at hj⊢;obtain⟨y,h1,h2⟩:=hj;exact⟨y,h1,by rw[h2]⟩) (hO.lt r rfl).2 (by simp;omega) (by simp;omega) (To SZ2 hl6))
  rw[ax]at QJ;have HK:=ah hK;have HB:=ah hb;clear hP hO hb hK;go_wp2_with fail;refine QJ.mono ?_;rintro e W2⟨rfl,hb2⟩;have Tf:W2.heap[D]? =some (aY):=(hb2.block D (aw.1 HK).1).trans HK;go_wp2_with fail;try rw[cf]
  refine⟨by simp,.inl ⟨_,_,rfl,bi2 Tf,?_⟩⟩;exact⟨.tuple #[.string ⟨(qR l).toArray⟩,jJ 0],by simp[results,Tryz.results99,go_sem,qR],rfl,(Below.two HB hb2).trans (bj6 (w:=w) aa _ D _ _ (by have:=T.size;omega) Tf rfl rfl)⟩
 rintro D c pre W _ _ h _
 exact h.elim
def Po(A:Option jG)(l:List kI)(cap:Nat)(hs:∀x∈l,(x.2).size<=1000000)(w:jC)(d:Tb w)(b:Lb w w A l):jE Tryz.prog 99 #[jN A l cap] w λe w'=>e=.returned (if setB l=true then .tuple #[.string ⟨(qR l).toArray⟩,jJ 0]else .tuple #[aF,jJ 40])/\Below w w w':=by
 cases f:setB l with
 |true=>rw[if_pos rfl];exact jI.1 (Tq A l cap f hs w d b)
 |false=>
  rw[if_neg lV];have c:=ah (j_ A l cap (λx g=>by have:=hs x g;omega) w d b);rw[f]at c;go_in;go_wp2_with fail;refine c.mono ?_;rintro e h⟨rfl,a⟩;go_wp2;go_ret2;exact⟨rfl,a⟩
end
def VL{s t:v?}:tx s=tx t↔s=t:=⟨λh=>rX h,λh=>by rw[h]⟩
def In:∀(l:E kI)(c:E y?),chainB c l=t?->(∀x∈l,lsB c (tx x.1)=t?)/\l.Pairwise λa b=>lsB (tx a.1) (tx b.1)=t?
 |[],c,_=>⟨λ_ h=>by simp at h,List.Pairwise.nil⟩
 |x::l,c,h=>by
  simp only[chainB,ba]at h;obtain⟨j,m⟩:=h;obtain⟨a,b⟩:=In l (tx x.1) m;have g:lsB c (tx x.1)=t?:=by
   simp only[ri,Ep,ba,jp,Bool.or_eq_false_iff]at j;obtain⟨-,⟨f,k⟩,-⟩:=j;rcases ur (tx x.1) c with e|e|e
   .rw[show dW (tx x.1) c=t? from e]at f;cases f
   .rw[e]at k;simp at k
   exact e
  exact⟨λy d=>by rcases cw.1 d with rfl|d;exact g;exact qd g (a y d),b6.2 ⟨a,b⟩⟩
def Ag:∀(d c:E kI),(d.Pairwise λa b=>lsB (tx a.1) (tx b.1)=t?)->(c.Pairwise λa b=>lsB (tx b.1) (tx a.1)=u?)->c.Perm d->c=d
 |[],c,_,_,h=>List.Perm.eq_nil h
 |x::r,[],_,_,h=>by have:=h.length_eq;simp at this
 |x::r,y::s,j,n,h=>by
  have p1:=b6.1 j;have f:=b6.1 n;by_cases e:y=x
  .subst e;rw[Ag r s p1.2 f.2 ((List.perm_cons y).1 h)]
  have m:y∈r:=by
   have:=h.mem_iff.1 (di (a:=y) (l:=s));rcases cw.1 this with k|k
   .exact H? k e
   exact k
  have g:x∈s:=by
   have:=h.mem_iff.2 (di (a:=x) (l:=r));rcases cw.1 this with k|k
   .exact H? k.symm e
   exact k
  have a:=p1.1 y m;have b:=f.1 x g;rw[a]at b
  cases b
def PE(h:S_ l l.length):l.Pairwise λa b=>lsB (tx b.1) (tx a.1)=u?:=by
 refine cj.2 λi j e d c=>?_;have:=h i j c d;simpa[ahead,k7,e,d]using this
def LL(h:setB l=t?):l.Pairwise λa b=>lsB (tx a.1) (tx b.1)=t?:=by
 simp only[setB,ba]at h;exact(In l [] h.2).2
variable{r:w? (E kI)}
def CQ{f:w? (E kI)}(h:mW t r)(c:mW t f):r=f:=by
 unfold mW at h c
 cases k:pE t with
 |none=>rw[k]at h c;simp only at h c;rw[h,c]
 |some l=>
  rw[k]at h c;obtain⟨a,e,m,rfl⟩:=h;obtain⟨b,d,n,rfl⟩:=c;by_cases g:setB a=t?
  .rw[Ag a b (LL g) (PE n) (d.trans e.symm)]
  by_cases j:setB b=t?
  .rw[Ag b a (LL j) (PE m) (e.trans d.symm)]
  rw[A? g,A? j]
open Classical in
noncomputable def vt(t:E y?):w? (E kI):=if h:∃l,mW t (M l)then M h.choose else Z
def Gk(h:mW t r):vt t=r:=by
 unfold vt
 cases r with
 |some l=>
  have e:∃l,mW t (M l):=⟨l,h⟩;rw[dif_pos e];exact CQ e.choose_spec h
 |none=>
  rw[dif_neg];rintro⟨l,a⟩
  cases CQ a h
def CP(h:mW t (M l)):setB l=t?:=by
 unfold mW at h
 cases c:pE t with
 |none=>rw[c]at h;cases h
 |some d=>
  rw[c]at h;obtain⟨a,_,_,e⟩:=h;by_cases b:setB a=t?
  .rw[B? b]at e;cases e;exact b
  rw[A? b]at e;cases e
end Go.Proofs.YtfcnedcahoifoaaGreatDoor

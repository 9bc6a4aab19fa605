import Derived.MapKept
import Derived.Maps.OwnOps
import Derived.Laws.EntriesVeiled
import Derived.IntWalk
import Derived.Test.YtfcnedcahoifoaaGreatDoorOA
namespace Go.Proofs.YtfcnedcahoifoaaGreatDoor
open Go.RowKit
open _root_.Array renaming getElem?_eq_some_iff→aw,mem_of_getElem?→h_,replicate→fF
open _root_.Bool renaming and_eq_true→ba,not_eq_true'→jp
open _root_.ByteArray renaming mk→jf,size_append→fc
open _root_.Go renaming Addr→jG,CallsIn→bj2,Calls→jE,Code→bk9,Ending→bi6,Exit→bk7,KeepsOthers→bj4,MapEntry→bk4,Oper→bk0,OwnFrom→bj3,Program→bi3,TypeId→jH,Value→jD,World→jC,belowK_b→bj6,bodyPost_ret→jF,callsIn_of_wp_marks→bi7,callsIn_wide→jI,info_parts→bi5,ownsRow_setCell_other→bj0,results_none→bj7,rounds_succ→bi9,run_takeDeferred→bi2,run_underlying→bi8,wpIn_wide→bi4,wpQuiet_nil→bl0,wp_loop_rounds→bj8
open _root_.Go.Code renaming region→jo
open _root_.Go.Exit renaming noGoto_ret→cf
open _root_.Go.Fence renaming wide→cz
open _root_.Go.Instr renaming findNow→eI,lookup→eU,mapUpdate→fG,next→fw,typeAssert→dd
open _root_.Go.IntWalk renaming i64_in→dv
open _root_.Go.KeepsOthers renaming setCell→b7
open _root_.Go.Lib renaming BuilderAtF→fN,IsBuilderF→dX,OthersKept→eh,below_iterAt→iq,byteCells_append→iX,byteCells_length→ii,byteCells→dV,hid→ai,iterAt_heap→iC,joinTail→iH,run_next_any_at→fp,run_next_end_at→fq,runeCells→iS
open _root_.Go.Op renaming bytesLess→dW,stringOp→fK
open _root_.Go.Oper renaming semAt_some→db
open _root_.Go.Region renaming Mode→fD
open _root_.Go.Result renaming andThen→dw
open _root_.Go.RowKit renaming intOf→av
open _root_.Go.Sem renaming run_bind→eT,run_pure→fX
open _root_.Go.Value renaming ownBlock→gy,slice→eo
open _root_.Go.World renaming alloc_heap_new→du,iterPos→eR,ownsRow_nil→dY,ownsRow→gX
open _root_.List renaming all_eq_true→dZ,append_assoc→eH,cons_append→dj,flatMap_cons→dg,getElem?_eq_some_iff→ci,getElem?_map→eD,getElem_mem→ar,length_append→cd,length_cons→c_,length_map→ax,length_nil→dp,map_cons→df,mem_append→ed,mem_cons_self→di,mem_cons→cw,mem_range→dh,mem_singleton→eM,nil_append→dz,pairwise_cons→b6,pairwise_iff_getElem→cj,push_toArray→fW,range→bu
open _root_.Nat renaming le_refl→ay,le_succ→dU,le_trans→a_,reduceAdd→ao,reduceSub→dk,zero_add→au,zero_le→be
set_option maxRecDepth 100000
set_option maxHeartbeats 16000000
set_option linter.unusedVariables false
set_option linter.unusedSimpArgs false
instance aX7(x0:Nat)(x1:ByteArray):CoeOut (wU 27 x0 x1) Nat:=⟨fun _=>(x0+(nP ((tx x1).drop x0)).2)⟩
instance aX5(x0:Nat)(x1:Nat × Nat):CoeOut (wU 36 x0 x1) (Array jD):=⟨fun _=>#[jO x0,.int .i32 x1.1]⟩
structure SdI(x0:ByteArray)(x1:Nat) where
def dI(x0:ByteArray)(x1:Nat):SdI x0 x1:=⟨⟩
instance aU0(x0:ByteArray)(x1:Nat):CoeOut (SdI x0 x1) (List UInt8):=⟨fun _=>((tx x0).drop x1)⟩
section
variable{w w':jC}{B B':Nat}{A:Option jG}{l:List kI}
end
section
open Go.RowKit Go.Shelf
attribute [local go_sem] db
end
section
variable{F:Fence}{n:Nat}{P:bi3}
end
section
attribute [local go_sem] db
end
section
open Go.RowKit Go.Shelf
def lays167_ren:Go.Shelf.Ren:=⟨fun|167=>187|240=>206|276=>243|n=>n,fun|0=>0|3=>3|4=>4|5=>5|9=>9|20=>20|21=>21|37=>151|46=>152|51=>365|70=>310|72=>312|75=>171|80=>315|164=>372|127=>355|n=>n,fun|n=>n⟩
theorem lays167:Go.Proofs.Lays.n167 Tryz.prog lays167_ren:={
 mixed:=oo
 f167:=Tryz.func187.trans (congrArg some oo)
 f240:=Tryz.func206.trans (congrArg some oo)
 f276:=Tryz.func243.trans (congrArg some oo)
 t0:=Tryz.underlying0
 a0:=Tryz.isAgg0
 z0:=Tryz.sizeOf0
 v0:=Tryz.zeroValue0
 t4:=Tryz.underlying4
 a4:=Tryz.isAgg4
 z4:=Tryz.sizeOf4
 v4:=Tryz.zeroValue4
 t5:=Tryz.underlying5
 a5:=Tryz.isAgg5
 z5:=Tryz.sizeOf5
 v5:=Tryz.zeroValue5
 t9:=Tryz.underlying9
 a9:=Tryz.isAgg9
 z9:=Tryz.sizeOf9
 v9:=Tryz.zeroValue9
 t20:=Tryz.underlying20
 a20:=Tryz.isAgg20
 z20:=Tryz.sizeOf20
 v20:=Tryz.zeroValue20
 t37:=Tryz.underlying151
 a37:=Tryz.isAgg151
 z37:=Tryz.sizeOf151
 v37:=Tryz.zeroValue151
 t70:=Tryz.underlying310
 a70:=Tryz.isAgg310
 z70:=Tryz.sizeOf310
 v70:=Tryz.zeroValue310
 t72:=Tryz.underlying312
 a72:=Tryz.isAgg312
 z72:=Tryz.sizeOf312
 v72:=Tryz.zeroValue312
 t75:=Tryz.underlying171
 a75:=Tryz.isAgg171
 z75:=Tryz.sizeOf171
 v75:=Tryz.zeroValue171
 t164:=Tryz.underlying372
 a164:=Tryz.isAgg372
 z164:=Tryz.sizeOf372
 v164:=Tryz.zeroValue372}
theorem Builder_Extra_167:Builder.Extra Tryz.prog lays167_ren:={
 sizeBuilder:=oo
 liesBuilder:=oo
 t5:=Tryz.underlying5
 a5:=Tryz.isAgg5
 z5:=Tryz.sizeOf5
 v5:=Tryz.zeroValue5
 infoByte:=oo
 cellsByte:=oo
 sizeByte:=oo
 neB5:=by decide}
def lays168_ren:Go.Shelf.Ren:=⟨fun|168=>188|240=>206|242=>223|276=>243|278=>249|n=>n,fun|0=>0|3=>3|4=>4|5=>5|9=>9|20=>20|21=>21|37=>151|46=>152|51=>365|70=>310|72=>312|75=>171|80=>315|164=>372|127=>355|n=>n,fun|n=>n⟩
theorem lays168:Go.Proofs.Lays.n168 Tryz.prog lays168_ren:={
 mixed:=oo
 f168:=Tryz.func188.trans (congrArg some oo)
 f240:=Tryz.func206.trans (congrArg some oo)
 f242:=Tryz.func223.trans (congrArg some oo)
 f276:=Tryz.func243.trans (congrArg some oo)
 f278:=Tryz.func249.trans (congrArg some oo)
 t0:=Tryz.underlying0
 a0:=Tryz.isAgg0
 z0:=Tryz.sizeOf0
 v0:=Tryz.zeroValue0
 t3:=Tryz.underlying3
 a3:=Tryz.isAgg3
 z3:=Tryz.sizeOf3
 v3:=Tryz.zeroValue3
 t4:=Tryz.underlying4
 a4:=Tryz.isAgg4
 z4:=Tryz.sizeOf4
 v4:=Tryz.zeroValue4
 t5:=Tryz.underlying5
 a5:=Tryz.isAgg5
 z5:=Tryz.sizeOf5
 v5:=Tryz.zeroValue5
 t9:=Tryz.underlying9
 a9:=Tryz.isAgg9
 z9:=Tryz.sizeOf9
 v9:=Tryz.zeroValue9
 t20:=Tryz.underlying20
 a20:=Tryz.isAgg20
 z20:=Tryz.sizeOf20
 v20:=Tryz.zeroValue20
 t21:=Tryz.underlying21
 a21:=Tryz.isAgg21
 z21:=Tryz.sizeOf21
 v21:=Tryz.zeroValue21
 t37:=Tryz.underlying151
 a37:=Tryz.isAgg151
 z37:=Tryz.sizeOf151
 v37:=Tryz.zeroValue151
 t46:=Tryz.underlying152
 a46:=Tryz.isAgg152
 z46:=Tryz.sizeOf152
 v46:=Tryz.zeroValue152
 t51:=Tryz.underlying365
 a51:=Tryz.isAgg365
 z51:=Tryz.sizeOf365
 v51:=Tryz.zeroValue365
 t70:=Tryz.underlying310
 a70:=Tryz.isAgg310
 z70:=Tryz.sizeOf310
 v70:=Tryz.zeroValue310
 t72:=Tryz.underlying312
 a72:=Tryz.isAgg312
 z72:=Tryz.sizeOf312
 v72:=Tryz.zeroValue312
 t75:=Tryz.underlying171
 a75:=Tryz.isAgg171
 z75:=Tryz.sizeOf171
 v75:=Tryz.zeroValue171
 t164:=Tryz.underlying372
 a164:=Tryz.isAgg372
 z164:=Tryz.sizeOf372
 v164:=Tryz.zeroValue372}
theorem Builder_Extra_168:Builder.Extra Tryz.prog lays168_ren:={
 sizeBuilder:=oo
 liesBuilder:=oo
 t5:=Tryz.underlying5
 a5:=Tryz.isAgg5
 z5:=Tryz.sizeOf5
 v5:=Tryz.zeroValue5
 infoByte:=oo
 cellsByte:=oo
 sizeByte:=oo
 neB5:=by decide}
def lays169_ren:Go.Shelf.Ren:=⟨fun|169=>172|n=>n,fun|0=>0|3=>3|4=>4|5=>5|9=>9|20=>20|21=>21|37=>151|46=>152|51=>365|70=>310|72=>312|75=>171|80=>315|164=>372|127=>355|n=>n,fun|n=>n⟩
theorem lays169:Go.Proofs.Lays.n169 Tryz.prog lays169_ren:={
 mixed:=oo
 f169:=Tryz.func172.trans (congrArg some oo)
 t0:=Tryz.underlying0
 a0:=Tryz.isAgg0
 z0:=Tryz.sizeOf0
 v0:=Tryz.zeroValue0
 t3:=Tryz.underlying3
 a3:=Tryz.isAgg3
 z3:=Tryz.sizeOf3
 v3:=Tryz.zeroValue3
 t9:=Tryz.underlying9
 a9:=Tryz.isAgg9
 z9:=Tryz.sizeOf9
 v9:=Tryz.zeroValue9
 t37:=Tryz.underlying151
 a37:=Tryz.isAgg151
 z37:=Tryz.sizeOf151
 v37:=Tryz.zeroValue151
 t70:=Tryz.underlying310
 a70:=Tryz.isAgg310
 z70:=Tryz.sizeOf310
 v70:=Tryz.zeroValue310
 t72:=Tryz.underlying312
 a72:=Tryz.isAgg312
 z72:=Tryz.sizeOf312
 v72:=Tryz.zeroValue312
 t127:=Tryz.underlying355
 a127:=Tryz.isAgg355
 z127:=Tryz.sizeOf355
 v127:=Tryz.zeroValue355}
theorem Builder_Extra_169:Builder.Extra Tryz.prog lays169_ren:={
 sizeBuilder:=oo
 liesBuilder:=oo
 t5:=Tryz.underlying5
 a5:=Tryz.isAgg5
 z5:=Tryz.sizeOf5
 v5:=Tryz.zeroValue5
 infoByte:=oo
 cellsByte:=oo
 sizeByte:=oo
 neB5:=by decide}
theorem Fp(B b:Nat)(bs:List jD)(c:Int)(w:jC)(h:dX 312 5 B b bs w)(hlen:bs.length+1≤140737488355328)(hBw:B≤w.heap.size):
 jE Tryz.prog 187 #[jO b,.int .u8 c] w fun e w'=>e=.returned .nilIface∧(fN 312 5 B b (.pointer (aC b)) (bs++[.int .u8 c]) w'∧Below B w w'∧eh 5 (some b) w w'):=
 Any.Builder_WriteByte_k lays167 Builder_Extra_167 B b bs c w h hlen hBw
theorem yd(B b:Nat)(bs:List jD)(r:Int)(hr0: -2147483648≤r)(hr1:r≤2147483647)(w:jC)(h:dX 312 5 B b bs w)(hlen:bs.length+4≤140737488355328)(hBw:B≤w.heap.size):
 jE Tryz.prog 188 #[jO b,.int .i32 r] w fun e w'=>e=.returned (.tuple #[jJ (iS r).length,.nilIface])∧(fN 312 5 B b (.pointer (aC b)) (bs++iS r) w'∧Below B w w'∧eh 5 (some b) w w'):=
 Any.Builder_WriteRune_k lays168 Builder_Extra_168 B b bs r hr0 hr1 w h hlen hBw
theorem OH(B b:Nat)(l:List UInt8)(w:jC)(h:dX 312 5 B b (dV l) w)(hBw:B≤w.heap.size):
 jE Tryz.prog 172 #[jO b] w fun e w'=>e=.returned (.string ⟨l.toArray⟩)∧(dX 312 5 B b (dV l) w'∧Below B w w'∧eh 5 (some b) w w'):=
 Any.Builder_String_any_k lays169 Builder_Extra_169 B b l w h hBw
end
variable{P:bi3}{w:jC}{m clock:Nat}{es:Array bk4}{T kt et:jH}{c:Int}{v:jD}
theorem Qu(hm:w.heap[m]? =some (.map es clock))(hk:P.underlying T=some (.map kt et))(hd:P.underlying kt=some (.int .i32))(hf:eI (.int .i32) (.int .i32 c) es.toList 0=some none):
 (fG T (.map (some m)) (.int .i32 c) v).run P w=.ok () (w.putObj m (.map (es.push {key:=.int .i32 c,val:=v,born:=clock}) (clock+1))):=by
 have h1:=Go.MapKept.run_checkKey (w:=w) hd (k:=.int .i32 c) rfl false 9999
 have h2:=Go.MapKept.run_findKey (w:=w) hd hf
 simp only[fG,eT,bi8 hk,dw,getObj,Sem.run,hm,h1,h2,setObj]
 rfl
variable{W:jC}
theorem sh(hm:W.heap.size=m)(hk:P.underlying T=some (.map kt et))(hd:P.underlying kt=some (.int .i32))(hf:eI (.int .i32) (.int .i32 c) es.toList 0=some none):
 (fG T (.map (some m)) (.int .i32 c) v).run P (W.alloc (.map es clock))=.ok () (W.alloc (.map (es.push {key:=.int .i32 c,val:=v,born:=clock}) (clock+1))):=by
 subst hm
 rw[Qu (du _ _) hk hd hf]
 congr 1
 simp only[World.putObj,World.alloc]
 congr 1
 apply Array.ext'
 simp[Array.setIfInBounds,Array.toList_push]
theorem xI{i:Nat}(hm:w.heap[m]? =some (.map es clock))(hk:P.underlying T=some (.map kt et))(hd:P.underlying kt=some (.int .i32))(hf:eI (.int .i32) (.int .i32 c) es.toList 0=some (some (i,v))):
 (eU T (.map (some m)) (.int .i32 c) true).run P w=.ok (.tuple #[v,.bool true]) w:=by
 have h1:=Go.MapKept.run_checkKey (w:=w) hd (k:=.int .i32 c) rfl es.isEmpty 9999
 have h2:=Go.MapKept.run_findKey (w:=w) hd hf
 simp only[eU,eT,bi8 hk,dw,getObj,Sem.run,hm,fX,h1,h2]
 rfl
theorem Av{z:jD}(hm:w.heap[m]? =some (.map es clock))(hk:P.underlying T=some (.map kt et))(hd:P.underlying kt=some (.int .i32))(hf:eI (.int .i32) (.int .i32 c) es.toList 0=some none)(hz:(zeroValue et).run P w=.ok z w):
 (eU T (.map (some m)) (.int .i32 c) true).run P w=.ok (.tuple #[z,.bool false]) w:=by
 have h1:=Go.MapKept.run_checkKey (w:=w) hd (k:=.int .i32 c) rfl es.isEmpty 9999
 have h2:=Go.MapKept.run_findKey (w:=w) hd hf
 simp only[eU,eT,bi8 hk,dw,getObj,Sem.run,hm,fX,h1,h2,hz]
 rfl
def u7(g:Nat):Array bk4:=#[{key:=.int .i32 61,val:=.func (.func 207) #[jO g] #[],born:=0},{key:=.int .i32 44,val:=.func (.func 208) #[jO g] #[],born:=1},{key:=.int .i32 92,val:=.func (.func 209) #[jO g] #[],born:=2}]
structure RS where
 nm:ByteArray
 vl:ByteArray
 place:Int
 runes:Int
 l:List kI
def RS.zero:RS:=⟨⟨#[]⟩,⟨#[]⟩,0,0,[]⟩
def lZ(B g m:Nat)(s:RS)(W:jC):Prop:=
 B≤g∧B≤m∧W.heap[m]? =some (.map (u7 g) 3)∧∃lv,jR W g 324 #[jL s.nm,jL s.vl,jJ s.place,jJ s.runes,lv,.map (some m)]∧W.ownsRow B 71 2 lv s.l.length (k_ s.l)
theorem B_(w:jC):jE Tryz.prog 174 #[] w fun e w'=>e=.returned (.pointer (aM w))∧lZ w w (w.heap.size+1) RS.zero w'∧Below w w w':=by
 have hs:(w.alloc (.cells #[aF,aF,jJ 0,jJ 0,jM,.map none] 324)).heap.size=w.heap.size+1:=lV;have q1:=fun v=>sh (P:=Tryz.prog) (T:=322) (c:=61) (v:=v) (es:=#[]) (clock:=0) hs Tryz.underlying322 Tryz.underlying21 rfl;have q2:=fun v v'=>sh (P:=Tryz.prog) (T:=322) (c:=44) (v:=v) (es:=#[{key:=.int .i32 61,val:=v',born:=0}]) (clock:=1) hs Tryz.underlying322 Tryz.underlying21 rfl;have q3:=fun v v' v''=>sh (P:=Tryz.prog) (T:=322) (c:=92) (v:=v) (es:=#[{key:=.int .i32 61,val:=v',born:=0},{key:=.int .i32 44,val:=v'',born:=1}]) (clock:=2) hs Tryz.underlying322 Tryz.underlying21 rfl;simp only[fW,dz,dj,au,ao]at q1 q2 q3;have hmm:=@run_makeMap Tryz.prog;go_in;go_wp2;go_ret;refine⟨rfl,⟨ay _,dU _,?_,jM,(jR.new w _ _).alloc _,dY _ _ _ _⟩,jP (jP (jQ _) _) _⟩;have h:=du (w.alloc (.cells #[aF,aF,jJ 0,jJ 0,jM,.map (some (w.heap.size+1))] 324)) (.map (u7 w) 3);rw[show(w.alloc (.cells #[aF,aF,jJ 0,jJ 0,jM,.map (some (w.heap.size+1))] 324)).heap.size=w.heap.size+1 by simp]at h;exact h
def kQ(B g m:Nat)(w:jC)(r:Option RS)(e:bi6)(w':jC):Prop:=
 Below B w w'∧eh 71 (some g) w w'∧(match r with
  |some s'=>e=.returned .nilIface∧lZ B g m s' w'
  |none=>(∃t,e=.returned (.iface 317 (.agg #[jL t])))∧∃s',lZ B g m s' w')
variable{B g:Nat}{s:RS}{w':jC}{t:ByteArray}
theorem kQ.err(h1:Below B w w')(h2:eh 71 (some g) w w')(h:lZ B g m s w'):kQ B g m w none (.returned (.iface 317 (.agg #[jL t]))) w':=⟨h1,h2,⟨t,rfl⟩,s,h⟩
theorem kQ.ok(h1:Below B w w')(h2:eh 71 (some g) w w')(h:lZ B g m s w'):kQ B g m w (some s) (.returned .nilIface) w':=⟨h1,h2,rfl,h⟩
variable{r:Option RS}{e:bi6}
theorem kQ.chain{w0:jC}(h:kQ B g m w r e w')(h1:Below B w0 w)(h2:eh 71 (some g) w0 w):kQ B g m w0 r e w':=⟨h1.trans h.1,h2.trans h.2.1,h.2.2⟩
variable{n:Nat}{xs:List jD}{cs:Array jD}
theorem LT{o:Nat}{u:jD}(h:W.ownsRow B 71 2 v n xs)(hb:jR W g 324 cs):(W.setCell ⟨g,o,none⟩ u).ownsRow B 71 2 v n xs:=by
 obtain⟨hl,h|⟨r,cap,cur,hv,hbr,hh,h1,h2,h3,h4⟩⟩:=h
 ·exact⟨hl,.inl h⟩
 refine⟨hl,.inr ⟨r,cap,cur,hv,hbr,(Below.heap_setCell W ⟨g,o,none⟩ u r ?_).trans hh,h1,h2,h3,h4⟩⟩;rintro rfl;rw[show W.heap[r]? =_ from hb]at hh;injection hh with hh;injection hh with _ hh;exact absurd hh B8
theorem Qs{c:Nat}{t:jH}(hm:W.heap[m]? =some (.map es c))(hb:jR W g t cs):m≠g:=by
 rintro rfl;rw[show W.heap[m]? =_ from hb]at hm
 cases hm
variable{s':RS}
theorem lZ.set{i:Nat}{u:jD}(h:lZ B g m s W)(hl:s'.l=s.l)
 (he:∀lv,(#[.string s.nm,.string s.vl,.int .i64 s.place,.int .i64 s.runes,lv,.map (some m)]:Array jD).setIfInBounds i u=#[.string s'.nm,.string s'.vl,.int .i64 s'.place,.int .i64 s'.runes,lv,.map (some m)]):
 lZ B g m s' (W.setCell ⟨g,i,none⟩ u):=by
 obtain⟨hB,hBm,hm,lv,hb,ho⟩:=h
 refine⟨hB,hBm,(Below.heap_setCell W ⟨g,i,none⟩ u m (Qs hm hb)).trans hm,lv,?_,by rw[hl];exact LT ho hb⟩
 have:=hb.kY i u
 rw[he lv]at this
 exact this
theorem lZ.fr(h:lZ B g m s W)(h1:Below B w W)(h2:eh 71 (some g) w W)(i:Nat)(u:jD):Below B w (W.setCell ⟨g,i,none⟩ u)∧eh 71 (some g) w (W.setCell ⟨g,i,none⟩ u):=
 ⟨h1.setCell h.1 _,h2.setCell _ rfl _⟩
def encR(d:Nat×Nat):ByteArray:=Utf8.encode (d.1:Int)
def pN(s:RS)(d:Nat×Nat):Option RS:=
 if s.place=0 then(if lD d=true∧s.nm.size<12 then some {s with nm:=s.nm++encR d}else none)
 else(if lm d=true∧s.runes<24 then some {s with vl:=s.vl++encR d,runes:=s.runes+1}else none)
def uz(s:RS)(d:Nat×Nat):Option RS:=if s.place=1 then pN s d else if tx s.nm=[]then none else some {s with place:=1}
def xv(s:RS):Option RS:=if s.place=0 then none else some {s with place:=2}
structure RS.Ok(s:RS):Prop where
 nm:s.nm.size≤12
 vl:(s.vl.size:Int)≤4*s.runes
 r0:0≤s.runes
 r24:s.runes≤24
 l:s.l.length≤6
theorem Qd(B g m:Nat)(s:RS)(d:Nat×Nat)(hd:d.1≤1114111)(w:jC)(h:lZ B g m s w)(hk:s.Ok)(hp:s.place=0)(hn:lD d=true)(hl:s.nm.size<12):
 jE Tryz.prog 210 (lI 36 g d) w (kQ B g m w (some {s with nm:=s.nm++encR d})):=by
 obtain⟨nm,vl,place,runes,l⟩:=s
 obtain⟨k1,k2,k3,k4,k5⟩:=hk
 simp only at k1 k2 k3 k4 k5 hp hl
 have hr:=h
 obtain⟨hB,hBm,hm,lv,hb,ho⟩:=h
 simp only at hb ho
 have c0:=ce hb 0
 have c1:=ce hb 1
 have c2:=ce hb 2
 have c3:=ce hb 3
 have f0:=hb.frozen 0
 have f1:=hb.frozen 1
 have f2:=hb.frozen 2
 have f3:=hb.frozen 3
 have HR:=ah hr
 subst hp
 obtain⟨x,hx⟩:∃x,Utf8.encode (d.1:Int)=x:=⟨_,rfl⟩
 have hx4:x.size≤4:=by rw[←hx];exact encode_size_le _
 have hadd:fK .add nm x=pure (.string (nm++x)):=by
  rw[fK,if_neg];show¬((nm.size+x.size:Nat):Int)>9223372036854775807;omega
 have hl1:((nm.size:Int)==12)=false:=O1
 have hl2:(nm.size==12)=false:=O1
 have HE:Hid (encR d=x):=hx
 go_in
 go_wp2_with fail
 refine(oM d _ hd).mono ?_
 rintro e w1⟨rfl,rfl⟩
 rw[hn]
 go_wp2_with fail
 go_ret
 have hf:=HR.fr (Below.refl _ _) (Lib.OthersKept.refl _ _ _) 0 (.string (nm++x))
 exact kQ.ok hf.1 hf.2 (HR.set rfl (fun lv=>by rw[HE];rfl))
theorem Qc(B g m:Nat)(s:RS)(d:Nat×Nat)(hd:d.1≤1114111)(w:jC)(h:lZ B g m s w)(hk:s.Ok)(hp:s.place=0)(hn:lD d=false):
 jE Tryz.prog 210 (lI 36 g d) w (kQ B g m w none):=by
 obtain⟨nm,vl,place,runes,l⟩:=s
 obtain⟨k1,k2,k3,k4,k5⟩:=hk
 simp only at k1 k2 k3 k4 k5 hp
 have hr:=h
 obtain⟨hB,hBm,hm,lv,hb,ho⟩:=h
 simp only at hb ho
 have c0:=ce hb 0
 have c1:=ce hb 1
 have c2:=ce hb 2
 have c3:=ce hb 3
 have f0:=hb.frozen 0
 have f1:=hb.frozen 1
 have f2:=hb.frozen 2
 have f3:=hb.frozen 3
 have HR:=ah hr
 subst hp
 go_in
 go_wp2_with fail
 refine(oM d _ hd).mono ?_
 rintro e w1⟨rfl,rfl⟩
 rw[hn]
 go_wp2
 go_ret
 exact kQ.err (Below.refl _ _) (Lib.OthersKept.refl _ _ _) HR
theorem Qb(B g m:Nat)(s:RS)(d:Nat×Nat)(hd:d.1≤1114111)(w:jC)(h:lZ B g m s w)(hk:s.Ok)(hp:s.place=0)(hn:lD d=true)(hl:¬s.nm.size<12):
 jE Tryz.prog 210 (lI 36 g d) w (kQ B g m w none):=by
 obtain⟨nm,vl,place,runes,l⟩:=s
 obtain⟨k1,k2,k3,k4,k5⟩:=hk
 simp only at k1 k2 k3 k4 k5 hp hl
 have hr:=h
 obtain⟨hB,hBm,hm,lv,hb,ho⟩:=h
 simp only at hb ho
 have c0:=ce hb 0
 have c1:=ce hb 1
 have c2:=ce hb 2
 have c3:=ce hb 3
 have f0:=hb.frozen 0
 have f1:=hb.frozen 1
 have f2:=hb.frozen 2
 have f3:=hb.frozen 3
 have HR:=ah hr
 subst hp
 have hl1:((nm.size:Int)==12)=true:=TQ
 have hl2:(nm.size==12)=true:=TQ
 go_in
 go_wp2_with fail
 refine(oM d _ hd).mono ?_
 rintro e w1⟨rfl,rfl⟩
 rw[hn]
 go_wp2
 go_ret
 exact kQ.err (Below.refl _ _) (Lib.OthersKept.refl _ _ _) HR
theorem Qa(B g m:Nat)(s:RS)(d:Nat×Nat)(hd:d.1≤1114111)(w:jC)(h:lZ B g m s w)(hk:s.Ok)(hp:¬s.place=0)(hn:lm d=true)(hl:s.runes<24):
 jE Tryz.prog 210 (lI 36 g d) w (kQ B g m w (some {s with vl:=s.vl++encR d,runes:=s.runes+1})):=by
 obtain⟨nm,vl,place,runes,l⟩:=s
 obtain⟨k1,k2,k3,k4,k5⟩:=hk
 simp only at k1 k2 k3 k4 k5 hp hl
 have hr:=h
 obtain⟨hB,hBm,hm,lv,hb,ho⟩:=h
 simp only at hb ho
 have c0:=ce hb 0
 have c1:=ce hb 1
 have c2:=ce hb 2
 have c3:=ce hb 3
 have f0:=hb.frozen 0
 have f1:=hb.frozen 1
 have f2:=hb.frozen 2
 have f3:=hb.frozen 3
 have HR:=ah hr
 have hp1:(place==0)=false:=VV
 obtain⟨x,hx⟩:∃x,Utf8.encode (d.1:Int)=x:=⟨_,rfl⟩
 have hx4:x.size≤4:=by rw[←hx];exact encode_size_le _
 have hadd:fK .add vl x=pure (.string (vl++x)):=by
  rw[fK,if_neg];show¬((vl.size+x.size:Nat):Int)>9223372036854775807;omega
 have hl1:(runes==24)=false:=by rw[beq_eq_false_iff_ne];omega
 have HE:Hid (encR d=x):=hx
 go_in
 go_wp2_with fail
 refine(oz d _ hd).mono ?_
 rintro e w1⟨rfl,rfl⟩
 rw[hn]
 go_wp2_with fail
 go_ret
 have hf:=HR.fr (Below.refl _ _) (Lib.OthersKept.refl _ _ _) 1 (.string (vl++x))
 have hr2:lZ B g m ⟨nm,vl++encR d,place,runes,l⟩ _:=HR.set rfl (i:=1) (u:=.string (vl++x)) (fun lv=>by rw[HE];rfl)
 have hf2:=hr2.fr hf.1 hf.2 3 (.int .i64 (runes+1))
 exact kQ.ok hf2.1 hf2.2 (hr2.set rfl (fun lv=>rfl))
theorem P_(B g m:Nat)(s:RS)(d:Nat×Nat)(hd:d.1≤1114111)(w:jC)(h:lZ B g m s w)(hk:s.Ok)(hp:¬s.place=0)(hn:lm d=false):
 jE Tryz.prog 210 (lI 36 g d) w (kQ B g m w none):=by
 obtain⟨nm,vl,place,runes,l⟩:=s
 obtain⟨k1,k2,k3,k4,k5⟩:=hk
 simp only at k1 k2 k3 k4 k5 hp
 have hr:=h
 obtain⟨hB,hBm,hm,lv,hb,ho⟩:=h
 simp only at hb ho
 have c0:=ce hb 0
 have c1:=ce hb 1
 have c2:=ce hb 2
 have c3:=ce hb 3
 have f0:=hb.frozen 0
 have f1:=hb.frozen 1
 have f2:=hb.frozen 2
 have f3:=hb.frozen 3
 have HR:=ah hr
 have hp1:(place==0)=false:=VV
 go_in
 go_wp2_with fail
 refine(oz d _ hd).mono ?_
 rintro e w1⟨rfl,rfl⟩
 rw[hn]
 go_wp2
 go_ret
 exact kQ.err (Below.refl _ _) (Lib.OthersKept.refl _ _ _) HR
theorem P9(B g m:Nat)(s:RS)(d:Nat×Nat)(hd:d.1≤1114111)(w:jC)(h:lZ B g m s w)(hk:s.Ok)(hp:¬s.place=0)(hn:lm d=true)(hl:¬s.runes<24):
 jE Tryz.prog 210 (lI 36 g d) w (kQ B g m w none):=by
 obtain⟨nm,vl,place,runes,l⟩:=s
 obtain⟨k1,k2,k3,k4,k5⟩:=hk
 simp only at k1 k2 k3 k4 k5 hp hl
 have hr:=h
 obtain⟨hB,hBm,hm,lv,hb,ho⟩:=h
 simp only at hb ho
 have c0:=ce hb 0
 have c1:=ce hb 1
 have c2:=ce hb 2
 have c3:=ce hb 3
 have f0:=hb.frozen 0
 have f1:=hb.frozen 1
 have f2:=hb.frozen 2
 have f3:=hb.frozen 3
 have HR:=ah hr
 have hp1:(place==0)=false:=VV
 have hl1:(runes==24)=true:=TQ
 go_in
 go_wp2_with fail
 refine(oz d _ hd).mono ?_
 rintro e w1⟨rfl,rfl⟩
 rw[hn]
 go_wp2
 go_ret
 exact kQ.err (Below.refl _ _) (Lib.OthersKept.refl _ _ _) HR
theorem xB(B g m:Nat)(s:RS)(d:Nat×Nat)(hd:d.1≤1114111)(w:jC)(h:lZ B g m s w)(hk:s.Ok):
 jE Tryz.prog 210 (lI 36 g d) w (kQ B g m w (pN s d)):=by
 unfold pN
 by_cases hp:s.place=0
 ·rw[if_pos hp];by_cases hc:lD d=true∧s.nm.size<12
  ·rw[if_pos hc];exact Qd B g m s d hd w h hk hp hc.1 hc.2
  rw[if_neg hc]
  cases hn:lD d with
  |false=>exact Qc B g m s d hd w h hk hp hn
  |true=>exact Qb B g m s d hd w h hk hp hn (fun e=>hc ⟨hn,e⟩)
 rw[if_neg hp]
 by_cases hc:lm d=true∧s.runes<24
 ·rw[if_pos hc];exact Qa B g m s d hd w h hk hp hc.1 hc.2
 rw[if_neg hc]
 cases hn:lm d with
 |false=>exact P_ B g m s d hd w h hk hp hn
 |true=>exact P9 B g m s d hd w h hk hp hn (fun e=>hc ⟨hn,e⟩)
theorem RY(B g m:Nat)(s:RS)(d:Nat×Nat)(hd:d.1≤1114111)(w:jC)(h:lZ B g m s w)(hk:s.Ok)(hp:s.place=1):
 jE Tryz.prog 207 (lI 36 g d) w (kQ B g m w (pN s d)):=by
 have QP:=ah (xB B g m s d hd w h hk)
 have hp':=ah hp
 obtain⟨nm,vl,place,runes,l⟩:=s
 obtain⟨k1,k2,k3,k4,k5⟩:=hk
 simp only at k1 k2 k3 k4 k5 hp
 have hr:=h
 obtain⟨hB,hBm,hm,lv,hb,ho⟩:=h
 simp only at hb ho
 have c0:=ce hb 0
 have c1:=ce hb 1
 have c2:=ce hb 2
 have c3:=ce hb 3
 have f0:=hb.frozen 0
 have f1:=hb.frozen 1
 have f2:=hb.frozen 2
 have f3:=hb.frozen 3
 have HR:=ah hr
 subst hp
 go_in
 go_wp2_with fail
 refine QP.mono ?_
 rintro e w1 h1
 obtain⟨v,hv⟩:∃v,e=.returned v:=by
  obtain⟨_,_,h3⟩:=h1;split at h3
  ·exact⟨_,h3.1⟩
  obtain⟨⟨t,ht⟩,_⟩:=h3;exact⟨_,ht⟩
 subst hv
 go_wp2
 go_ret
 exact h1
theorem RX(B g m:Nat)(s:RS)(d:Nat×Nat)(hd:d.1≤1114111)(w:jC)(h:lZ B g m s w)(hk:s.Ok)(hp:¬s.place=1)(he:tx s.nm=[]):
 jE Tryz.prog 207 (lI 36 g d) w (kQ B g m w none):=by
 obtain⟨nm,vl,place,runes,l⟩:=s
 obtain⟨k1,k2,k3,k4,k5⟩:=hk
 simp only at k1 k2 k3 k4 k5 hp he
 have hr:=h
 obtain⟨hB,hBm,hm,lv,hb,ho⟩:=h
 simp only at hb ho
 have c0:=ce hb 0
 have c1:=ce hb 1
 have c2:=ce hb 2
 have c3:=ce hb 3
 have f0:=hb.frozen 0
 have f1:=hb.frozen 1
 have f2:=hb.frozen 2
 have f3:=hb.frozen 3
 have HR:=ah hr
 have hp1:(place==1)=false:=VV
 have e1:(nm.toList==[])=true:=by rw[km,he];rfl
 have e2:nm.toList=[]:=by rw[km,he]
 go_in
 go_wp2
 go_ret
 exact kQ.err (Below.refl _ _) (Lib.OthersKept.refl _ _ _) HR
theorem RW(B g m:Nat)(s:RS)(d:Nat×Nat)(hd:d.1≤1114111)(w:jC)(h:lZ B g m s w)(hk:s.Ok)(hp:¬s.place=1)(he:¬tx s.nm=[]):
 jE Tryz.prog 207 (lI 36 g d) w (kQ B g m w (some {s with place:=1})):=by
 obtain⟨nm,vl,place,runes,l⟩:=s
 obtain⟨k1,k2,k3,k4,k5⟩:=hk
 simp only at k1 k2 k3 k4 k5 hp he
 have hr:=h
 obtain⟨hB,hBm,hm,lv,hb,ho⟩:=h
 simp only at hb ho
 have c0:=ce hb 0
 have c1:=ce hb 1
 have c2:=ce hb 2
 have c3:=ce hb 3
 have f0:=hb.frozen 0
 have f1:=hb.frozen 1
 have f2:=hb.frozen 2
 have f3:=hb.frozen 3
 have HR:=ah hr
 have hp1:(place==1)=false:=VV
 have e1':¬nm.toList=[]:=by rw[km];exact he
 have ae4:(nm.toList==[])=false:=by simpa using e1'
 have e1:nm.toList.isEmpty=false:=by rw[km];cases e:tx nm with
  |nil=>exact absurd e he
  |cons x l=>rfl
 go_in
 go_wp2
 go_ret
 have hf:=HR.fr (Below.refl _ _) (Lib.OthersKept.refl _ _ _) 2 (.int .i64 1)
 exact kQ.ok hf.1 hf.2 (HR.set rfl (fun lv=>rfl))
theorem KK(B g m:Nat)(s:RS)(d:Nat×Nat)(hd:d.1≤1114111)(w:jC)(h:lZ B g m s w)(hk:s.Ok):
 jE Tryz.prog 207 (lI 36 g d) w (kQ B g m w (uz s d)):=by
 unfold uz
 by_cases hp:s.place=1
 ·rw[if_pos hp];exact RY B g m s d hd w h hk hp
 rw[if_neg hp]
 by_cases he:tx s.nm=[]
 ·rw[if_pos he];exact RX B g m s d hd w h hk hp he
 rw[if_neg he];exact RW B g m s d hd w h hk hp he
theorem TK(B g m:Nat)(s:RS)(c:Int)(w:jC)(h:lZ B g m s w)(hk:s.Ok)(hp:s.place=0):
 jE Tryz.prog 209 #[jO g,.int .i32 c] w (kQ B g m w none):=by
 obtain⟨nm,vl,place,runes,l⟩:=s
 obtain⟨k1,k2,k3,k4,k5⟩:=hk
 simp only at k1 k2 k3 k4 k5 hp
 have hr:=h
 obtain⟨hB,hBm,hm,lv,hb,ho⟩:=h
 simp only at hb ho
 have c0:=ce hb 0
 have c1:=ce hb 1
 have c2:=ce hb 2
 have c3:=ce hb 3
 have f0:=hb.frozen 0
 have f1:=hb.frozen 1
 have f2:=hb.frozen 2
 have f3:=hb.frozen 3
 have HR:=ah hr
 subst hp
 go_in
 go_wp2
 go_ret
 exact kQ.err (Below.refl _ _) (Lib.OthersKept.refl _ _ _) HR
theorem TJ(B g m:Nat)(s:RS)(c:Int)(w:jC)(h:lZ B g m s w)(hk:s.Ok)(hp:¬s.place=0):
 jE Tryz.prog 209 #[jO g,.int .i32 c] w (kQ B g m w (some {s with place:=2})):=by
 obtain⟨nm,vl,place,runes,l⟩:=s
 obtain⟨k1,k2,k3,k4,k5⟩:=hk
 simp only at k1 k2 k3 k4 k5 hp
 have hr:=h
 obtain⟨hB,hBm,hm,lv,hb,ho⟩:=h
 simp only at hb ho
 have c0:=ce hb 0
 have c1:=ce hb 1
 have c2:=ce hb 2
 have c3:=ce hb 3
 have f0:=hb.frozen 0
 have f1:=hb.frozen 1
 have f2:=hb.frozen 2
 have f3:=hb.frozen 3
 have HR:=ah hr
 have hp1:(place==0)=false:=VV
 go_in
 go_wp2
 go_ret
 have hf:=HR.fr (Below.refl _ _) (Lib.OthersKept.refl _ _ _) 2 (.int .i64 2)
 exact kQ.ok hf.1 hf.2 (HR.set rfl (fun lv=>rfl))
theorem Nn(B g m:Nat)(s:RS)(c:Int)(w:jC)(h:lZ B g m s w)(hk:s.Ok):
 jE Tryz.prog 209 #[jO g,.int .i32 c] w (kQ B g m w (xv s)):=by
 unfold xv
 by_cases hp:s.place=0
 ·rw[if_pos hp];exact TK B g m s c w h hk hp
 rw[if_neg hp];exact TJ B g m s c w h hk hp
section
variable{P:bi3}{ops:Array bk0}{Q:bk7→Act→jC→Prop}{md:fD}{S:jC→Prop}{s:Nat}
end
def oC(s:RS):Option RS:=if s.place=1 then(if s.l.length<6 then some ⟨⟨#[]⟩,⟨#[]⟩,0,0,s.l++[(s.nm,s.vl)]⟩else none)else none
theorem ae3(B g m:Nat)(s:RS)(w:jC)(h:lZ B g m s w)(hk:s.Ok)(hp:¬s.place=1):
 jE Tryz.prog 176 #[jO g] w (kQ B g m w none):=by
 obtain⟨nm,vl,place,runes,l⟩:=s
 obtain⟨k1,k2,k3,k4,k5⟩:=hk
 simp only at k1 k2 k3 k4 k5 hp
 have hr:=h
 obtain⟨hB,hBm,hm,lv,hb,ho⟩:=h
 simp only at hb ho
 have c0:=ce hb 0
 have c1:=ce hb 1
 have c2:=ce hb 2
 have c3:=ce hb 3
 have f0:=hb.frozen 0
 have f1:=hb.frozen 1
 have f2:=hb.frozen 2
 have f3:=hb.frozen 3
 have HR:=ah hr
 have hp1:(place !=1)=true:=by simp[hp]
 have hp2:(place==1)=false:=VV
 go_in
 go_wp2
 go_ret
 exact kQ.err (Below.refl _ _) (Lib.OthersKept.refl _ _ _) HR
theorem ae2(B g m:Nat)(s:RS)(w:jC)(h:lZ B g m s w)(hk:s.Ok)(hp:s.place=1)(hl:¬s.l.length<6):
 jE Tryz.prog 176 #[jO g] w (kQ B g m w none):=by
 obtain⟨nm,vl,place,runes,l⟩:=s
 obtain⟨k1,k2,k3,k4,k5⟩:=hk
 simp only at k1 k2 k3 k4 k5 hp hl
 have hr:=h
 obtain⟨hB,hBm,hm,lv,hb,ho⟩:=h
 simp only at hb ho
 have c0:=ce hb 0
 have c1:=ce hb 1
 have c2:=ce hb 2
 have c3:=ce hb 3
 have f0:=hb.frozen 0
 have f1:=hb.frozen 1
 have f2:=hb.frozen 2
 have f3:=hb.frozen 3
 have HR:=ah hr
 obtain⟨A,cA,rfl⟩:=CR ho
 have c4:=hb.cell 4
 have f4:=hb.frozen 4
 have HO:=ah ho
 have OX:=ah hb
 have HM:=ah hm
 subst hp
 have hl1:((l.length:Int)==6)=true:=TQ
 have hl2:(l.length==6)=true:=TQ
 go_in
 go_wp2
 go_ret
 exact kQ.err (Below.refl _ _) (Lib.OthersKept.refl _ _ _) HR
theorem ae1(B g m:Nat)(s:RS)(w:jC)(h:lZ B g m s w)(hk:s.Ok)(hp:s.place=1)(hl:s.l.length<6):
 jE Tryz.prog 176 #[jO g] w (kQ B g m w (some ⟨⟨#[]⟩,⟨#[]⟩,0,0,s.l++[(s.nm,s.vl)]⟩)):=by
 obtain⟨nm,vl,place,runes,l⟩:=s
 obtain⟨k1,k2,k3,k4,k5⟩:=hk
 simp only at k1 k2 k3 k4 k5 hp hl
 have hr:=h
 obtain⟨hB,hBm,hm,lv,hb,ho⟩:=h
 simp only at hb ho
 have c0:=ce hb 0
 have c1:=ce hb 1
 have c2:=ce hb 2
 have c3:=ce hb 3
 have f0:=hb.frozen 0
 have f1:=hb.frozen 1
 have f2:=hb.frozen 2
 have f3:=hb.frozen 3
 have HR:=ah hr
 obtain⟨A,cA,rfl⟩:=CR ho
 have c4:w.cell? ⟨g,4,none⟩=some (.slice A l.length cA):=hb.cell 4
 have f4:=hb.frozen 4
 have HO:=ah ho
 have OX:=ah hb
 have HM:=ah hm
 clear hm ho hb hr
 subst hp
 have hl1:((l.length:Int)==6)=false:=by rw[beq_eq_false_iff_ne];omega
 have hl2:(l.length==6)=false:=by rw[beq_eq_false_iff_ne];omega
 obtain⟨i0,hi0,hz0,hz1,hz2⟩:=bi5 Tryz.Mc
 go_in
 go_wp2_with fail
 refine kG (S:=fun w'=>w'.cell? ⟨g,4,none⟩=some (.slice A l.length cA)∧w'.cell? ⟨g,0,none⟩=some (.string nm)∧w'.cell? ⟨g,1,none⟩=some (.string vl)) (s:=13) (by kernel_rfl) ?_
 refine sU ⟨c4,c0,c1⟩ ?_
 refine oY 9 fun K hK=>?_
 go_simp
 have hba:Below w w ((w.alloc (lI 61 nm vl)).drew):=below_drewN (jP (jQ w) (lI 61 nm vl)) 1
 have NB:Hid (jR ((w.alloc (lI 61 nm vl)).drew) w 71 #[jL nm,jL vl]):=(jR.new w 71 #[jL nm,jL vl]).drew
 have xe:Hid (((w.alloc (lI 61 nm vl)).drew).ownsRow B 71 2 (.slice A l.length cA) l.length (k_ l)):=(World.ownsRow.alloc HO _)
 have KO1:Hid (eh 71 (some g) w ((w.alloc (lI 61 nm vl)).drew)):=((Lib.OthersKept.refl _ _ w).alloc _).drew
 have BL1:Hid (Below B w ((w.alloc (lI 61 nm vl)).drew)):=hba.mono (by have:=OX.lt;omega)
 have DG:Hid (((w.alloc (lI 61 nm vl)).drew).heap[m]? =some (.map (u7 g) 3)):=(hba.block m (aw.1 HM).1).trans HM
 have IX:=ah (OX.later hba)
 clear hba OX HM HO HR c0 c1 c2 c3 c4 f0 f1 f2 f3 f4
 generalize(w.alloc (lI 61 nm vl)).drew=W2 at*
 have d0:=ce IX 0
 have d1:=ce IX 1
 have d4:=ce IX 4
 refine hK.out _ _ (fun _=>⟨d4,d0,d1⟩) ?_
 clear hK K
 refine az ?_
 refine oY 10 fun K hK=>?_
 refine tg rfl (.tmp 22) (.tmp 27) 72 rfl B 71 i0 (.agg #[aF,aF]) 2 32 Tryz.underlying72 hi0 hz0 hz1 hz2 rfl (by decide) (.slice A l.length cA) l.length _ rfl xe (w.heap.size+1) (aM w) 1 1 [jL nm,jL vl] rfl (by simp) (JJ (cs:=[jL nm,jL vl]) NB) (by intro u hu;simp at hu;rcases hu with rfl|rfl<;>rfl) (by unfold maxLen;omega) (by omega) (by have:=IX.lt;omega) ?_
 intro A3 c3 W3 hown3 hg3
 have hrow:=TV xe
 have hne:∀r,(eo A l.length cA).ownBlock=some r→r≠g:=fun r hr e=>by
  obtain⟨_,c,fz,hc⟩:=hrow r hr;subst e;rw[show W2.heap[r]? =_ from IX]at hc;injection hc with hc;injection hc with _ hc;exact absurd hc (by decide)
 have hnm:∀r,(eo A l.length cA).ownBlock=some r→r≠m:=fun r hr e=>by
  obtain⟨_,c,fz,hc⟩:=hrow r hr;subst e;rw[DG]at hc
  cases hc
 have yc:Hid (jR W3 g 324 #[jL nm,jL vl,jJ 1,jJ runes,jN A l cA,.map (some m)]):=IX.grown hg3 (fun e=>hne _ e.symm rfl)
 have Fk:Hid (W3.heap[m]? =some (.map (u7 g) 3)):=(hg3.block m (aw.1 DG).1 (fun e=>hnm _ e.symm rfl)).trans DG
 have KO3:Hid (eh 71 (some g) w W3):=KO1.grown hg3 (fun r hr=>(hrow r hr).2)
 have BL3:Hid (Below B w W3):=BL1.grown hg3 (by have:=IX.lt;omega) (fun r hr=>(hrow r hr).1)
 have w_:Hid (W3.ownsRow B 71 2 (.slice A3 (l.length+1) c3) (l.length+1) (k_ (l++[(nm,vl)]))):=by show gX _ _ _ _ _ _ _;rw[AW];exact hown3
 clear hown3 hg3 hrow hne hnm IX DG KO1 BL1 xe NB d0 d1 d4
 have d0:=ce yc 0
 have d1:=ce yc 1
 have d4:=ce yc 4
 refine hK.out _ _ (fun _=>⟨d4,d0,d1⟩) ?_
 clear hK K
 refine az ?_
 refine oY 11 fun K hK=>?_
 go_simp
 refine hK.out _ _ (fun _=>⟨d4,d0,d1⟩) ?_
 clear hK K
 refine az ?_
 refine sU ⟨d4,d0,d1⟩ ?_
 have f0:=yc.frozen 0
 have f1:=yc.frozen 1
 have f2:=yc.frozen 2
 have f3:=yc.frozen 3
 have f4:=yc.frozen 4
 refine oY 13 fun K hK=>?_
 go_simp
 refine hK.out _ _ (fun h=>by cases h) ?_
 clear hK K
 refine az ?_
 refine yi ?_
 have d2:=ce yc 2
 have d3:=ce yc 3
 go_wp2_with fail
 go_ret
 have hs4:lZ B g m ⟨nm,vl,1,runes,l++[(nm,vl)]⟩ (W3.setCell ⟨g,4,none⟩ (.slice A3 (l.length+1) c3)):=by
  refine⟨hB,hBm,(Below.heap_setCell W3 ⟨g,4,none⟩ _ m (Qs Fk yc)).trans Fk,.slice A3 (l.length+1) c3,yc.kY 4 _,?_⟩;have:=LT (o:=4) (u:=.slice A3 (l.length+1) c3) w_ yc;simpa using this
 have b4:Below B w (W3.setCell ⟨g,4,none⟩ (.slice A3 (l.length+1) c3)):=BL3.setCell hB _
 have k4':eh 71 (some g) w (W3.setCell ⟨g,4,none⟩ (.slice A3 (l.length+1) c3)):=KO3.setCell _ rfl _
 have r0:lZ B g m ⟨⟨#[]⟩,vl,1,runes,l++[(nm,vl)]⟩ _:=hs4.set (i:=0) (u:=aF) rfl (fun lv=>rfl)
 have q0:=hs4.fr b4 k4' 0 (aF)
 have r1:lZ B g m ⟨⟨#[]⟩,⟨#[]⟩,1,runes,l++[(nm,vl)]⟩ _:=r0.set (i:=1) (u:=aF) rfl (fun lv=>rfl)
 have q1:=r0.fr q0.1 q0.2 1 (aF)
 have r2:lZ B g m ⟨⟨#[]⟩,⟨#[]⟩,0,runes,l++[(nm,vl)]⟩ _:=r1.set (i:=2) (u:=.int .i64 0) rfl (fun lv=>rfl)
 have q2:=r1.fr q1.1 q1.2 2 (.int .i64 0)
 have r3:lZ B g m ⟨⟨#[]⟩,⟨#[]⟩,0,0,l++[(nm,vl)]⟩ _:=r2.set (i:=3) (u:=.int .i64 0) rfl (fun lv=>rfl)
 have q3:=r2.fr q2.1 q2.2 3 (.int .i64 0)
 exact kQ.ok q3.1 q3.2 r3
theorem Mq(B g m:Nat)(s:RS)(w:jC)(h:lZ B g m s w)(hk:s.Ok):
 jE Tryz.prog 176 #[jO g] w (kQ B g m w (oC s)):=by
 unfold oC
 by_cases hp:s.place=1
 ·rw[if_pos hp];by_cases hl:s.l.length<6
  ·rw[if_pos hl];exact ae1 B g m s w h hk hp hl
  rw[if_neg hl];exact ae2 B g m s w h hk hp hl
 rw[if_neg hp];exact ae3 B g m s w h hk hp
theorem kQ.form(h1:kQ B g m w r e w'):∃v,e=.returned v:=by
 obtain⟨_,_,h3⟩:=h1;split at h3
 ·exact⟨_,h3.1⟩
 obtain⟨⟨t,ht⟩,_⟩:=h3;exact⟨_,ht⟩
theorem OB(B g m:Nat)(s:RS)(c:Int)(w:jC)(h:lZ B g m s w)(hk:s.Ok):
 jE Tryz.prog 208 #[jO g,.int .i32 c] w (kQ B g m w (oC s)):=by
 have Q:=ah (Mq B g m s w h hk)
 go_in
 go_wp2_with fail
 refine Q.mono ?_
 rintro e w1 h1
 obtain⟨v,rfl⟩:=h1.form
 go_wp2
 go_ret
 exact h1
def qk(s:RS)(d:Nat×Nat):Option RS:=
 if s.place=2 then pN {s with place:=1} d
 else if d.1=61 then uz s d else if d.1=44 then oC s else if d.1=92 then xv s else pN s d
variable{d:Nat×Nat}
theorem KE(hc:¬d.1=61∧¬d.1=44∧¬d.1=92):eI (.int .i32) (.int .i32 (d.1:Int)) (u7 g).toList 0=some none:=by
 have e1:((d.1:Int)==61)=false:=O1;have e2:((d.1:Int)==44)=false:=O1;have e3:((d.1:Int)==92)=false:=O1;simp only[u7,eI,Instr.sameNow,if_true,e1,e2,e3]
theorem WO(B g m:Nat)(s:RS)(d:Nat×Nat)(hd:d.1≤1114111)(w:jC)(h:lZ B g m s w)(hk:s.Ok)(hp:s.place=2):
 jE Tryz.prog 175 (lI 36 g d) w (kQ B g m w (pN {s with place:=1} d)):=by
 obtain⟨nm,vl,place,runes,l⟩:=s
 obtain⟨k1,k2,k3,k4,k5⟩:=hk
 simp only at k1 k2 k3 k4 k5 hp
 have hr:=h
 obtain⟨hB,hBm,hm,lv,hb,ho⟩:=h
 simp only at hb ho
 have c0:=ce hb 0
 have c1:=ce hb 1
 have c2:=ce hb 2
 have c3:=ce hb 3
 have f0:=hb.frozen 0
 have f1:=hb.frozen 1
 have f2:=hb.frozen 2
 have f3:=hb.frozen 3
 have HR:=ah hr
 have c5:=hb.cell 5
 have HM:=ah hm
 clear hm ho hb hr
 subst hp
 have hr2:lZ B g m ⟨nm,vl,1,runes,l⟩ (w.setCell ⟨g,2,none⟩ (.int .i64 1)):=HR.set (i:=2) (u:=.int .i64 1) rfl (fun lv=>rfl)
 have hf:=ah (HR.fr (Below.refl _ _) (Lib.OthersKept.refl _ _ _) 2 (.int .i64 1))
 have Q:=ah (xB B g m ⟨nm,vl,1,runes,l⟩ d hd _ hr2 ⟨k1,k2,k3,k4,k5⟩)
 go_in
 go_wp2_with fail
 refine Q.mono ?_
 rintro e w1 h1
 obtain⟨v,rfl⟩:=h1.form
 go_wp2
 go_ret
 exact h1.chain hf.out.1 hf.out.2
theorem PA(B g m:Nat)(s:RS)(d:Nat×Nat)(hd:d.1≤1114111)(w:jC)(h:lZ B g m s w)(hk:s.Ok)(hp:¬s.place=2)(hc:d.1=61):
 jE Tryz.prog 175 (lI 36 g d) w (kQ B g m w (uz s d)):=by
 obtain⟨nm,vl,place,runes,l⟩:=s
 obtain⟨k1,k2,k3,k4,k5⟩:=hk
 simp only at k1 k2 k3 k4 k5 hp
 have hr:=h
 obtain⟨hB,hBm,hm,lv,hb,ho⟩:=h
 simp only at hb ho
 have c0:=ce hb 0
 have c1:=ce hb 1
 have c2:=ce hb 2
 have c3:=ce hb 3
 have f0:=hb.frozen 0
 have f1:=hb.frozen 1
 have f2:=hb.frozen 2
 have f3:=hb.frozen 3
 have HR:=ah hr
 have c5:w.cell? ⟨g,5,none⟩=some (.map (some m)):=hb.cell 5
 have HM:=ah hm
 clear hm ho hb hr
 have hp1:(place==2)=false:=by rw[beq_eq_false_iff_ne];exact hp
 have hlk:(eU 322 (.map (some m)) (.int .i32 (d.1:Int)) true).run Tryz.prog w=.ok (.tuple #[.func (.func 207) #[jO g] #[],.bool true]) w:=xI (es:=u7 g) HM Tryz.underlying322 Tryz.underlying21 (i:=0) (by rw[hc];rfl)
 have Q:=ah (KK B g m ⟨nm,vl,place,runes,l⟩ d hd w HR ⟨k1,k2,k3,k4,k5⟩)
 clear hc
 go_in
 go_wp2_with fail
 refine Q.mono ?_
 rintro e w1 h1
 obtain⟨v,rfl⟩:=h1.form
 go_wp2
 go_ret
 exact h1
theorem PB(B g m:Nat)(s:RS)(d:Nat×Nat)(hd:d.1≤1114111)(w:jC)(h:lZ B g m s w)(hk:s.Ok)(hp:¬s.place=2)(hc:d.1=44):
 jE Tryz.prog 175 (lI 36 g d) w (kQ B g m w (oC s)):=by
 obtain⟨nm,vl,place,runes,l⟩:=s
 obtain⟨k1,k2,k3,k4,k5⟩:=hk
 simp only at k1 k2 k3 k4 k5 hp
 have hr:=h
 obtain⟨hB,hBm,hm,lv,hb,ho⟩:=h
 simp only at hb ho
 have c0:=ce hb 0
 have c1:=ce hb 1
 have c2:=ce hb 2
 have c3:=ce hb 3
 have f0:=hb.frozen 0
 have f1:=hb.frozen 1
 have f2:=hb.frozen 2
 have f3:=hb.frozen 3
 have HR:=ah hr
 have c5:w.cell? ⟨g,5,none⟩=some (.map (some m)):=hb.cell 5
 have HM:=ah hm
 clear hm ho hb hr
 have hp1:(place==2)=false:=by rw[beq_eq_false_iff_ne];exact hp
 have hlk:(eU 322 (.map (some m)) (.int .i32 (d.1:Int)) true).run Tryz.prog w=.ok (.tuple #[.func (.func 208) #[jO g] #[],.bool true]) w:=xI (es:=u7 g) HM Tryz.underlying322 Tryz.underlying21 (i:=1) (by rw[hc];rfl)
 have Q:=ah (OB B g m ⟨nm,vl,place,runes,l⟩ (d.1:Int) w HR ⟨k1,k2,k3,k4,k5⟩)
 clear hc
 go_in
 go_wp2_with fail
 refine Q.mono ?_
 rintro e w1 h1
 obtain⟨v,rfl⟩:=h1.form
 go_wp2
 go_ret
 exact h1
theorem Pz(B g m:Nat)(s:RS)(d:Nat×Nat)(hd:d.1≤1114111)(w:jC)(h:lZ B g m s w)(hk:s.Ok)(hp:¬s.place=2)(hc:d.1=92):
 jE Tryz.prog 175 (lI 36 g d) w (kQ B g m w (xv s)):=by
 obtain⟨nm,vl,place,runes,l⟩:=s
 obtain⟨k1,k2,k3,k4,k5⟩:=hk
 simp only at k1 k2 k3 k4 k5 hp
 have hr:=h
 obtain⟨hB,hBm,hm,lv,hb,ho⟩:=h
 simp only at hb ho
 have c0:=ce hb 0
 have c1:=ce hb 1
 have c2:=ce hb 2
 have c3:=ce hb 3
 have f0:=hb.frozen 0
 have f1:=hb.frozen 1
 have f2:=hb.frozen 2
 have f3:=hb.frozen 3
 have HR:=ah hr
 have c5:w.cell? ⟨g,5,none⟩=some (.map (some m)):=hb.cell 5
 have HM:=ah hm
 clear hm ho hb hr
 have hp1:(place==2)=false:=by rw[beq_eq_false_iff_ne];exact hp
 have hlk:(eU 322 (.map (some m)) (.int .i32 (d.1:Int)) true).run Tryz.prog w=.ok (.tuple #[.func (.func 209) #[jO g] #[],.bool true]) w:=xI (es:=u7 g) HM Tryz.underlying322 Tryz.underlying21 (i:=2) (by rw[hc];rfl)
 have Q:=ah (Nn B g m ⟨nm,vl,place,runes,l⟩ (d.1:Int) w HR ⟨k1,k2,k3,k4,k5⟩)
 clear hc
 go_in
 go_wp2_with fail
 refine Q.mono ?_
 rintro e w1 h1
 obtain⟨v,rfl⟩:=h1.form
 go_wp2
 go_ret
 exact h1
theorem WN(B g m:Nat)(s:RS)(d:Nat×Nat)(hd:d.1≤1114111)(w:jC)(h:lZ B g m s w)(hk:s.Ok)(hp:¬s.place=2)(hc:¬d.1=61∧¬d.1=44∧¬d.1=92):
 jE Tryz.prog 175 (lI 36 g d) w (kQ B g m w (pN s d)):=by
 obtain⟨nm,vl,place,runes,l⟩:=s
 obtain⟨k1,k2,k3,k4,k5⟩:=hk
 simp only at k1 k2 k3 k4 k5 hp
 have hr:=h
 obtain⟨hB,hBm,hm,lv,hb,ho⟩:=h
 simp only at hb ho
 have c0:=ce hb 0
 have c1:=ce hb 1
 have c2:=ce hb 2
 have c3:=ce hb 3
 have f0:=hb.frozen 0
 have f1:=hb.frozen 1
 have f2:=hb.frozen 2
 have f3:=hb.frozen 3
 have HR:=ah hr
 have c5:=hb.cell 5
 have HM:=ah hm
 have hp1:(place==2)=false:=VV
 have hlk:=Av (es:=u7 g) HM Tryz.underlying322 Tryz.underlying21 (KE hc) (by rfl)
 have Q:=ah (xB B g m ⟨nm,vl,place,runes,l⟩ d hd w HR ⟨k1,k2,k3,k4,k5⟩)
 go_in
 go_wp2_with fail
 refine Q.mono ?_
 rintro e w1 h1
 obtain⟨v,rfl⟩:=h1.form
 go_wp2
 go_ret
 exact h1
theorem PC(B g m:Nat)(s:RS)(d:Nat×Nat)(hd:d.1≤1114111)(w:jC)(h:lZ B g m s w)(hk:s.Ok):
 jE Tryz.prog 175 (lI 36 g d) w (kQ B g m w (qk s d)):=by
 unfold qk
 by_cases hp:s.place=2
 ·rw[if_pos hp];exact WO B g m s d hd w h hk hp
 rw[if_neg hp]
 by_cases c1:d.1=61
 ·rw[if_pos c1];exact PA B g m s d hd w h hk hp c1
 rw[if_neg c1]
 by_cases c2:d.1=44
 ·rw[if_pos c2];exact PB B g m s d hd w h hk hp c2
 rw[if_neg c2]
 by_cases c3:d.1=92
 ·rw[if_pos c3];exact Pz B g m s d hd w h hk hp c3
 rw[if_neg c3];exact WN B g m s d hd w h hk hp ⟨c1,c2,c3⟩
def wO(a b:List UInt8):Int:=if lsB a b=true then -1 else if a=b then 0 else 1
theorem qg(a:ByteArray)(w:jC):jE Tryz.prog 179 #[jL a] w fun e w'=>e=.returned (.bool false)∧w=w':=by
 have e1:(a.toList==a.toList)=true:=lV;go_in;go_wp2;go_ret;exact⟨rfl,rfl⟩
theorem If(a b:ByteArray)(w:jC):jE Tryz.prog 133 #[jL a,jL b] w fun e w'=>e=.returned (.int .i64 (wO (tx a) (tx b)))∧w=w':=by
 cases h:lsB (tx a) (tx b)with
 |true=>
  have hl:dW a.toList b.toList=true:=by rw[km,km];exact h
  have HE:Hid (wO (tx a) (tx b)= -1):=by show _=_;rw[wO,if_pos h]
  go_in;go_wp2_with fail;refine(qg a _).mono ?_;rintro e w'⟨rfl,rfl⟩;go_wp2_with fail;refine(qg b _).mono ?_;rintro e w'⟨rfl,rfl⟩;go_wp2;go_ret;exact⟨by rw[HE];rfl,rfl⟩
 |false=>
  have hl:dW a.toList b.toList=false:=by rw[km,km];exact h
  by_cases e:tx a=tx b
  ·have he:(a.toList==b.toList)=true:=by rw[km,km,e];simp
   have HE:Hid (wO (tx a) (tx b)=0):=by show _=_;rw[wO,if_neg (by rw[h];simp),if_pos e]
   go_in;go_wp2_with fail;refine(qg a _).mono ?_;rintro e w'⟨rfl,rfl⟩;go_wp2_with fail;refine(qg b _).mono ?_;rintro e w'⟨rfl,rfl⟩;go_wp2;go_ret;exact⟨by rw[HE];rfl,rfl⟩
  have he:(a.toList==b.toList)=false:=by rw[km,km];simpa using e
  have HE:Hid (wO (tx a) (tx b)=1):=by show _=_;rw[wO,if_neg (by rw[h];simp),if_neg e]
  go_in;go_wp2_with fail;refine(qg a _).mono ?_;rintro e w'⟨rfl,rfl⟩;go_wp2_with fail;refine(qg b _).mono ?_;rintro e w'⟨rfl,rfl⟩;go_wp2;go_ret;exact⟨by rw[HE];rfl,rfl⟩
theorem Se(x y:kI)(w:jC):jE Tryz.prog 132 #[.agg #[jL x.1,jL x.2],.agg #[jL y.1,jL y.2]] w fun e w'=>e=.returned (.int .i64 (wO (tx x.1) (tx y.1)))∧Below w w w':=by
 have T:Below w w ((w.alloc (.cells #[jL x.1,jL x.2] 71)).alloc (.cells #[jL y.1,jL y.2] 71)):=jP (jP (jQ _) _) _;have Q:=ah (fun w=>If x.1 y.1 w);generalize wO (tx x.1) (tx y.1)=c at*
 go_in;go_wp2_with fail;refine(Q _).mono ?_;rintro e w'⟨rfl,rfl⟩;go_wp2;go_ret;exact⟨rfl,T⟩
theorem UQ(a b:List UInt8):decide (wO a b<0)=lsB a b:=by
 unfold wO
 cases h:lsB a b with
 |true=>rfl
 |false=>rw[if_neg lV];split<;>rfl
def SortI(B r cap:Nat)(l:List kI)(w:jC)(cur:List kI)(wr:jC):Prop:=
 cur.Perm l∧wr.ownsRow B 71 2 (.slice (aC r) cur.length cap) cur.length (k_ cur)∧Below B w wr
theorem SortI.cell{B r cap:Nat}{l:List kI}{w:jC}{cur:List kI}{wr:jC}(h:SortI B r cap l w cur wr){j:Nat}(hj:j<cur.length):wr.cell? ⟨r,j*2,none⟩=some (.string (k7 cur j).1)∧wr.cell? ⟨r,j*2+1,none⟩=some (.string (k7 cur j).2):=by
 obtain⟨h1,h2⟩:=AY cur j hj;exact⟨(h.2.1.cellAt (j*2) jS).trans h1,(h.2.1.cellAt (j*2+1) jS).trans h2⟩
theorem SortI.lt{B r cap:Nat}{l:List kI}{w:jC}{cur:List kI}{wr:jC}(h:SortI B r cap l w cur wr):r<wr.heap.size∧B≤r:=by
 have:=h.2.1.lt r rfl;exact⟨this.2,this.1⟩
variable{l cur:List kI}
theorem SortI.later{r cap:Nat}{wr:jC}(h:SortI B r cap l w cur wr)(hb:Below wr wr w'):SortI B r cap l w cur w':=by
 refine⟨h.1,h.2.1.kept (row:=none) ⟨hb.os,hb.tape,hb.output,hb.size,fun i hi _=>hb.block i hi⟩ (.inr (by simp[gy])),h.2.2.trans (hb.mono (by have:=h.lt;omega))⟩
theorem SortI.swap{r cap:Nat}{wr:jC}(h:SortI B r cap l w cur wr){j:Nat}(h0:0<j)(hj:j<cur.length):
 SortI B r cap l w (sN cur j) ((((wr.setCell ⟨r,j*2,none⟩ (.string (k7 cur (j-1)).1)).setCell ⟨r,j*2+1,none⟩ (.string (k7 cur (j-1)).2)).setCell ⟨r,(j-1)*2,none⟩ (.string (k7 cur j).1)).setCell ⟨r,(j-1)*2+1,none⟩ (.string (k7 cur j).2)):=by
 have hB:=h.lt.2
 refine⟨(Np h0 hj).trans h.1,?_,(((h.2.2.setCell hB _).setCell hB _).setCell hB _).setCell hB _⟩
 have:=((((h.2.1.stored (j*2) (.string (k7 cur (j-1)).1)).1.stored (j*2+1) (.string (k7 cur (j-1)).2)).1.stored ((j-1)*2) (.string (k7 cur j).1)).1.stored ((j-1)*2+1) (.string (k7 cur j).2)).1
 rw[Dn,Dn]at this
 rw[Cz]
 exact this
def zD(B r cap:Nat)(l:List kI)(w w':jC):Prop:=∃cur,SortI B r cap l w cur w'∧S_ cur cur.length
theorem GV(B r cap:Nat)(l:List kI)(hl:l.length≤12)(w:jC)(h0:SortI B r cap l w l w):
 jE Tryz.prog 211 #[.slice (aC r) l.length cap,jJ 0,jJ l.length,.func (.func 132) #[] #[]] w fun e w'=>(∃v,e=.returned v)∧zD B r cap l w w':=by
 have H0:=ah h0
 go_in
 go_wp2_with fail
 go_loopw[8] (fun i wr=>∃(k:Nat)(cur:List kI),i=.int .i64 ((k:Int)+1)∧k≤l.length∧Hid (S_ cur (k+1))∧Hid (SortI B r cap l w cur wr)) (fun i _=>l.length+1-(av i).toNat)
 case atStart=>exact⟨0,l,by simp,be _,(fun a b h1 h2=>by omega),H0⟩
 obtain⟨k,cur,rfl,hk,HS,HI⟩:=hrel
 have hcl:=HI.1.length_eq
 by_cases hlt:k+1<l.length
 ·have dlt:decide ((k:Int)+1<(l.length:Int))=true:=by simp;omega
  have HM:=ah (Mid.start HS (by omega));have Lv:=ah hcl;clear hcl HS;go_wp2_with fail;obtain⟨wo,rfl⟩:∃wo:jC,wo=wr:=⟨_,rfl⟩;go_loopw[9] (fun j wr=>∃(q:Nat)(cu:List kI),j=(aJ q)∧q≤k+1∧Hid (Mid cu (k+1) q)∧Hid (SortI B r cap l w cu wr)) (fun j _=>(av j).toNat)
  case atStart=>exact⟨k+1,cur,by simp,ay _,HM,HI⟩
  clear HM HI;obtain⟨q,cu,rfl,hq,HM,HI⟩:=hrel;have hcl:=HI.1.length_eq;rcases q with _|p
  ·have Bz:Hid (S_ cu (k+1+1)):=HM.done (.inl rfl);clear HM Lv hcl;simp only[Int.natCast_zero];go_wp2_with fail;go_quiet(fail);go_wp2_with fail;go_roundw
   case rel=>exact⟨k+1,cu,by simp,by omega,Bz,HI.later (below_drewN (jQ _) _)⟩
   simp[av];omega
  have hp1:p+1<cu.length:=by omega
  obtain⟨c1,c2⟩:=HI.cell hp1;obtain⟨c3,c4⟩:=HI.cell (show p<cu.length by omega);obtain⟨GZ,hBr⟩:=HI.lt;rw[show((p+1:Nat):Int)=(p:Int)+1 from by omega];have F1:=After.cell c1 GZ;have F2:=After.cell c2 GZ;have F3:=After.cell c3 GZ;have F4:=After.cell c4 GZ;haveI:=After.some wr;have C1:Hid (∀y:After wr,jE Tryz.prog 132 #[.agg #[jL (k7 cu (p+1)).1,jL (k7 cu (p+1)).2],.agg #[jL (k7 cu p).1,jL (k7 cu p).2]] y.at_ fun e w'=>e=.returned (.int .i64 (wO (tx (k7 cu (p+1)).1) (tx (k7 cu p).1)))∧Below y.at_.heap.size y.at_ w'):=fun y=>Se (k7 cu (p+1)) (k7 cu p) y.at_;have Fl:Hid (decide (wO (tx (k7 cu (p+1)).1) (tx (k7 cu p).1)<0)=ahead (k7 cu (p+1)) (k7 cu p)):=UQ _ _;have hi1:(0:Int)≤p:=by omega
  have hi2:(p:Int)+1<(l.length:Int):=by omega
  have hi5:(0:Int)≤p+1:=by omega
  have hi3:(p:Int)<l.length:=by omega
  have hi4:decide ((0:Int)<p+1)=true:=ae;have bc9:=ah hcl;have Vm:Hid (ahead (k7 cu (p+1)) (k7 cu p)=true→Mid (sN cu (p+1)) (k+1) p):=fun h=>HM.swap (by omega) h;have HDN:Hid (ahead (k7 cu (p+1)) (k7 cu p)=false→S_ cu (k+1+1)):=fun h=>HM.done (.inr h);have HSI:Hid (∀w9,Below wr wr w9→SortI B r cap l w (sN cu (p+1)) ((((w9.setCell ⟨r,(p+1)*2,none⟩ (.string (k7 cu p).1)).setCell ⟨r,(p+1)*2+1,none⟩ (.string (k7 cu p).2)).setCell ⟨r,p*2,none⟩ (.string (k7 cu (p+1)).1)).setCell ⟨r,p*2+1,none⟩ (.string (k7 cu (p+1)).2))):=fun w9 h=>(HI.later h).swap (by omega) hp1;have Zw:Hid (∀w9,Below wr wr w9→∀o,w9.frozen? ⟨r,o,none⟩=false):=fun w9 h o=>(HI.later h).2.1.frozenAt o;generalize k7 cu (p+1)=x at*
  generalize k7 cu p=y at*
  generalize wO (tx x.1) (tx y.1)=c at*
  clear hcl Lv HM
  cases hc:ahead x y with
  |true=>
   rw[hc]at Fl;have hlt0:decide (c<0)=true:=Fl;have aA7:=ah (Vm hc);clear hc Vm HDN;go_wp2_with fail;refine rgb ?_;repeat(go_big_quiet_step (with_reducible exact na (C1.out _)))
   refine bl0 ?_;rintro w9⟨⟨w8,nu⟩,h9⟩;obtain rfl:w9=w8:=h9;have d1:=(nu.cell (p:=⟨r,(p+1)*2,none⟩) GZ).trans c1;have d2:=(nu.cell (p:=⟨r,(p+1)*2+1,none⟩) GZ).trans c2;have d3:=(nu.cell (p:=⟨r,p*2,none⟩) GZ).trans c3;have d4:=(nu.cell (p:=⟨r,p*2+1,none⟩) GZ).trans c4;have f1:=Zw w9 nu ((p+1)*2);have f2:=Zw w9 nu ((p+1)*2+1);have f3:=Zw w9 nu (p*2);have f4:=Zw w9 nu (p*2+1);have HS9:=ah (HSI w9 nu);have hr9:r<w9.heap.size:=by have:=nu.size;omega
   clear HSI Zw C1 F1 F2 F3 F4 c1 c2 c3 c4 nu HI;go_wp2_with fail;refine kG (S:=fun w'=>w'.cell? ⟨r,(p+1)*2,none⟩=some (.string x.1)∧w'.cell? ⟨r,(p+1)*2+1,none⟩=some (.string x.2)∧w'.cell? ⟨r,p*2,none⟩=some (.string y.1)∧w'.cell? ⟨r,p*2+1,none⟩=some (.string y.2)) (s:=15) (by kernel_rfl) ?_;have hwr:IntKind.i64.wrap ((p:Int)+1-1)=(p:Int):=(dv _ (by omega)).trans (by omega);have hw2:IntKind.i64.wrap (p:Int)=(p:Int):=dv _ (by omega);refine sU ⟨d1,d2,d3,d4⟩ ?_;refine oY 15 fun K hK=>?_;go_simp;refine hK.out _ _ (fun h=>by cases h) ?_;refine az ?_;refine oY 16 fun K hK=>?_;go_simp;refine hK.out _ _ (fun h=>qch) ?_;refine az ?_;refine oY 17 fun K hK=>?_;go_simp;refine hK.out _ _ (fun h=>by cases h) ?_;clear hK K;refine az ?_;refine yi ?_;go_wp2_with fail;go_roundw
   case rel=>exact⟨p,sN cu (p+1),rfl,by omega,aA7,HS9.later (below_drewN (jQ _) 1)⟩
   simp[av]<;>omega
  |false=>
   rw[hc]at Fl;have hlt0:decide (c<0)=false:=Fl;have Bz:=ah (HDN hc);clear hc Vm HDN HSI Zw;go_wp2_with fail;refine rgb ?_;repeat(go_big_quiet_step (with_reducible exact na (C1.out _)))
   refine bl0 ?_;rintro w9⟨⟨w8,nu⟩,h9⟩;obtain rfl:w9=w8:=h9;have HI9:=ah (HI.later nu);clear C1 F1 F2 F3 F4 c1 c2 c3 c4 nu HI;go_wp2_with fail;go_roundw
   case rel=>exact⟨k+1,cu,by simp,by omega,Bz,HI9⟩
   exact No
 have dlt:decide ((k:Int)+1<(l.length:Int))=false:=mO
 have Bz:Hid (S_ cur cur.length):=fun a b h1 h2=>HS a b h1 jS
 go_wp2
 go_end0
 exact⟨⟨_,rfl⟩,cur,HI,Bz⟩
theorem TT(B r cap:Nat)(l:List kI)(hl:l.length≤12)(q:Int)(w:jC)(h0:SortI B r cap l w l w):
 jE Tryz.prog 177 #[.slice (aC r) l.length cap,jJ 0,jJ l.length,jJ q,.func (.func 132) #[] #[]] w fun e w'=>(∃v,e=.returned v)∧zD B r cap l w w':=by
 have Q:=ah (GV B r cap l hl w h0)
 have d12:decide ((l.length:Int)≤12)=true:=ae
 go_in
 go_wp2_with fail
 refine bj8 1 ?_
 rw[bi9]
 go_wp2_with fail
 refine Q.mono ?_
 rintro e w1⟨⟨v,rfl⟩,h1⟩
 go_wp2
 refine jF (bj7 rfl _ _ _) rfl ?_
 exact⟨⟨_,rfl⟩,h1⟩
theorem DR(B r cap:Nat)(l:List kI)(hl:l.length≤12)(w:jC)(h0:SortI B r cap l w l w):
 jE Tryz.prog 131 #[.slice (aC r) l.length cap,.func (.func 132) #[] #[]] w fun e w'=>(∃v,e=.returned v)∧zD B r cap l w w':=by
 have Q:Hid (∀q,jE Tryz.prog 177 #[.slice (aC r) l.length cap,jJ 0,jJ l.length,jJ q,.func (.func 132) #[] #[]] w fun e w'=>(∃v,e=.returned v)∧zD B r cap l w w'):=fun q=>TT B r cap l hl q w h0
 have hn:(l.length:Int)≤12:=jS
 generalize l.length=n at*
 go_in
 go_wp2_with fail
 refine(Tryz.bits_Len _ _ jS jS).mono ?_
 rintro e w1⟨rfl,rfl⟩
 go_wp2_with fail
 refine(Q _).mono ?_
 rintro e w1⟨⟨v,rfl⟩,h1⟩
 go_wp2
 go_end0
 exact⟨⟨_,rfl⟩,h1⟩
def sX:RS→List (Nat×Nat)→Option RS
 |s,[]=>some s
 |s,d::l=>(qk s d).bind fun s'=>sX s' l
theorem tt:∀(l m:List (Nat×Nat))(s:RS),sX s (l++m)=(sX s l).bind fun s'=>sX s' m
 |[],_,_=>rfl
 |d::l,m,s=>by
  rw[dj,sX,sX]
  cases qk s d with
  |none=>rfl
  |some s'=>exact tt l m s'
theorem CG(l:List (Nat×Nat))(d:Nat×Nat)(s:RS):sX s (l++[d])=(sX s l).bind fun s'=>qk s' d:=by
 rw[tt]
 cases sX s l with
 |none=>rfl
 |some s'=>show sX s' [d]=qk s' d;rw[sX];cases qk s' d<;>rfl
def pE(t:List UInt8):Option (List kI):=if oJ t=true then((sX RS.zero (cp t)).bind oC).map (·.l)else none
theorem UF(d:Nat×Nat):(encR d).size≤4:=encode_size_le _
theorem Ot(h:lD d=true):(encR d).size=1:=by
 simp[lD]at h;unfold encR Utf8.encode;have h1:Utf8.valid (d.1:Int)=true:=by simp[Utf8.valid];omega
 have h2:(d.1:Int).toNat<128:=jS;simp only[h1,if_true,h2];rfl
theorem xC(h:s.Ok)(e:pN s d=some s'):s'.Ok:=by
 obtain⟨k1,k2,k3,k4,k5⟩:=h;unfold pN at e;split at e
 ·split at e
  ·rename_i hc
   cases e
   have:=Ot hc.1;exact⟨by show(s.nm++encR d).size≤12;rw[fc];omega,k2,k3,k4,k5⟩
  cases e
 split at e
 ·rename_i hc
  cases e
  have:=UF d;exact⟨k1,by show((s.vl++encR d).size:Int)≤4*(s.runes+1);rw[fc];omega,by show 0≤s.runes+1;omega,by show s.runes+1≤24;omega,k5⟩
 cases e
theorem Mr(h:s.Ok)(e:oC s=some s'):s'.Ok:=by
 obtain⟨k1,k2,k3,k4,k5⟩:=h;unfold oC at e;split at e
 ·split at e
  ·cases e
   exact⟨by show(0:Nat)≤12;omega,by show((0:Nat):Int)≤4*0;omega,Int.le_refl _,by show(0:Int)≤24;omega,by show(s.l++[(s.nm,s.vl)]).length≤6;rw[cd];simp;omega⟩
  cases e
 cases e
theorem FK(h:s.Ok)(e:qk s d=some s'):s'.Ok:=by
 unfold qk at e;split at e
 ·exact xC (s:={s with place:=1}) ⟨h.nm,h.vl,h.r0,h.r24,h.l⟩ e
 split at e
 ·unfold uz at e;split at e
  ·exact xC h e
  split at e
  ·cases e
  cases e;exact⟨h.nm,h.vl,h.r0,h.r24,h.l⟩
 split at e
 ·exact Mr h e
 split at e
 ·unfold xv at e;split at e
  ·cases e
  cases e;exact⟨h.nm,h.vl,h.r0,h.r24,h.l⟩
 exact xC h e
theorem LB:RS.zero.Ok:=⟨by show(0:Nat)≤12;omega,by show((0:Nat):Int)≤4*0;omega,Int.le_refl _,by show(0:Int)≤24;omega,by show(0:Nat)≤6;omega⟩
theorem Qi{B':Nat}(h:w.ownsRow B 71 2 v n xs)(hB:B'≤B):w.ownsRow B' 71 2 v n xs:=by
 obtain⟨h1,h2|⟨g,cap,cur,e1,e2,e3⟩⟩:=h
 ·exact⟨h1,.inl h2⟩
 exact⟨h1,.inr ⟨g,cap,cur,e1,a_ hB e2,e3⟩⟩
theorem lZ.later{B g m:Nat}{s:RS}{w w':jC}(h:lZ B g m s w)(hb:Below w w w'):lZ B g m s w':=by
 obtain⟨h1,h2,h3,lv,h4,h5⟩:=h;exact⟨h1,h2,(hb.block m (aw.1 h3).1).trans h3,lv,h4.later hb,h5.kept (row:=none) ⟨hb.os,hb.tape,hb.output,hb.size,fun i hi _=>hb.block i hi⟩ (by
  cases e:lv.ownBlock with
  |none=>exact .inl rfl
  |some r=>exact .inr lV)⟩
theorem lZ.lt(h:lZ B g m s w):m<w.heap.size:=(aw.1 h.2.2.1).1
theorem lZ.iterAt{B g m:Nat}{s:RS}{w:jC}(h:lZ B g m s w){k:Nat}{t:ByteArray}{p:Nat}(hk:w.heap[k]? =some (.stringIter t p))(q:Nat):lZ B g m s (w.iterAt k t q):=by
 obtain⟨h1,h2,h3,lv,h4,hl,h5⟩:=h;have ne:∀j o,w.heap[j]? =some o→(∀(t:ByteArray)(p:Nat),o≠Obj.stringIter t p)→(w.iterAt k t q).heap[j]? =some o:=fun j o hj hn=>by
  rw[Lib.iterAt_other w k j t q (by rintro rfl;rw[hj]at hk;exact hn _ _ (Option.some.inj hk))];exact hj
 refine⟨h1,h2,ne m _ h3 (fun _ _ e=>LS),lv,ne g _ h4 (fun _ _ e=>LS),hl,?_⟩;rcases h5 with h5|⟨r,cap,cur,e1,e2,e3,e4⟩
 ·exact .inl h5
 exact .inr ⟨r,cap,cur,e1,e2,ne r _ e3 (fun _ _ e=>LS),e4⟩
theorem kQ.some_(h:kQ B g m w (some s) e w'):Below B w w'∧eh 71 (some g) w w'∧e=.returned .nilIface∧lZ B g m s w':=h
theorem kQ.none_(h:kQ B g m w none e w'):Below B w w'∧eh 71 (some g) w w'∧(∃t,e=.returned (.iface 317 (.agg #[jL t])))∧∃s',lZ B g m s' w':=h
def pW(w:jC)(r:Option (List kI))(e:bi6)(w':jC):Prop:=
 Below w w w'∧(match r with
  |some l=>∃lv,e=.returned (.tuple #[lv,.nilIface])∧w'.ownsRow w 71 2 lv l.length (k_ l)
  |none=>∃v t,e=.returned (.tuple #[v,.iface 317 (.agg #[jL t])]))
theorem pW.no(h:Below w w w'):pW w none (.returned (.tuple #[v,.iface 317 (.agg #[jL t])])) w':=⟨h,v,t,rfl⟩
theorem wd(s:ByteArray)(w:jC)(hs:s.size≤4294967296)(hT:Tb w):
 jE Tryz.prog 129 #[.string s] w (pW w (pE (tx s))):=by
 have QR:Hid (∀w1,Tb w1→jE Tryz.prog 173 #[.string s] w1 fun e w'=>e=.returned (.tuple #[.int .i64 (mc (tx s)).1,.bool (mc (tx s)).2])∧(bJ w1 w')):=fun w1 h=>xq s w1 hs h
 have HT:=ai hT
 clear hT
 cases hv:oJ (tx s)with
 |false=>
  have HN:Hid (pE (tx s)=none):=by show _=_;rw[pE,hv];rfl
  have hr:mc (tx s)=(0,false):=by rw[mc,if_neg (by rw[hv];simp)]
  rw[hr]at QR;clear hr hv;rw[HN.out];go_in;go_wp2_with fail;go_step3;go_wp2_with fail;refine(QR.out _ HT.out).mono ?_;rintro e w1⟨rfl,hb1⟩;go_wp2_with fail;rw[cf];go_ret2;exact pW.no hb1
 |true=>
  have HN:Hid (pE (tx s)=((sX RS.zero (cp (tx s))).bind oC).map (·.l)):=by show _=_;rw[pE,hv];rfl
  have hr:mc (tx s)=(((cp (tx s)).length:Int),true):=by rw[mc,if_pos hv]
  rw[hr]at QR;clear hr hv;generalize((cp (tx s)).length:Int)=nr at*
  go_in;go_wp2_with fail;go_step3;go_wp2_with fail;refine(QR.out _ HT.out).mono ?_;rintro e w1⟨rfl,hb1⟩;go_wp2_with fail;refine(B_ w1).mono ?_;rintro e w2⟨rfl,hR2,hb2⟩;have HR2:=ai hR2;have HB2:=ai hb2;have HB1:=ai hb1;clear hR2 hb2 hb1;have hI2:Hid ((w2.iter s 0).heap[w2.heap.size]? =some (.stringIter s 0)):=World.iter_heap w2 s 0;have HR3:Hid (lZ w1.heap.size w1.heap.size (dE w1) RS.zero (w2.iter s 0)):=HR2.out.later (jP (jQ w2) _);have HB3:=ah (HB2.out.trans ((jP (jQ w2) (.stringIter s 0)).mono HB2.out.size));have hk:=HR2.out.lt;go_wp2_with fail;go_step3;go_wp2_with fail;go_loopw[7] (fun e wr=>∃(pos:Nat)(pre:List (Nat×Nat))(st:RS),e=.nilIface∧Hid (pK s pos pre)∧Hid (sX RS.zero pre=some st)∧Hid st.Ok∧Hid (lZ w1.heap.size w1.heap.size (dE w1) st wr)∧Hid (wr.heap[w2.heap.size]? =some (.stringIter s pos))∧Hid (bJ w1 wr)) (fun _ wr=>s.size-wr.iterPos w2.heap.size)
  case atStart=>exact⟨0,[],RS.zero,rfl,pK.zero s,rfl,LB,HR3.out,hI2.out,HB3.out⟩
  obtain⟨pos,pre,st,rfl,HW,HF,oH,HR,HI,HB⟩:=hrel;have HP:Hid (wr.iterPos w2.heap.size=pos):=by show _=_;simp[eR,HI.out]
  by_cases hp:pos<s.size
  ·have hnx:∀ty,(fw (aV w2) true ty).run Tryz.prog wr=_:=fun ty=>fp wr w2.heap.size s pos ty HI.out hp;rw[tX]at hnx;have HI2:=ai (iC wr w2.heap.size s pos (lI 27 pos s) HI.out);have HW2:=ai (HW.out.next hp);obtain⟨d1,d2,d3,_⟩:=oQ (dI s pos);have HR2:=ai (HR.out.iterAt HI.out (lI 27 pos s));have HB2:=ai (iq HB.out (k:=w2.heap.size) jS s (lI 27 pos s));have HBAD:Hid (qk st (nP (dI s pos))=none→pE (tx s)=none):=fun h=>by
    rw[HN.out,HW2.out.is,tt,CG,HF.out];show((((qk st _).bind _).bind oC).map _)=none;rw[h];rfl
   generalize nP (dI s pos)=d at*
   generalize hwi:wr.iterAt w2.heap.size s (pos+d.2)=wi at*
   have QS:=ai (PC w1.heap.size w1.heap.size (dE w1) st d d1 wi HR2.out oH.out)
   cases hst:qk st d with
   |none=>
    rw[hst]at QS;have Wr:=ai (HBAD.out hst);go_wp2_with fail;refine QS.out.mono ?_;intro e w3 h3;obtain⟨b3,k3,⟨t,rfl⟩,s3,r3⟩:=h3.none_;have HB3:=ai (Below.two HB1.out (HB2.out.trans b3));obtain⟨_,_,_,lv,hbl,_⟩:=r3;have c4:=hbl.cell 4;go_wp2;rw[cf];go_ret2;rw[Wr.out];exact pW.no HB3.out
   |some s'=>
    rw[hst]at QS;have HF2:Hid (sX RS.zero (pre++[d])=some s'):=by show _=_;rw[CG,HF.out];exact hst
    have aB9:=ai (FK oH.out hst);go_wp2_with fail;refine QS.out.mono ?_;intro e w3 h3;obtain⟨b3,k3,rfl,r3⟩:=h3.some_;have HR3:=ai r3;have HB3:=ai (HB2.out.trans b3);have HI3:=ai (k3.iter HI2.out jS);go_wp2;go_roundw
    case rel=>exact⟨pos+d.2,pre++[d],s',rfl,HW2.out,HF2.out,aB9.out,HR3.out,HI3.out,HB3.out⟩
    rw[HP.out];simp only[eR,HI3.out];omega
  have hnx:∀ty,(fw (aV w2) true ty).run Tryz.prog wr=_:=fun ty=>fq wr w2.heap.size s pos ty HI.out hp;have HN2:Hid (pE (tx s)=(oC st).map (·.l)):=by show _=_;rw[HN.out,HW.out.done hp,HF.out];rfl
  have QE:=ai (Mq w1.heap.size w1.heap.size (dE w1) st wr HR.out oH.out)
  cases hst:oC st with
  |none=>
   rw[hst]at QE;have Wr:Hid (pE (tx s)=none):=by show _=_;rw[HN2.out,hst];rfl
   go_wp2_with fail;refine QE.out.mono ?_;intro e w3 h3;obtain⟨b3,k3,⟨t,rfl⟩,s3,r3⟩:=h3.none_;have HB3:=ai (Below.two HB1.out (HB.out.trans b3));obtain⟨_,_,_,lv,hbl,_⟩:=r3;have c4:=hbl.cell 4;go_wp2;rw[cf];go_ret2;rw[Wr.out];exact pW.no HB3.out
  |some s'=>
   rw[hst]at QE;have Wr:Hid (pE (tx s)=some s'.l):=by show _=_;rw[HN2.out,hst];rfl
   go_wp2_with fail;refine QE.out.mono ?_;intro e w3 h3;obtain⟨b3,k3,rfl,r3⟩:=h3.some_;have HB3:=ai (Below.two HB1.out (HB.out.trans b3));obtain⟨_,_,_,lv,hbl,ho⟩:=r3;have c4:=hbl.cell 4;have HO:=ai (Qi ho HB1.out.size);go_wp2;rw[cf];go_ret2;rw[Wr.out];exact⟨HB3.out,lv,rfl,HO.out⟩
def rx(l:List kI):Prop:=∀x∈l,x.1.size≤12∧x.2.size≤96
theorem rx.perm{m:List kI}(h:rx l)(p:m.Perm l):rx m:=fun x hx=>h x (p.mem_iff.1 hx)
theorem Af(e:pN s d=some s'):s'.l=s.l:=by
 unfold pN at e;split at e<;>split at e<;>cases e<;>rfl
theorem Bf(h:s.Ok)(hl:rx s.l)(e:oC s=some s'):rx s'.l:=by
 obtain⟨k1,k2,k3,k4,k5⟩:=h;unfold oC at e;split at e
 ·split at e
  ·cases e
   intro x hx;rcases ed.1 hx with h|h
   ·exact hl x h
   rw[eM.1 h];exact⟨k1,by show s.vl.size≤96;omega⟩
  cases e
 cases e
theorem FJ(h:s.Ok)(hl:rx s.l)(e:qk s d=some s'):rx s'.l:=by
 unfold qk at e;split at e
 ·rw[Af e];exact hl
 split at e
 ·unfold uz at e;split at e
  ·rw[Af e];exact hl
  split at e
  ·cases e
  cases e;exact hl
 split at e
 ·exact Bf h hl e
 split at e
 ·unfold xv at e;split at e
  ·cases e
  cases e;exact hl
 rw[Af e];exact hl
theorem zU:∀(l:List (Nat×Nat))(s s':RS),s.Ok→rx s.l→sX s l=some s'→s'.Ok∧rx s'.l
 |[],s,s',h,hl,e=>by cases e;exact⟨h,hl⟩
 |d::l,s,s',h,hl,e=>by
  rw[sX]at e
  cases hs:qk s d with
  |none=>rw[hs]at e;cases e
  |some s1=>rw[hs]at e;exact zU l s1 s' (FK h hs) (FJ h hl hs) e
variable{t:List UInt8}
theorem JI(h:pE t=some l):rx l∧1≤l.length∧l.length≤6:=by
 unfold pE at h;split at h
 ·cases hr:sX RS.zero (cp t)with
  |none=>rw[hr]at h;cases h
  |some s=>
   rw[hr]at h;obtain⟨hk,hl⟩:=zU _ _ _ LB (fun x hx=>by cases hx) hr
   cases he:oC s with
   |none=>rw[show(some s).bind oC=oC s from rfl,he]at h;cases h
   |some s'=>
    rw[show(some s).bind oC=oC s from rfl,he]at h
    cases h
    refine⟨Bf hk hl he,?_,(Mr hk he).l⟩;unfold oC at he;split at he
    ·split at he
     ·cases he;simp
     cases he
    cases he
 cases h
def mW(t:List UInt8)(r:Option (List kI)):Prop:=match pE t with
 |none=>r=none
 |some l=>∃cur:List kI,cur.Perm l∧S_ cur cur.length∧r=if setB cur=true then some cur else none
def uf(w:jC)(t:List UInt8)(e:bi6)(w':jC):Prop:=
 Below w w w'∧∃r,mW t r∧(match r with
  |some cur=>∃A cap,e=.returned (.tuple #[jN A cur cap,jJ 0])∧cur.length≤cap∧cap≤9223372036854775807∧Lb w' w' A cur
  |none=>e=.returned (.tuple #[jM,jJ 40]))
theorem uf.no(h:mW t none)(hb:Below w w w'):uf w t (.returned (.tuple #[jM,jJ 40])) w':=⟨hb,none,h,rfl⟩
theorem Oo(t:ByteArray)(w:jC):jE Tryz.prog 130 #[.iface 317 (.agg #[jL t])] w fun e w'=>e=.returned (.int .i64 40)∧Below w w w':=by
 have ha:∀w,(dd (.iface 317 (.agg #[jL t])) 171 317 true).run Tryz.prog w=.ok (.tuple #[.agg #[jL t],.bool true]) w:=fun w=>oo;go_in;go_wp2;go_ret;exact⟨rfl,jP (jQ _) _⟩
theorem parse_any(s:ByteArray)(w:jC)(hs:s.size≤4294967296)(hT:Tb w):
 jE Tryz.prog 93 #[jL s] w (uf w (tx s)):=by
 have Q:=ah (wd s w hs hT)
 have HT:=ah hT
 cases hr:pE (tx s)with
 |none=>
  rw[hr]at Q;have HP:Hid (mW (tx s) none):=by show mW _ _;unfold mW;rw[hr]
  go_in;go_wp2_with fail;refine Q.mono ?_;rintro e w1⟨hb1,v,t,rfl⟩;go_wp2_with fail;refine(Oo t _).mono ?_;rintro e w2⟨rfl,hb2⟩;go_wp2;go_ret2;exact uf.no HP (Below.two hb1 hb2)
 |some l=>
  rw[hr]at Q;have HL:=JI hr;have HSH:=ah HL.1;have hl1:=HL.2.1;have hl6:=HL.2.2;have HP:Hid (∀cur:List kI,cur.Perm l→S_ cur cur.length→mW (tx s) (if setB cur=true then some cur else none)):=fun cur h1 h2=>by
   unfold mW;rw[hr];exact⟨cur,h1,h2,rfl⟩
  go_in;go_wp2_with fail;refine Q.mono ?_;rintro e w1⟨hb1,lv,rfl,ho⟩;obtain⟨r,cap,rfl,hr1⟩:∃r cap,lv=.slice (aC r) l.length cap∧cap≤maxLen:=by
   obtain⟨_,⟨_,e⟩|⟨r,cap,cur,e1,_,_,_,e2,_⟩⟩:=ho
   ·omega
   exact⟨r,cap,e1,e2⟩
  have HS:=ah (DR w r cap l jS w1 ⟨List.Perm.refl _,ho,Below.refl _ _⟩);have HB1:=ah hb1;go_wp2_with fail;refine HS.mono ?_;rintro e w2⟨⟨v,rfl⟩,cur,⟨hperm,hown,hbl⟩,hsrt⟩;have HB2:=HB1.trans hbl;have HPC:=ah (HP cur hperm hsrt);have hlc:=hperm.length_eq;have HCS:=ah (HSH.perm hperm);have Lv:Hid (cur.length≤cap):=by
   obtain⟨_,⟨e,_⟩|⟨_,_,_,e,_,_,hle,_⟩⟩:=hown
   ·cases e
   injection e with _ _ e;rw[e];exact hle
  have Wu:=ah (Xe hown);rw[←hlc];have QR:=ah (j_ (aC r) cur cap (fun x hx=>by have:=(HCS x hx).2;omega) w2 (HT.later HB2) Wu);clear hperm hown hbl hsrt hlc HP HS
  cases hb:setB cur with
  |true=>
   rw[hb]at QR HPC;clear hb;go_wp2_with fail;refine QR.mono ?_;rintro e w3⟨rfl,hb3⟩;have HB3:=ah (Below.two HB2 hb3);have SS:=ah (nY Wu hb3);clear hb3;go_wp2_with fail;go_ret2;exact⟨HB3,some cur,HPC,some ⟨r,0,none⟩,cap,rfl,Lv,by unfold maxLen at hr1;omega,SS⟩
  |false=>
   rw[hb]at QR HPC;go_wp2_with fail;refine QR.mono ?_;rintro e w3⟨rfl,hb3⟩;go_wp2;go_ret2;exact uf.no HPC (Below.two HB2 hb3)
def tG(d:Nat×Nat):List UInt8:=(if d.1=44∨d.1=92 then[92]else[])++Lib.encodeRune (d.1:Int)
def uE(l:List UInt8):List UInt8:=(cp l).flatMap tG
theorem KM(r:Int):(Lib.encodeRune r).length≤4:=by
 have:=Lib.runeCells_le r;rw[Lib.runeCells_length]at this;omega
theorem TL(d:Nat×Nat):(tG d).length≤5:=by
 unfold tG;have:=KM (d.1:Int);rw[cd];split<;>simp<;>omega
theorem yI(l:List (Nat×Nat)):(l.flatMap tG).length≤5*l.length:=by
 induction l with
 |nil=>simp
 |cons d l ih=>rw[dg,cd,c_];have:=TL d;omega
theorem JK(s:ByteArray)(w:jC)(hs:s.size≤1000000):
 jE Tryz.prog 146 #[jL s] w fun e w'=>e=.returned (.string ⟨(uE (tx s)).toArray⟩)∧Below w w w':=by
 go_in
 go_wp2_with fail
 go_loopw[] (fun wr=>∃(pos:Nat)(pre:List (Nat×Nat)),Hid (pK s pos pre)∧dX 312 5 w w (dV (pre.flatMap tG)) wr∧wr.heap[w.heap.size+1]? =some (.stringIter s pos)∧Below w w wr) (fun wr=>s.size-wr.iterPos (w.heap.size+1))
 case atStart=>
  refine⟨0,[],pK.zero s,(Lib.IsBuilderF.of (Lib.fresh_isBuilder 312 5 w)).alloc _,?_,((Below.refl _ w).alloc aa _).alloc lV _⟩;have:=World.iter_heap (w.alloc (.cells #[.pointer none,jM] 312)) s 0;simpa using this
 obtain⟨pos,pre,HW,hI,hit,hbw⟩:=hrel
 have hsz:=(aw.1 hit).1
 have aG7:=HW.len
 have Wd:=yI pre
 have HP:Hid (wr.iterPos (w.heap.size+1)=pos):=by show _=_;simp[eR,hit]
 by_cases hp:pos<s.size
 ·have hnx:∀ty,(fw (.pointer (some (aE w))) true ty).run Tryz.prog wr=_:=fun ty=>fp wr (w.heap.size+1) s pos ty hit hp;rw[tX]at hnx;have HW2:=ah (HW.next hp);obtain⟨d1,d2,d3,_⟩:=oQ (dI s pos);have hI2:=hI.iterAt hit (lI 27 pos s);have hit2:=iC wr (w.heap.size+1) s pos (lI 27 pos s) hit;have hbw2:=iq hbw (k:=w.heap.size+1) jS s (lI 27 pos s);have hsz2:w.heap.size≤(wr.iterAt (w.heap.size+1) s (lI 27 pos s)).heap.size:=by rw[Lib.iterAt_size];omega
  have HI2:=ah hI2;have YD:=ah hit2;have YJ:=ah hbw2;generalize nP (dI s pos)=d at*
  have hwi:∃wi,wr.iterAt (w.heap.size+1) s (pos+d.2)=wi:=⟨_,rfl⟩;obtain⟨wi,hwi⟩:=hwi;rw[hwi]at HI2 YD YJ hsz2 hnx;have HFM:Hid ((pre++[d]).flatMap tG=pre.flatMap tG++tG d):=by show _=_;simp
  generalize pre.flatMap tG=acc at*
  by_cases XI:d.1=44∨d.1=92
  ·have HQ:Hid (dV (tG d)=[.int .u8 92]++iS (d.1:Int)):=by
    show _=_;rw[tG,if_pos XI,iX,Lib.byteCells_encodeRune];rfl
   have fin:∀w9:jC,fN 312 5 w w (.pointer (aM w)) (dV acc++[.int .u8 92]++iS (d.1:Int)) w9→dX 312 5 w w (dV ((pre++[d]).flatMap tG)) w9:=fun w9 h=>by
    rw[HFM,iX,HQ,←eH];exact Or.inr h
   have FIN:=ah fin
   have hbl:(dV acc).length≤5*pre.length:=by rw[ii];exact Wd
   have aw6:(d.1:Int)=44∨(d.1:Int)=92:=jS
   clear XI HQ
   rcases aw6 with XI|XI
   all_goals
    rw[XI]at hnx FIN;clear XI;go_wp2_with fail;refine(Fp w w _ 92 _ HI2 (by omega) hsz2).mono ?_;rintro e W1⟨rfl,h1,b1,k1⟩;have HI3:=ah (k1.iter YD (by omega));have HB3:=ah (YJ.trans b1);have hsz3:w.heap.size≤W1.heap.size:=HB3.size;have H1:Hid (dX 312 5 w w _ W1):=Or.inr h1;go_wp2_with fail;refine(yd w w _ _ jS jS _ H1 (by rw[cd];simp;omega) hsz3).mono ?_;rintro e W2⟨rfl,h2,b2,k2⟩;have HI4:=ah (k2.iter HI3 jS);have HB4:=ah (HB3.trans b2);have H2:=ah (FIN W2 h2);go_wp2;go_roundw
    case rel=>exact⟨pos+d.2,pre++[d],HW2,H2,HI4,HB4⟩
    rw[HP.out];simp only[eR,HI4.out];omega
  have HQ:Hid (dV (tG d)=iS (d.1:Int)):=by
   show _=_;rw[tG,if_neg XI,dz,Lib.byteCells_encodeRune]
  have hn1:((d.1:Int)==44)=false:=O1;have hn2:((d.1:Int)==92)=false:=O1;have hbl:(dV acc).length≤5*pre.length:=by rw[ii];exact Wd
  go_wp2_with fail;refine(yd w w _ _ jS jS _ HI2 jS hsz2).mono ?_;rintro e W2⟨rfl,h2,b2,k2⟩;have HI4:=ah (k2.iter YD jS);have HB4:=ah (YJ.trans b2);have H2:Hid (dX 312 5 w w (dV ((pre++[d]).flatMap tG)) W2):=by
   show dX _ _ _ _ _ _;rw[HFM,iX,HQ];exact Or.inr h2
  go_wp2;go_roundw
  case rel=>exact⟨pos+d.2,pre++[d],HW2,H2,HI4,HB4⟩
  rw[HP.out];simp only[eR,HI4.out];omega
 have hnx:∀ty,(fw (.pointer (some (aE w))) true ty).run Tryz.prog wr=_:=fun ty=>fq wr (w.heap.size+1) s pos ty hit hp
 have HE:Hid (uE (tx s)=pre.flatMap tG):=by show _=_;rw[uE,HW.done hp]
 go_wp2_with fail
 refine(OH w w (pre.flatMap tG) _ hI jS).mono ?_
 rintro e W1⟨rfl,_,b1,_⟩
 go_wp2
 go_ret
 exact⟨by rw[HE];rfl,hbw.trans b1⟩
section
variable{P:bi3}{md:fD}{ops:Array bk0}{Q:bk7→Act→jC→Prop}{l n:Nat}
end
section
attribute [local go_sem] db
theorem ve{ops:Array bk0}{Q:bk7→Act→jC→Prop}{l s:Nat}{S:jC→Prop}{id:Nat}{a:Act}(hm:P.follows .mixedOrders=true)(hd:ops.toList.all (fun o:bk0=>match o.op with|.defer _=>false|_=>true)=true)(hQ:¬LetsOut Q)
 (h:mh P .any ops Q S s ops.size (fF ops.size false) a w.drew):(jo id ops true).wpIn (Fence.wide.inRound l) n P Q a w:=by
 refine wpIn_region_any hm (rS (fun i o ho c e=>?_) hQ _ _ _ _ (vh _ _ _ _ h))
 have:=dZ.1 hd o (by simpa using h_ ho)
 rw[e]at this
 cases this
def pG(x:kI):ByteArray:=x.1++⟨#[61]⟩++⟨(uE (tx x.2)).toArray⟩
def xE(l:List kI):List jD:=l.map fun x=>.string (pG x)
def qR(l:List kI):List UInt8:=Lib.join ((l.map pG).map (·.data.toList)) [44]
def TxI(w:jC)(n₀ g4:Nat)(l:List kI)(pre:List (At l.length))(W:jC):Prop:=
 (∃pv,jR W g4 66 #[pv]∧W.ownsRow n₀ 9 1 pv (m_ l pre).length (xE (m_ l pre)))∧Below w w W
def TxX(w:jC)(l:List kI)(c:bk9)(pre:List (At l.length))(W:jC):Prop:=False
theorem tK{W':jC}{sz:Nat}{t:jH}{row:Option Nat}(h:W.ownsRow B t sz v n xs)(hg:W.grownBy W' row)(hr:∀r,row=some r→(aH W r)):W'.ownsRow B t sz v n xs:=by
 refine h.kept hg ?_
 cases e:v.ownBlock with
 |none=>exact .inl rfl
 |some r=>
  refine .inr ?_;rintro rfl;obtain⟨o,ho,hc⟩:=hr r rfl;obtain⟨_,⟨hv,_⟩|⟨g,cap,cur,hv,_,hh,_⟩⟩:=h
  ·subst hv;cases e
  subst hv;cases e;rw[hh]at ho;cases ho;cases hc
theorem tJ{sz:Nat}{t:jH}(h:w.ownsRow B t sz v n xs):∀g,v.ownBlock=some g→B≤g∧∃c fz,w.heap[g]? =some (.cells c t fz):=by
 intro g hg;obtain⟨_,⟨h,e⟩|⟨r,cap,cur,hv,hb,hh,_⟩⟩:=h
 ·subst h;cases hg
 subst hv;cases hg;exact⟨hb,_,_,hh⟩
theorem sn{W':jC}{r:Option Nat}(hg:W.grownBy W' r)(hr:∀k,r=some k→∃c t fz,W.heap[k]? =some (.cells c t fz)):bj4 W W':=
 ⟨hg.size,fun k o hk hc=>(hg.block k (aw.1 hk).1 (fun e=>by
  obtain⟨c,t,fz,h⟩:=hr k e.symm;rw[h]at hk;cases hk;cases hc)).trans hk⟩
theorem U5{n₀ g4:Nat}{Bd:Nat}(hB:w.heap.size≤Bd):bj3 Bd (TxI w n₀ g4 l):=by
 rintro s W W' row⟨⟨pv,h1,h2⟩,h4⟩ hg hr;exact⟨⟨pv,h1.kept hg (fun r e=>(hr r e).2),tK h2 hg (fun r e=>(hr r e).2)⟩,h4.grown hg h4.size (fun k e=>a_ hB (hr k e).1)⟩
theorem U1{c:bk9}{Bd:Nat}:bj3 Bd (TxX w l c):=fun _ _ _ _ h _ _=>h.elim
theorem Tryz.Un:(Tryz.prog.info? 9).map (fun i=>(i.zero,i.size,i.bytes))=some (some (.string ⟨#[]⟩),1,16):=oo
theorem TM(l:List UInt8):(uE l).length≤5*(cp l).length:=yI _
theorem FU(h:setB l=true):∀x∈l,nameB (tx x.1)=true∧mP (tx x.2)=true:=by
 have:∀(l:List kI)(pv:List UInt8),chainB pv l=true→∀x∈l,nameB (tx x.1)=true∧mP (tx x.2)=true:=by
  intro l;induction l with
  |nil=>intro _ _ x hx;cases hx
  |cons y l ih=>
   intro pv h x hx;rw[chainB,ba]at h;rcases cw.1 hx with rfl|hx
   ·have:=h.1;rw[ri]at this;simp only[ba]at this;exact⟨this.1,this.2.2⟩
   exact ih _ h.2 x hx
 unfold setB at h;simp only[ba]at h;exact this l [] h.2
theorem xo(h:setB l=true):∀x∈l,x.1.size≤12∧(uE (tx x.2)).length≤120:=fun x hx=>by
 obtain⟨h1,h2⟩:=FU h x hx;simp only[nameB,mP,ba,decide_eq_true_eq]at h1 h2;rw[lG]at h1;have:=TM (tx x.2);exact⟨h1.1.2,jS⟩
theorem To(h:∀x∈l,x.1.size≤12∧(uE (tx x.2)).length≤120)(hl:l.length≤6):(Lib.join ((l.map pG).map (·.data.toList)) [44]).length≤140737488355328:=by
 have hp:∀x∈l,(pG x).data.toList.length≤133:=fun x hx=>by
  obtain⟨h1,h2⟩:=h x hx;show(tx (pG x)).length≤_;rw[lG,pG,fc,fc,zR (uE (tx x.2))];show x.1.size+1+_≤133;omega
 have:∀l:List kI,(∀x∈l,(pG x).data.toList.length≤133)→(iH [44] ((l.map pG).map (·.data.toList))).length≤134*l.length:=by
  intro l;induction l with
  |nil=>intro _;simp[iH]
  |cons y l ih=>
   intro h;have h1:=h y lV;have h2:=ih (fun x hx=>h x (by simp[hx]));simp only[iH,df,List.flatten_cons,cd,c_,dp]at h2⊢;omega
 cases l with
 |nil=>simp[Lib.join_nil]
 |cons y l=>
  rw[df,df,Lib.join_cons,cd];have h1:=hp y lV;have h2:=this l (fun x hx=>hp x (by simp[hx]));simp only[c_]at hl;omega
theorem L4{k:Nat}(h:k<l.length):k7 l k∈l:=by
 have:k7 l k=l[k]:=by simp[k7,h]
 rw[this];exact ar h
theorem Tq(A:Option jG)(l:List kI)(cap:Nat)(hr:setB l=true)(hs:∀x∈l,(x.2).size≤1000000)(w:jC)(hT:Tb w)(hS:Lb w w A l):
 bj2 cz 6 Tryz.prog 99 #[jN A l cap] w fun e w'=>e=.returned (.tuple #[.string ⟨(qR l).toArray⟩,jJ 0])∧Below w w w':=by
 have hl6:1≤l.length∧l.length≤6:=by
  unfold setB at hr;simp only[ba,decide_eq_true_eq]at hr;exact hr.1
 have SZ:Hid (∀k,k<l.length→(k7 l k).1.size≤12∧(uE (tx (k7 l k).2)).length≤120∧(k7 l k).2.size≤1000000):=fun k hk=>by
  have h1:=xo hr _ (L4 hk);exact⟨h1.1,h1.2,hs _ (L4 hk)⟩
 have SZ2:Hid (∀x∈l,x.1.size≤12∧(uE (tx x.2)).length≤120):=xo hr
 have QR:=ah (j_ A l cap (fun x hx=>by have:=hs x hx;omega) w hT hS)
 rw[hr]at QR
 have HS:=ah hS
 have NE:Hid (l.length≠0→∀ad,A=some ad→ad.block<w.heap.size):=fun h ad e=>by
  obtain⟨b,off,e',hb,_⟩:=hS.at_ (by omega);rw[e']at e;cases e;exact hb
 obtain⟨hl1,hl6⟩:=hl6
 clear hS hT hr hs
 refine bi7 Tryz.func99 rfl trivial ?_ rfl
 simp only[Tryz.ntmps99,xb,ao,dk]
 refine bi4.2 ?_
 go_wp2_with fail
 refine QR.mono ?_
 rintro e w0⟨rfl,hb0⟩
 have T:Below w w (w0.alloc (.cells #[jM] 66)):=jP hb0 _
 have P0:=ah (jR.new w0 66 #[jM])
 have hw0:=hb0.size
 replace HS:=ah (nY (nY HS hb0) (jP (jQ w0) (.cells #[jM] 66)))
 clear hb0
 go_wp2_with fail
 generalize w0.alloc (.cells #[jM] 66)=w1 at*
 refine(tT _ _ _ _).mono ?_
 rintro e w'⟨rfl,rfl⟩
 have hba:=jP (jQ w1) (.cells #[jN A l cap] 72)
 have Z:=ah (jR.new w1 72 #[jN A l cap])
 have hw1:=P0.lt
 replace P0:=ah (P0.later hba)
 replace HS:=ah (nY HS hba)
 replace T:=Below.two T hba
 clear hba
 go_wp2_with fail
 generalize w1.alloc (.cells #[jN A l cap] 72)=V at*
 have pz:=P0.lt
 have vz:=Z.lt
 obtain⟨zs,hzs⟩:=mH (N:=l.length) (bu l.length) (fun p hp=>dh.1 hp)
 have HZ:=ah hzs
 have hst:TxI w V w0 l [] V:=⟨⟨_,P0,dY _ _ _ _⟩,T⟩
 clear hzs
 refine(bi4 (n:=6)).1 ?_
 refine pB rfl (by omega) (gf:=222) (lb:=#[jO w1]) rfl trivial (enters_of Tryz.func222 (by kernel_rfl) rfl)
  (values_stops 5 (by omega) w1 cap (fun i=>i≠w0.heap.size) A l zs HZ (by omega) V (by omega) (fun h ad e=>by have:=NE h ad e;omega) Z HS)
  (fun h k=>lJ h k) (zm (by omega)) (fun W o h=>kW (by omega) (jP (jQ W) o)) (Below.refl _ _) (fun _=>rfl)
  (TxI w V w0 l) (TxX w l) (U5 (by have:=T.size;omega)) (fun c=>U1) hst
  (fun x b=>{tmps:=#[jN A l cap,undef,.string ⟨#[]⟩,jJ 0,jO w0,jO b,jN A l cap,.bool true,.bool false,jN A l cap,
   .func (.func 222) #[] #[jO w1],.agg #[jL (k7 l x.1).1,jL (k7 l x.1).2],undef,undef,undef,undef,undef,undef,undef,undef,undef,undef,undef,undef],defers:=[]})
  (fun x=>.cells #[jL (k7 l x.1).1,jL (k7 l x.1).2] 71) ?assign ?body ?done ?stop
 case assign=>
  intro l x W K hK;gi_wp2;exact hK
 case body=>
  rintro l' pre x W b⟨⟨pv,hP,hO⟩,hb⟩ hbz hN hlt;have HN:Hid (jR W b 71 #[jL (k7 l x.1).1,jL (k7 l x.1).2]):=hN;have OQ:=ah hP;have HO:=ah hO;have HB:=ah hb;have hlen:(m_ l pre).length<l.length:=by simp[m_];omega
  have HMS:Hid (xE (m_ l (pre++[x]))=xE (m_ l pre)++[.string (pG (k7 l x.1))]):=by show _=_;rw[rK];simp[xE]
  have HML:Hid ((m_ l (pre++[x])).length=(m_ l pre).length+1):=by show _=_;rw[rK];simp
  obtain⟨sz1,sz2,sz3⟩:=SZ x.1 x.2;obtain⟨i0,hi0,hz0,hz1,hz2⟩:=bi5 Tryz.Un;clear hP hO hb hN;generalize k7 l x.1=it at*
  obtain⟨nm,vl⟩:=it;have HPT:Hid (pG (nm,vl)=nm++⟨#[61]⟩++⟨(uE (tx vl)).toArray⟩):=rfl;have QQ:Hid (∀w1,jE Tryz.prog 146 #[jL vl] w1 fun e w'=>e=.returned (.string ⟨(uE (tx vl)).toArray⟩)∧Below w1 w1 w'):=fun w1=>JK vl w1 sz3;have hq1:(jf (uE (tx vl)).toArray).size≤120:=by rw[zR];exact sz2
  generalize jf (uE (tx vl)).toArray=qv at*
  have ha1:fK .add nm ⟨#[61]⟩=pure (.string (nm++⟨#[61]⟩)):=oL (by simp only at sz1;show nm.size+1≤1000000;omega);have ha2:fK .add (nm++⟨#[61]⟩) qv=pure (.string (nm++⟨#[61]⟩++qv)):=oL (by simp only at sz1;rw[fc];show nm.size+1+qv.size≤1000000;omega);generalize xE (m_ l pre)=xs at*
  generalize(m_ l pre).length=np at*
  simp only at sz1 sz2 sz3 HN;have c0:=OQ.one;have n0:=HN.p0;have n1:=HN.p1;have fz:=OQ.frozen 0;gi_wp2_with fail;refine ve (S:=fun w'=>w'.cell? ⟨w0,0,none⟩=some pv∧w'.cell? ⟨b,0,none⟩=some (.string nm)∧w'.cell? ⟨b,1,none⟩=some (.string vl)) (s:=10) (by kernel_rfl) (by kernel_rfl) (by rintro⟨_,_,h⟩;exact h) ?_;refine sU ⟨c0,n0,n1⟩ ?_;refine oY 6 fun K hK=>?_;go_simp;refine(QQ _).mono ?_;rintro e W2⟨rfl,hb2⟩;have hd:Below W W W2:=Below.two (below_drewN (jQ W) 1) hb2;have hVW:V.heap.size≤W.heap.size:=by have:=HN.lt;omega
  replace HN:=ah (HN.later hd);replace OQ:=ah (OQ.later hd);have xd:Hid (W2.ownsRow V 9 1 pv np xs):=lf HO hd;have HB2:=ah (Below.two HB hd);have KO:=ky hd;have KP:=ah (kW (n₀:=V.heap.size) (p:=fun i=>i≠w0.heap.size) hVW hd);have av6:V.heap.size≤W2.heap.size:=a_ hVW hd.size;clear hd hb2 c0 n0 n1 fz HO HB;have c0:=OQ.one;have n0:=HN.p0;have n1:=HN.p1;refine hK.out _ _ (fun _=>⟨c0,n0,n1⟩) ?_;clear hK K;refine az ?_;refine sU ⟨c0,n0,n1⟩ ?_;refine oY 8 fun K hK=>?_;go_simp;have hba:Below W2 W2 (W2.alloc (.cells #[jL (nm++⟨#[61]⟩++qv)] 9)):=jP (jQ W2) _;have NB:Hid (jR (W2.alloc (.cells #[jL (nm++⟨#[61]⟩++qv)] 9)) W2 9 #[jL (nm++⟨#[61]⟩++qv)]):=jR.new W2 _ _;replace HN:=ah (HN.later hba);replace OQ:=ah (OQ.later hba);have w_:Hid ((W2.alloc (.cells #[jL (nm++⟨#[61]⟩++qv)] 9)).ownsRow V 9 1 pv np xs):=lf xd hba;have HB3:=ah (Below.two HB2 hba);replace KO:=KO.trans (ky hba);replace KP:=ah (lJ KP (kW av6 hba));have hw2:=hba.size;clear hba c0 n0 n1 xd HB2;generalize(W2.alloc (.cells #[jL (nm++⟨#[61]⟩++qv)] 9))=W3 at*
  have c0:=OQ.one;have n0:=HN.p0;have n1:=HN.p1;refine hK.out _ _ (fun _=>⟨c0,n0,n1⟩) ?_;clear hK K;refine az ?_;refine oY 9 fun K hK=>?_;refine tg rfl (.tmp 12) (.tmp 20) 66 rfl V.heap.size 9 i0 (aF) 1 16 Tryz.underlying66 hi0 hz0 hz1 hz2 rfl (by decide) pv np xs rfl w_.out (dE W2) (some (lz 43 W2)) 1 1 [.string (nm++⟨#[61]⟩++qv)] rfl (by simp) (JJ (cs:=[.string (nm++⟨#[61]⟩++qv)]) NB.out) (by intro u hu;simp at hu;subst hu;rfl) (by unfold maxLen;omega) (by omega) (by omega) ?_;intro A3 c3 W4 hown4 hg4;have hrow:=tJ w_;have hne:∀r,pv.ownBlock=some r→r≠w0.heap.size:=fun r hr e=>by
   have:=(hrow r hr).1;omega
  replace OQ:Hid (jR W4 w0 66 #[pv]):=OQ.grown hg4 (fun e=>hne _ e.symm rfl);have hnb:∀r,pv.ownBlock=some r→r≠b:=fun r hr e=>by
   obtain⟨_,c,fz,hc⟩:=hrow r hr;subst e;rw[show W3.heap[r]? =_ from HN]at hc;injection hc with hc;injection hc with _ hc;exact absurd hc (by decide)
  replace HN:Hid (jR W4 b 71 #[jL nm,jL vl]):=HN.grown hg4 (fun e=>hnb _ e.symm rfl);have IS:=ah hown4;have HB4:(bB w W4):=HB3.grown hg4 (HB3.size) (fun r hr=>by have:=(hrow r hr).1;have:=T.size;omega);replace KO:=KO.trans (sn hg4 (fun k e=>by obtain⟨_,c,fz,hc⟩:=hrow k e;exact⟨c,_,fz,hc⟩));replace KP:Hid (qK V (fun i=>i≠w0.heap.size) W W4):=lJ KP ⟨hg4.size,fun i hi _=>hg4.block i (by omega) (fun e=>by have:=(hrow i e.symm).1;omega)⟩;clear hown4 hg4 hrow hne hnb c0 n0 n1 w_ HB3 NB;have c0:=OQ.out.one;have n0:=HN.out.p0;have n1:=HN.out.p1;have fz:=OQ.out.frozen 0;refine hK.out _ _ (fun _=>⟨c0,n0,n1⟩) ?_;clear hK K;refine az ?_;refine oY 10 fun K hK=>?_;go_simp;refine hK.out _ _ (fun h=>by cases h) ?_;clear hK K;refine az ?_;refine yi ?_;have hOW:(W4.setCell (lz 43 w0) (.slice A3 (np+1) c3)).ownsRow V.heap.size 9 1 (.slice A3 (np+1) c3) (np+1) (xs++[.string (nm++⟨#[61]⟩++qv)]):=
   bj0 IS (a:=⟨w0,0,none⟩) (fun e=>by have:=(tJ IS _ e).1;simp only at this;omega) _
  refine⟨KO.trans (b7 _ _ _),lJ KP (uw (by simp)),⟨.slice A3 (np+1) c3,OQ.kY 0 _,?_⟩,HB4.setCell (by show w.heap.size≤w0.heap.size;exact hw0) _⟩;rw[HML,HMS,HPT];exact hOW
 case done=>
  rintro D ys W hD rfl⟨⟨pv,hP,hO⟩,hb⟩ hK;rw[wl HZ]at hO;have c0:=hP.one;have hN0:0<l.length:=by omega
  obtain⟨r,cap',rfl,hrl⟩:∃r cap',pv=.slice (aC r) l.length cap'∧l.length≤cap':=by
   obtain⟨_,⟨_,e⟩|⟨r,cap',cur,e1,_,_,e2,_⟩⟩:=hO
   ·omega
   exact⟨r,cap',e1,e2⟩
  have QJ:=ah (Tryz.strings_Join r 0 cap' (l.map pG) ⟨#[44]⟩ W (fun j x hj=>by
   rw[au,hO.cellAt j (by
    have:=(ci.1 hj).1;simpa using this)]
   simp only[xE,eD,Option.map_eq_some_iff]at hj⊢;obtain⟨y,h1,h2⟩:=hj;exact⟨y,h1,by rw[h2]⟩) (hO.lt r rfl).2 (by simp;omega) (by simp;omega) (To SZ2 hl6))
  rw[ax]at QJ;have HK:=ah hK;have HB:=ah hb;clear hP hO hb hK;go_wp2_with fail;refine QJ.mono ?_;rintro e W2⟨rfl,hb2⟩;have Tf:W2.heap[D]? =some (aY):=(hb2.block D (aw.1 HK).1).trans HK;go_wp2_with fail;try rw[cf]
  refine⟨by simp,.inl ⟨_,_,rfl,bi2 Tf,?_⟩⟩;exact⟨.tuple #[.string ⟨(qR l).toArray⟩,jJ 0],by simp[results,Tryz.results99,go_sem,qR],rfl,(Below.two HB hb2).trans (bj6 (w:=w) aa _ D _ _ (by have:=T.size;omega) Tf rfl rfl)⟩
 rintro D c pre W _ _ h _
 exact h.elim
theorem Po(A:Option jG)(l:List kI)(cap:Nat)(hs:∀x∈l,(x.2).size≤1000000)(w:jC)(hT:Tb w)(hS:Lb w w A l):
 jE Tryz.prog 99 #[jN A l cap] w fun e w'=>e=.returned (if setB l=true then .tuple #[.string ⟨(qR l).toArray⟩,jJ 0]else .tuple #[aF,jJ 40])∧Below w w w':=by
 cases hr:setB l with
 |true=>rw[if_pos rfl];exact jI.1 (Tq A l cap hr hs w hT hS)
 |false=>
  rw[if_neg lV];have QR:=ah (j_ A l cap (fun x hx=>by have:=hs x hx;omega) w hT hS);rw[hr]at QR;go_in;go_wp2_with fail;refine QR.mono ?_;rintro e w0⟨rfl,hb0⟩;go_wp2;go_ret2;exact⟨rfl,hb0⟩
end
theorem VL{s t:ByteArray}:tx s=tx t↔s=t:=⟨fun h=>rX h,fun h=>by rw[h]⟩
theorem In:∀(l:List kI)(pv:List UInt8),chainB pv l=true→(∀x∈l,lsB pv (tx x.1)=true)∧l.Pairwise fun a b=>lsB (tx a.1) (tx b.1)=true
 |[],pv,_=>⟨fun _ h=>by simp at h,List.Pairwise.nil⟩
 |x::l,pv,h=>by
  simp only[chainB,ba]at h;obtain⟨h1,h2⟩:=h;obtain⟨a,b⟩:=In l (tx x.1) h2;have hx:lsB pv (tx x.1)=true:=by
   simp only[ri,Ep,ba,jp,Bool.or_eq_false_iff]at h1;obtain⟨-,⟨h3,h4⟩,-⟩:=h1;rcases ur (tx x.1) pv with e|e|e
   ·rw[show dW (tx x.1) pv=true from e]at h3;cases h3
   ·rw[e]at h4;simp at h4
   exact e
  exact⟨fun y hy=>by rcases cw.1 hy with rfl|hy;exact hx;exact qd hx (a y hy),b6.2 ⟨a,b⟩⟩
theorem Ag:∀(l1 l2:List kI),(l1.Pairwise fun a b=>lsB (tx a.1) (tx b.1)=true)→(l2.Pairwise fun a b=>lsB (tx b.1) (tx a.1)=false)→l2.Perm l1→l2=l1
 |[],l2,_,_,h=>List.Perm.eq_nil h
 |x::r,[],_,_,h=>by have:=h.length_eq;simp at this
 |x::r,y::s,h1,h2,h=>by
  have p1:=b6.1 h1;have p2:=b6.1 h2;by_cases e:y=x
  ·subst e;rw[Ag r s p1.2 p2.2 ((List.perm_cons y).1 h)]
  have hy:y∈r:=by
   have:=h.mem_iff.1 (di (a:=y) (l:=s));rcases cw.1 this with k|k
   ·exact absurd k e
   exact k
  have hx:x∈s:=by
   have:=h.mem_iff.2 (di (a:=x) (l:=r));rcases cw.1 this with k|k
   ·exact absurd k.symm e
   exact k
  have a:=p1.1 y hy;have b:=p2.1 x hx;rw[a]at b
  cases b
theorem PE(h:S_ l l.length):l.Pairwise fun a b=>lsB (tx b.1) (tx a.1)=false:=by
 refine cj.2 fun i j hi hj hij=>?_;have:=h i j hij hj;simpa[ahead,k7,hi,hj]using this
theorem LL(h:setB l=true):l.Pairwise fun a b=>lsB (tx a.1) (tx b.1)=true:=by
 simp only[setB,ba]at h;exact(In l [] h.2).2
variable{r:Option (List kI)}
theorem CQ{r':Option (List kI)}(h:mW t r)(h':mW t r'):r=r':=by
 unfold mW at h h'
 cases hr:pE t with
 |none=>rw[hr]at h h';simp only at h h';rw[h,h']
 |some l=>
  rw[hr]at h h';obtain⟨a,pa,sa,rfl⟩:=h;obtain⟨b,pb,sb,rfl⟩:=h';by_cases ha:setB a=true
  ·rw[Ag a b (LL ha) (PE sb) (pb.trans pa.symm)]
  by_cases hb:setB b=true
  ·rw[Ag b a (LL hb) (PE sa) (pa.trans pb.symm)]
  rw[if_neg ha,if_neg hb]
open Classical in
noncomputable def vt(t:List UInt8):Option (List kI):=if h:∃l,mW t (some l)then some h.choose else none
theorem Gk(h:mW t r):vt t=r:=by
 unfold vt
 cases r with
 |some l=>
  have e:∃l,mW t (some l):=⟨l,h⟩;rw[dif_pos e];exact CQ e.choose_spec h
 |none=>
  rw[dif_neg];rintro⟨l,hl⟩
  cases CQ hl h
theorem CP(h:mW t (some l)):setB l=true:=by
 unfold mW at h
 cases hr:pE t with
 |none=>rw[hr]at h;cases h
 |some l'=>
  rw[hr]at h;obtain⟨a,_,_,e⟩:=h;by_cases ha:setB a=true
  ·rw[if_pos ha]at e;cases e;exact ha
  rw[if_neg ha]at e;cases e
end Go.Proofs.YtfcnedcahoifoaaGreatDoor

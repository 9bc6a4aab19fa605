import Derived.Lib.MapLaws
import Derived.Maps.RangeWalk
import Derived.Maps.OwnSet
import Derived.Test.YtfcnedcahoifoaaGreatDoorOB
import Derived.Test.YtfcnedcahoifoaaGreatDoorOC
namespace Go.Proofs.YtfcnedcahoifoaaGreatDoor
open Go.RowKit
open _root_.Bool renaming and_eq_true→ba,false_and→eO,true_and→eF
open _root_.Go renaming Addr→jG,CallsIn→bj2,Calls→jE,Code→bk9,Ending→bi6,KeepsOthers→bj4,OwnFrom→bj3,Program→bi3,TypeId→jH,Value→jD,World→jC,YieldAt→bl4,belowK_b→bj6,bodyPost_end→bl6,bodyPost_ret→jF,callsIn_of_wp_marks→bi7,callsIn_of_wp→bj1,callsIn_wide→jI,grownBy_putObj'→bj5,info_parts→bi5,ownsRow_setCell_other→bj0,results_none→bj7,run_takeDeferred→bi2,wpIn_wide→bi4,wpList_append_own→bk3
open _root_.Go.CallsIn renaming inRound→d_
open _root_.Go.DataW renaming insert→fC,map→jy
open _root_.Go.Exit renaming noGoto_ret→cf
open _root_.Go.Fence renaming wide→cz
open _root_.Go.Instr renaming field→i_,mapUpdate→fG,next→fw,typeAssert→dd
open _root_.Go.KeepsOthers renaming refl→gq,setCell→b7
open _root_.Go.Lib renaming below_iterAt→iq,hid→ai,indexByte→gd,iterAt_heap→iC,run_next_any_at→fp,run_next_end_at→fq
open _root_.Go.Lit renaming int→iK
open _root_.Go.Maps renaming has→iL,keyOf_int_mk→f_,size→gZ
open _root_.Go.Op renaming bytesLess→dW
open _root_.Go.Oper renaming semAt_some→db
open _root_.Go.RowKit renaming intOf→av
open _root_.Go.Value renaming int→br
open _root_.Go.World renaming cell?_of_block→co,iterPos→eR,ownsRow_nil→dY,putObj_heap_other→dx,setCell→bj
open _root_.List renaming all_append→gT,append_assoc→eH,append_eq_nil_iff→iM,append_nil→eB,cons_append→dj,drop_eq_getElem_cons→dN,drop_eq_nil_of_le→ei,eq_nil_of_length_eq_zero→da,filter_cons→eC,filter_eq_self→eY,getElem?_eq_getElem→an,getElem?_eq_none→fS,getElem?_eq_some_iff→ci,getElem?_map→eD,idxOf_lt_length_iff→iB,length_append→cd,length_cons→c_,length_drop→dr,length_map→ax,length_nil→dp,length_take→cv,length→ez,map_append→dH,map_cons→df,mem_cons_of_mem→dS,mem_cons_self→di,mem_cons→cw,mem_map→dq,mem_range→dh,mem_singleton→eM,mem_take_iff_getElem→iy,pairwise_cons→b6,range→bu,take_append_drop→fQ,take_length→dP,take_of_length_le→cl,take_prefix→eS,take_succ_eq_append_getElem→aj,take_zero→fO
open _root_.Nat renaming add_assoc→gW,le_refl→ay,le_succ→dU,le_trans→a_,lt_or_ge→fB,reduceAdd→ao,reduceSub→dk,zero_add→au,zero_le→be
set_option maxRecDepth 100000
set_option maxHeartbeats 16000000
set_option linter.unusedVariables false
set_option linter.unusedSimpArgs false
instance aX3(x0:Nat):CoeOut (sH 41 x0) jD:=⟨fun _=>.iface 340 (.agg #[.int .i32 (x0:Int)])⟩
structure SdA where
def dA:SdA:=⟨⟩
instance aU3:CoeOut SdA Obj:=⟨fun _=>(.cells #[.bool false] 4)⟩
structure SdF where
def dF:SdF:=⟨⟩
instance aU1:CoeOut SdF (Array jD):=⟨fun _=>#[.string ⟨#[59]⟩]⟩
namespace Sc
section
variable{w w':jC}{B B':Nat}{A:Option jG}{l:List kI}
end
section
open Go.RowKit Go.Shelf
attribute [local go_sem] db
end
section
variable{F:Fence}{n:Nat}{P:bi3}
end
section
attribute [local go_sem] db
end
section
attribute [local go_sem] db
def k8(l:List kI)(n:ByteArray):ByteArray×Bool:=match l.find? fun x=>x.1.toList==n.toList with
 |some x=>(x.2,true)
 |none=>(⟨#[]⟩,false)
variable{l:List kI}{n:ByteArray}
theorem Ob(h:(k8 l n).2=false)(x:kI):k8 (l++[x]) n=if x.1.toList==n.toList then(x.2,true)else(⟨#[]⟩,false):=by
 unfold k8 at h⊢;rw[List.find?_append]
 cases e:l.find? fun x=>x.1.toList==n.toList with
 |some y=>rw[e]at h;cases h
 |none=>
  simp only[Option.none_or,List.find?_cons,List.find?_nil]
  cases e2:x.1.toList==n.toList<;>rfl
theorem uy(h:(k8 l n).2=false):k8 l n=(⟨#[]⟩,false):=by
 unfold k8 at h⊢
 cases e:l.find? fun x=>x.1.toList==n.toList with
 |some y=>rw[e]at h;cases h
 |none=>rfl
theorem Od(h:(k8 l n).2=true)(t:List kI):k8 (l++t) n=k8 l n:=by
 unfold k8 at h⊢;rw[List.find?_append]
 cases e:l.find? fun x=>x.1.toList==n.toList with
 |some y=>rfl
 |none=>rw[e]at h;cases h
def GtI(w:jC)(n:ByteArray)(l:List kI)(pre:List (At l.length))(W:jC):Prop:=
 jR W w 9 #[jL n]∧jR W (w.heap.size+1) 9 #[aF]∧jR W (aN w) 4 #[.bool false]∧(k8 (m_ l pre) n).2=false∧Below w w W
def GtX(w:jC)(n:ByteArray)(l:List kI)(c:bk9)(pre:List (At l.length))(W:jC):Prop:=
 c=.ret∧jR W (w.heap.size+1) 9 #[jL (k8 (m_ l pre) n).1]∧jR W (aN w) 4 #[.bool true]∧(k8 (m_ l pre) n).2=true∧Below w w W
variable{w:jC}
theorem VC{Bd:Nat}(hB:w.heap.size≤Bd):bj3 Bd (GtI w n l):=by
 rintro s W W' row⟨h1,h2,h3,h5,h4⟩ hg hr;exact⟨h1.kept hg (fun r e=>(hr r e).2),h2.kept hg (fun r e=>(hr r e).2),h3.kept hg (fun r e=>(hr r e).2),h5,h4.grown hg h4.size (fun k e=>a_ hB (hr k e).1)⟩
theorem VB{c:bk9}{Bd:Nat}(hB:w.heap.size≤Bd):bj3 Bd (GtX w n l c):=by
 rintro s W W' row⟨h0,h1,h2,h3,h4⟩ hg hr;exact⟨h0,h1.kept hg (fun r e=>(hr r e).2),h2.kept hg (fun r e=>(hr r e).2),h3,h4.grown hg h4.size (fun k e=>a_ hB (hr k e).1)⟩
theorem XL(A:Option jG)(l:List kI)(cap:Nat)(n:ByteArray)(h6:l.length≤4294967296)(w:jC)(hS:Lb w w A l):
 bj2 cz 6 Tryz.prog 225 #[jN A l cap,jL n] w fun e w'=>e=.returned (.tuple #[jL (k8 l n).1,.bool (k8 l n).2])∧Below w w w':=by
 have T:Below w w (((w.alloc (cQ n)).alloc (.cells #[aF] 9)).alloc dA):=jP (jP (jP (jQ _) _) _) _
 have X:=ah (((jR.new w 9 #[jL n]).alloc (.cells #[aF] 9)).alloc dA)
 have Y:=ah ((tZ w (cQ n) 9 #[aF]).alloc dA)
 have Y2:=ah (Bl w (cQ n) (.cells #[aF] 9) 4 #[.bool false])
 have HS:=ah (nY hS T)
 have NE:Hid (l.length≠0→∀ad,A=some ad→ad.block<w.heap.size):=fun h ad e=>by
  obtain⟨b,off,e',hb,_⟩:=hS.at_ (by omega);rw[e']at e;cases e;exact hb
 clear hS
 refine bi7 Tryz.func225 rfl trivial ?_ rfl
 simp only[Tryz.ntmps225,xb,ao,dk]
 refine bi4.2 ?_
 go_wp2_with fail
 generalize((w.alloc (cQ n)).alloc (.cells #[aF] 9)).alloc dA=w1 at*
 refine(tT _ _ _ _).mono ?_
 rintro e w'⟨rfl,rfl⟩
 have hba:=jP (jQ w1) (.cells #[jN A l cap] 72)
 have Z:=ah (jR.new w1 72 #[jN A l cap])
 have WZ:=ah Y2.lt
 replace X:=ah (X.later hba)
 replace Y:=ah (Y.later hba)
 replace Y2:=ah (Y2.later hba)
 replace HS:=ah (nY HS hba)
 replace T:=Below.two T hba
 clear hba
 go_wp2_with fail
 generalize w1.alloc (.cells #[jN A l cap] 72)=V at*
 have xz:=X.lt
 have yz:=Y.lt
 have yz2:=Y2.lt
 have wz:=WZ.out
 have vz:=Z.out.lt
 obtain⟨zs,hzs⟩:=mH (N:=l.length) (bu l.length) (fun p hp=>dh.1 hp)
 have HZ:=ai hzs
 have hst:GtI w n l [] V:=⟨X.out,Y.out,Y2.out,rfl,T⟩
 clear hzs
 refine(bi4 (n:=6)).1 ?_
 refine pB rfl (by omega) (gf:=222) (lb:=#[aV w1]) rfl trivial (enters_of Tryz.func222 (by kernel_rfl) rfl)
  (values_stops 5 (by omega) w1.heap.size cap (fun i=>i≠w.heap.size+1∧i≠w.heap.size+1+1) A l zs HZ.out (by omega) V ⟨by omega,by omega⟩ (fun h ad e=>by have:=NE.out h ad e;exact⟨by omega,by omega⟩) Z.out HS.out)
  (fun h k=>lJ h k) (zm (by omega)) (fun W o h=>kW (by omega) (jP (jQ W) o)) (Below.refl _ _) (fun _=>rfl)
  (GtI w n l) (GtX w n l) (VC (by omega)) (fun c=>VB (by omega)) hst
  (fun x b=>{tmps:=#[jN A l cap,jL n,undef,jO w,.pointer (some (aE w)),.pointer (some (aG w)),jO b,jN A l cap,
   .func (.func 222) #[] #[jO w1],.agg #[jL (k7 l x.1).1,jL (k7 l x.1).2],undef,undef,undef,undef,undef,undef],defers:=[]})
  (fun x=>.cells #[jL (k7 l x.1).1,jL (k7 l x.1).2] 71) ?assign ?body ?done ?stop
 case assign=>
  intro l x W K hK;gi_wp2;exact hK
 case body=>
  rintro l' pre x W b⟨hX,hY,hY2,hall,hb⟩ hbz hN hlt;have HX:=ah hX;have HY:=ah hY;have O5:=ah hY2;have HN:Hid (jR W b 71 #[jL (k7 l x.1).1,jL (k7 l x.1).2]):=hN;have HB:=ah hb;have HG2:Hid (k8 (m_ l (pre++[x])) n=if(k7 l x.1).1.toList==n.toList then((k7 l x.1).2,true)else(⟨#[]⟩,false)):=by show _=_;rw[rK,Ob hall]
  have KO:bj4 W W:=gq _;clear hX hY hY2 hN hb hall;generalize k7 l x.1=it at*
  have x0:=HX.one;have n0:=HN.p0;have n1:=HN.p1;have fy:=HY.frozen 0;have fy2:=O5.frozen 0;have y0:=HY.one;have y2:=O5.one;have zx:=HX.lt;have zy:=HY.lt;have zy2:=O5.lt;have zn:=HN.lt
  cases c1:it.1.toList==n.toList with
  |true=>
   have HR:Hid (k8 (m_ l (pre++[x])) n=(it.2,true)):=by show _=_;rw[HG2,c1];rfl
   gi_wp2_with fail;refine⟨(KO.trans (b7 _ _ _)).trans (b7 _ _ _),rfl,?_,?_,?_,?_⟩
   ·rw[HR];exact(HY.kY 0 _).far (by show w.heap.size+1≠w.heap.size+1+1;omega) _
   ·exact(O5.far (by show w.heap.size+1+1≠w.heap.size+1;omega) _).kY 0 _
   ·rw[HR]
   exact(HB.setCell (dU _) _).setCell (by show(aU w);omega) _
  |false=>
   have HR:Hid (k8 (m_ l (pre++[x])) n=(⟨#[]⟩,false)):=by show _=_;rw[HG2,c1];rfl
   gi_wp2_with fail;exact⟨KO,sr _ _ _,HX,HY,O5,by rw[HR],HB⟩
 case done=>
  rintro D ys W hD rfl⟨hX,hY,hY2,hall,hb⟩ hK;have HE:Hid (k8 l n=(⟨#[]⟩,false)):=by
   show _=_;rw[wl HZ]at hall;exact uy hall
  have fy:=hY.frozen 0;have fy2:=hY2.frozen 0;have y0:=hY.one;have y2:=hY2.one;have zy:=hY.lt;have zy2:=hY2.lt;have HY:=ah hY;have O5:=ah hY2;have HB:=ah hb;have HK:=ah hK;clear hX hall hY hY2 hb hK;go_wp2_with fail;try rw[cf]
  have hK2:((W.setCell (aE w) (aF)).setCell (aG w) (.bool false)).heap[D]? =some (aY):=
   (Below.heap_setCell _ (aG w) _ D (by show D≠w.heap.size+1+1;omega)).trans ((Below.heap_setCell W (aE w) _ D (by show D≠w.heap.size+1;omega)).trans HK)
  refine⟨by simp,.inl ⟨_,_,rfl,bi2 hK2,?_⟩⟩;have hb2:Below w w ((W.setCell (aE w) (aF)).setCell (aG w) (.bool false)):=(HB.setCell (dU _) _).setCell (by show(aU w);omega) _;have B1:jR ((W.setCell (aE w) (aF)).setCell (aG w) (.bool false)) (w.heap.size+1) 9 #[aF]:=(HY.kY 0 _).far (by show w.heap.size+1≠w.heap.size+1+1;omega) _;have B2:jR ((W.setCell (aE w) (aF)).setCell (aG w) (.bool false)) (aN w) 4 #[.bool false]:=(O5.far (by show w.heap.size+1+1≠w.heap.size+1;omega) _).kY 0 _;generalize(W.setCell (aE w) (aF)).setCell (aG w) (.bool false)=W4 at*
  have hd1:w.heap.size+1≠D:=by omega
  have hd2:w.heap.size+1+1≠D:=by omega
  have hbK:=bj6 (w:=w) aa W4 D _ cJ (by omega) hK2 rfl rfl;have q1:(W4.putObj D cJ).cell? (aE w)=some (aF):=(co (dx (by first|exact hd1|exact hd1.symm|exact hd2|exact hd2.symm))).trans B1.one;have q2:(W4.putObj D cJ).cell? (aG w)=some (.bool false):=(co (dx (by first|exact hd1|exact hd1.symm|exact hd2|exact hd2.symm))).trans B2.one;exact⟨.tuple #[aF,.bool false],by simp[results,Tryz.results225,go_sem,q1,q2],by rw[HE],hb2.trans hbK⟩
 rintro D c' pre W hD hpre⟨rfl,hY,hY2,hall,hb⟩ hK
 have HE:Hid (k8 l n=((k8 (m_ l pre) n).1,true)):=by
  show _=_;obtain⟨t,ht⟩:=Gu HZ hpre;have:k8 l n=k8 (m_ l pre) n:=by
   conv=>lhs;rw[ht]
   exact Od hall t
  rw[this];exact Prod.ext rfl hall
 have y0:=hY.one
 have y1:=hY2.one
 clear hall
 refine bi4.2 ?_
 go_wp2_with fail
 try rw[cf]
 refine⟨by simp,.inl ⟨_,_,rfl,bi2 hK,?_⟩⟩
 have hd1:w.heap.size+1≠D:=by omega
 have hd2:w.heap.size+1+1≠D:=by omega
 have hbK:=bj6 (w:=w) aa W D _ cJ (by omega) hK rfl rfl
 have q1:(W.putObj D cJ).cell? (aE w)=_:=(co (dx (by first|exact hd1|exact hd1.symm|exact hd2|exact hd2.symm))).trans y0
 have q2:(W.putObj D cJ).cell? (aG w)=some (.bool true):=(co (dx (by first|exact hd1|exact hd1.symm|exact hd2|exact hd2.symm))).trans y1
 exact⟨.tuple #[jL (k8 (m_ l pre) n).1,.bool true],by simp[results,Tryz.results225,go_sem,q1,q2],by rw[HE],hb.trans hbK⟩
theorem get_any(A:Option jG)(l:List kI)(cap:Nat)(n:ByteArray)(h6:l.length≤4294967296)(w:jC)(hS:Lb w w A l):
 jE Tryz.prog 225 #[jN A l cap,jL n] w fun e w'=>e=.returned (.tuple #[jL (k8 l n).1,.bool (k8 l n).2])∧Below w w w':=jI.1 (XL A l cap n h6 w hS)
end
section
attribute [local go_sem] db
end
inductive Sg where
 |any
 |one
 |that (c:Nat)
 deriving DecidableEq
def stepS(s:List Sg×Bool)(d:Nat×Nat):List Sg×Bool:=
 if s.2=true then(s.1++[.that d.1],false)
 else if d.1=42 then(s.1++[.any],false)
 else if d.1=63 then(s.1++[.one],false)
 else if d.1=126 then(s.1,true)
 else(s.1++[.that d.1],false)
def BT(s:List Sg×Bool)(ds:List (Nat×Nat)):List Sg×Bool:=ds.foldl stepS s
def mu(p:List UInt8):Option (List Sg):=
 if mP p=true then(if(BT ([],false) (cp p)).2=true then none else some (BT ([],false) (cp p)).1)else none
theorem PI(s:List Sg×Bool)(ds:List (Nat×Nat))(d:Nat×Nat):BT s (ds++[d])=stepS (BT s ds) d:=by simp[BT]
theorem DW:∀(ds:List (Nat×Nat))(s:List Sg×Bool),(BT s ds).1.length≤s.1.length+ds.length
 |[],s=>by simp[BT]
 |d::ds,s=>by
  have h:=DW ds (stepS s d);have h2:(stepS s d).1.length≤s.1.length+1:=by unfold stepS;(repeat' split)<;>simp
  show(BT (stepS s d) ds).1.length≤_;simp only[c_];omega
def Hk:Sg→Nat→Bool
 |.any,_=>false
 |.one,_=>true
 |.that c,d=>c==d
inductive Mt:List Sg→List Nat→Prop where
 |nil:Mt [] []
 |any (l:List Sg) (u v:List Nat):Mt l v→Mt (.any::l) (u++v)
 |for_ (s:Sg) (l:List Sg) (c:Nat) (v:List Nat):Hk s c=true→Mt l v→Mt (s::l) (c::v)
variable{a b:List Sg}{v:List Nat}
theorem Mt.append{u:List Nat}(h:Mt a u)(k:Mt b v):Mt (a++b) (u++v):=by
 induction h with
 |nil=>exact k
 |any l x y _ ih=>rw[eH];exact .any _ _ _ ih
 |for_ s l c y h _ ih=>exact .for_ _ _ _ _ h ih
theorem Mt.parts:∀{v:List Nat},Mt (a++b) v→∃x y,v=x++y∧Mt a x∧Mt b y:=by
 induction a with
 |nil=>intro v h;exact⟨[],v,rfl,.nil,h⟩
 |cons s a ih=>
  intro v h
  cases h with
  |any _ u w h=>
   obtain⟨x,y,rfl,h1,h2⟩:=ih h;exact⟨u++x,y,by rw[eH],.any _ _ _ h1,h2⟩
  |for_ _ _ c w hc h=>
   obtain⟨x,y,rfl,h1,h2⟩:=ih h;exact⟨c::x,y,rfl,.for_ _ _ _ _ hc h1,h2⟩
theorem Mt.LX:Mt [] v↔v=[]:=⟨fun h=>by cases h;rfl,fun h=>h▸.nil⟩
theorem Mt.star(v:List Nat):Mt [.any] v:=by have:=Mt.any [] v [] .nil;rwa[eB]at this
theorem Mt.LV{s:Sg}(hs:s≠.any):Mt [s] v↔∃c,v=[c]∧Hk s c=true:=by
 constructor
 ·intro h
  cases h with
  |any=>exact absurd rfl hs
  |for_ _ _ c w hc h=>rw[Mt.LX]at h;subst h;exact⟨c,rfl,hc⟩
 rintro⟨c,rfl,h⟩;exact .for_ _ _ _ _ h .nil
def tk(l:List Sg)(j:Nat):List Sg:=if l[j]? =some .any then l.take (j+1)else l.take j
def Pl(l:List Sg)(v:List Nat)(j:Nat):Prop:=j≤l.length∧Mt (tk l j) v
variable{l:List Sg}
theorem Pl.end_:Pl l v l.length↔Mt l v:=by
 unfold Pl tk;rw[fS aa,if_neg lV,dP];exact⟨fun h=>h.2,fun h=>⟨ay _,h⟩⟩
def Cl(l:List Sg)(k j:Nat):Prop:=k≤j∧j≤l.length∧∀i,k≤i→i<j→l[i]? =some .any
variable{k:Nat}
theorem Cl.self(h:k≤l.length):Cl l k k:=⟨ay _,h,fun i h1 h2=>jS⟩
theorem take_any{i:Nat}(h:l[i]? =some .any):l.take (i+1)=l.take i++[.any]:=by
 have hi:i<l.length:=by
  rcases fB i l.length with h1|h1
  ·exact h1
  rw[fS h1]at h;cases h
 rw[aj hi];rw[an hi]at h;rw[Option.some.inj h]
theorem Mt.IH{w:List Nat}(h:Mt (a++[.any]) v):Mt (a++[.any]) (v++w):=by
 obtain⟨x,y,rfl,h1,h2⟩:=h.parts;rw[eH];exact h1.append (Mt.star _)
theorem Mt.UZ{l:List Sg}{v:List Nat}{k:Nat}(h:Mt (l.take k) v):∀(n:Nat),(∀i,k≤i→i<k+n→l[i]? =some .any)→Mt (l.take (k+n)) v
 |0,_=>h
 |n+1,ha=>by
  have ih:=Mt.UZ h n fun i h1 h2=>ha i h1 jS;rw[←gW,take_any (ha (k+n) jS jS)];have:=ih.append (Mt.star []);rwa[eB]at this
variable{j:Nat}
theorem Mt.Pj(h:Mt (l.take j) v):Mt (tk l j) v:=by
 unfold tk;split
 ·next e=>
  rw[take_any e];have:=h.append (Mt.star []);rwa[eB]at this
 exact h
theorem Pl.start:Pl l [] j↔Cl l 0 j:=by
 constructor
 ·rintro⟨hj,h⟩;refine⟨be _,hj,fun i _ hi=>?_⟩;have hk:∀a:List Sg,Mt a []→∀s∈a,s=.any:=by
   intro a h;generalize he:([]:List Nat)=v at h;induction h with
   |nil=>intro s hs;cases hs
   |any l u v h ih=>
    have e2:=(iM.1 he.symm).2;intro s hs;rcases cw.1 hs with e|e
    ·exact e
    exact ih e2.symm s e
   |for_=>cases he
  have hl:i<l.length:=jS;have:=hk _ h l[i] (by
   unfold tk;split
   ·exact iy.2 ⟨i,jS,rfl⟩
   exact iy.2 ⟨i,jS,rfl⟩)
  rw[an hl,this]
 rintro⟨_,hj,h⟩;refine⟨hj,Mt.Pj ?_⟩;have:=Mt.UZ (l:=l) (v:=[]) (k:=0) (by rw[fO];exact .nil) j fun i h1 h2=>h i h1 jS;rwa[au]at this
def From(l:List Sg)(c at_ j:Nat):Prop:=
 (l[at_]? =some .any∧Cl l at_ j)∨∃s,l[at_]? =some s∧s≠.any∧Hk s c=true∧Cl l (at_+1) j
theorem Pk(h:¬l[j]? =some .any):tk l j=l.take j:=if_neg h
theorem Je(h:l[j]? =some .any):tk l j=l.take j++[.any]:=by unfold tk;rw[if_pos h,take_any h]
theorem RA{i:Nat}{s:Sg}(h:l[i]? =some s):∃hi:i<l.length,l[i]=s:=by
 obtain⟨hi,e⟩:=ci.1 h;exact⟨hi,e⟩
theorem Mt.back{l:List Sg}{v:List Nat}{c:Nat}:∀(j:Nat),j≤l.length→Mt (l.take j) (v++[c])→
 ∃k,k<j∧(∀i,k<i→i<j→l[i]? =some .any)∧((l[k]? =some .any∧Mt (l.take (k+1)) v)∨∃s,l[k]? =some s∧s≠.any∧Hk s c=true∧Mt (l.take k) v)
 |0,_,h=>by
  rw[fO,Mt.LX]at h;exact absurd h lV
 |j+1,hj,h=>by
  have hl:j<l.length:=jS;rw[aj hl]at h;obtain⟨x,y,e,h1,h2⟩:=h.parts;by_cases ha:l[j]=.any
  ·have ea:l[j]? =some .any:=by rw[an hl,ha]
   rcases List.eq_nil_or_concat y with rfl|⟨y',b,rfl⟩
   ·rw[eB]at e;subst e;obtain⟨k,k1,k2,k3⟩:=Mt.back j jS h1;refine⟨k,jS,fun i h1 h2=>?_,k3⟩;by_cases hij:i=j
    ·rw[hij];exact ea
    exact k2 i h1 jS
   rw[List.concat_eq_append,←eH]at e;obtain⟨e1,_⟩:=List.append_inj' e rfl;refine⟨j,jS,fun i h1 h2=>jS,.inl ⟨ea,?_⟩⟩;rw[take_any ea,e1];exact h1.append (Mt.star _)
  rw[Mt.LV ha]at h2;obtain⟨d,rfl,hf⟩:=h2;obtain⟨e1,e2⟩:=List.append_inj' e rfl;obtain rfl:c=d:=by simpa using e2
  exact⟨j,jS,fun i h1 h2=>jS,.inr ⟨l[j],an hl,ha,hf,by rw[e1];exact h1⟩⟩
variable{c:Nat}
theorem Pl.next:Pl l (v++[c]) j↔∃at_,Pl l v at_∧From l c at_ j:=by
 constructor
 ·rintro⟨hj,h⟩;obtain⟨m,hm,hm2,N1,h⟩:∃m,m≤l.length∧(m=j∨(m=j+1∧l[j]? =some .any))∧j≤m∧Mt (l.take m) (v++[c]):=by
   unfold tk at h;split at h
   ·next e=>obtain⟨hl,_⟩:=RA e;exact⟨j+1,jS,.inr ⟨rfl,e⟩,jS,h⟩
   exact⟨j,hj,.inl rfl,ay _,h⟩
  obtain⟨k,k1,k2,k3⟩:=Mt.back m hm h;rcases k3 with⟨ea,hk⟩|⟨s,es,hs,hf,hk⟩
  ·refine⟨k,⟨jS,by rw[Je ea,←take_any ea];exact hk⟩,.inl ⟨ea,jS,hj,fun i h1 h2=>?_⟩⟩;by_cases e:i=k
   ·rw[e];exact ea
   exact k2 i jS jS
  have hkj:k≠j:=by
   rcases hm2 with e|⟨e,ea⟩
   ·omega
   rintro rfl;rw[ea]at es;exact hs (Option.some.inj es).symm
  refine⟨k,⟨jS,?_⟩,.inr ⟨s,es,hs,hf,jS,hj,fun i h1 h2=>k2 i jS jS⟩⟩;rw[Pk (by rw[es];exact fun e=>hs (Option.some.inj e))];exact hk
 rintro⟨k,⟨hk,h⟩,⟨ea,k1,k2,k3⟩|⟨s,es,hs,hf,k1,k2,k3⟩⟩
 ·refine⟨k2,?_⟩;rw[Je ea]at h;have h2:Mt (l.take (k+1)) (v++[c]):=by rw[take_any ea];exact h.IH
  by_cases e:k=j
  ·subst e;rw[Je ea];exact h.IH
  have h3:=Mt.UZ h2 (j-(k+1)) fun i h1 h2=>k3 i jS jS;rw[show k+1+(j-(k+1))=j by omega]at h3;exact h3.Pj
 refine⟨k2,?_⟩;obtain⟨hl,e1⟩:=RA es;rw[Pk (by rw[es];exact fun e=>hs (Option.some.inj e))]at h;have h2:Mt (l.take (k+1)) (v++[c]):=by
  rw[aj hl,e1];exact h.append ((Mt.LV hs).2 ⟨c,rfl,hf⟩)
 have h3:=Mt.UZ h2 (j-(k+1)) fun i h1 h2=>k3 i jS jS;rw[show k+1+(j-(k+1))=j by omega]at h3;exact h3.Pj
theorem Pl.dead{l:List Sg}:∀(w v:List Nat),(∀j,¬Pl l v j)→∀j,¬Pl l (v++w) j
 |[],v,h=>by rw[eB];exact h
 |c::w,v,h=>by
  have h2:=Pl.dead w (v++[c]) fun j hj=>by
   obtain⟨k,hk,_⟩:=Pl.next.1 hj;exact h k hk
  rwa[eH]at h2
def rn(v:List UInt8):List Nat:=(cp v).map (·.1)
noncomputable def qB(p v:List UInt8):Bool:=@decide (∃l,mu p=some l∧oJ v=true∧Mt l (rn v)) (Classical.propDecidable _)
variable{p v:List UInt8}
theorem xP:qB p v=true↔∃l,mu p=some l∧oJ v=true∧Mt l (rn v):=by
 unfold qB;rw[@decide_eq_true_iff _ (Classical.propDecidable _)]
theorem vE(hp:mu p=some l)(hv:oJ v=true):qB p v=true↔Mt l (rn v):=by
 rw[xP];constructor
 ·rintro⟨m,h1,_,h2⟩;rw[hp]at h1;cases h1;exact h2
 exact fun h=>⟨l,hp,hv,h⟩
theorem qF9(h:mu p=some a):mP p=true∧BT ([],false) (cp p)=(a,false):=by
 unfold mu at h;split at h
 ·next hv=>
  split at h
  ·cases h
  next hq=>exact⟨hv,Prod.ext (Option.some.inj h) (by simpa using hq)⟩
 cases h
theorem zK(h:mP p=true):(cp p).length≤24:=by
 unfold mP at h;simp only[ba,decide_eq_true_eq]at h;exact h.1.2
def kX:List UInt8→List (List UInt8)
 |[]=>[[]]
 |b::t=>if b=59 then[]::kX t else(b::(kX t).headD [])::(kX t).tail
theorem CA:∀l:List UInt8,kX l≠[]
 |[]=>by simp[kX]
 |b::t=>by unfold kX;split<;>simp
theorem tj:∀{a:List UInt8},59∉a→kX a=[a]
 |[],_=>rfl
 |b::t,h=>by
  have h1:b≠59:=fun e=>h (by rw[e];exact di);have h2:=tj (a:=t) fun e=>h (dS _ e);unfold kX;rw[if_neg h1,h2];rfl
theorem uP:∀(a b:List UInt8),kX (a++59::b)=kX a++kX b
 |[],b=>by simp[kX]
 |c::a,b=>by
  have ih:=uP a b;rw[dj];have e:∀t,kX (c::t)=if c=59 then[]::kX t else(c::(kX t).headD [])::(kX t).tail:=fun t=>rfl
  rw[e,e,ih];split
  ·rfl
  cases e:kX a with
  |nil=>exact absurd e (CA a)
  |cons x r=>rfl
theorem FN{a:List UInt8}(h:59∉a)(b:List UInt8):kX (a++59::b)=a::kX b:=by
 rw[uP,tj h];rfl
def bt(l:List UInt8):ByteArray:=⟨l.toArray⟩
theorem vQ(l:List UInt8):tx (bt l)=l:=rfl
def nf(s:List UInt8):kI:=(bt (s.take (s.idxOf 61)),bt (s.drop (s.idxOf 61+1)))
def YU(acc:List kI)(s:List UInt8):Bool:=
 decide (61∈s)&&(decide (acc.length≠4)&&(nameB (tx (nf s).1)&&(!(Ep (tx (nf s).1) (tx (pk acc)))&&(mu (tx (nf s).2)).isSome)))
def ow:List kI→List (List UInt8)→Option (List kI)
 |acc,[]=>some acc
 |acc,s::r=>if YU acc s=true then ow (acc++[nf s]) r else none
def lU(s:List UInt8):Option (List kI):=if s=[]then some []else ow [] (kX s)
theorem Ge:∀(ps:List (List UInt8))(acc L:List kI),ow acc ps=some L→L=acc++ps.map nf
 |[],acc,L,h=>by cases h;simp
 |s::r,acc,L,h=>by
  unfold ow at h;split at h
  ·have:=Ge r _ _ h;simpa using this
  cases h
theorem r6:∀(ps qs:List (List UInt8))(acc:List kI),ow acc (ps++qs)=(ow acc ps).bind fun a=>ow a qs
 |[],qs,acc=>rfl
 |s::r,qs,acc=>by
  rw[dj];have e:∀t,ow acc (s::t)=if YU acc s=true then ow (acc++[nf s]) t else none:=fun t=>rfl
  rw[e,e];split
  ·exact r6 r qs _
  rfl
variable{s:List UInt8}
theorem LP(hs:s≠[]){L:List kI}(h:lU s=some L):L=(kX s).map nf:=by
 unfold lU at h;rw[if_neg hs]at h;simpa using Ge _ _ _ h
noncomputable def allM(L set:List kI):Bool:=L.all fun t=>(k8 set t.1).2&&qB (tx t.2) (tx (k8 set t.1).1)
theorem yQ(L K set:List kI):allM (L++K) set=(allM L set&&allM K set):=gT
noncomputable def As(s:List UInt8)(set:List kI):Bool×Int:=
 match lU s with
 |none=>(false,50)
 |some L=>if setB set=true then(allM L set,0)else(false,50)
def LK:Sg→jD
 |.any=>.iface 342 (.agg #[])
 |.one=>.iface 343 (.agg #[])
 |.that c=>(lz 41 c)
theorem Dc(s:Sg)(w:jC):jE Tryz.prog 261 #[LK s] w fun e w'=>e=.returned (.bool (decide (s=.any)))∧Below w w w':=by
 cases s with
 |any=>
  have ha:∀w,(dd (.iface 342 (.agg #[])) 430 342 true).run Tryz.prog w=.ok (.tuple #[.agg #[],.bool true]) w:=fun w=>oo;show jE _ _ #[.iface 342 (.agg #[])] _ _;go_in;go_wp2;go_ret;exact⟨rfl,by first|exact jQ _|exact jP (jQ _) _⟩
 |one=>
  have ha:∀w,(dd (.iface 343 (.agg #[])) 430 342 true).run Tryz.prog w=.ok (.tuple #[.agg #[],.bool false]) w:=fun w=>oo;show jE _ _ #[.iface 343 (.agg #[])] _ _;go_in;go_wp2;go_ret;exact⟨rfl,by first|exact jQ _|exact jP (jQ _) _⟩
 |that c=>
  have ha:∀w,(dd (lz 41 c) 430 342 true).run Tryz.prog w=.ok (.tuple #[.agg #[],.bool false]) w:=fun w=>oo;show jE _ _ #[lz 41 c] _ _;go_in;go_wp2;go_ret;exact⟨rfl,by first|exact jQ _|exact jP (jQ _) _⟩
theorem NR(s:Sg)(hs:s≠.any)(d:Nat)(w:jC):jE Tryz.prog 262 #[LK s,.int .i32 (d:Int)] w fun e w'=>e=.returned (.bool (Hk s d))∧Below w w w':=by
 cases s with
 |any=>exact absurd rfl hs
 |one=>
  have ha:∀w,(dd (.iface 343 (.agg #[])) 430 343 true).run Tryz.prog w=.ok (.tuple #[.agg #[],.bool true]) w:=fun w=>oo;show jE _ _ #[.iface 343 (.agg #[]),_] _ _;go_in;go_wp2;go_ret;exact⟨rfl,jP (jQ _) _⟩
 |that c=>
  have ha:∀w,(dd (lz 41 c) 430 343 true).run Tryz.prog w=.ok (.tuple #[.agg #[],.bool false]) w:=fun w=>oo;have hb:∀w,(dd (lz 41 c) 430 340 false).run Tryz.prog w=.ok (.agg #[.int .i32 (c:Int)]) w:=fun w=>oo;have hf:∀w,(i_ 340 (.agg #[.int .i32 (c:Int)]) 0).run Tryz.prog w=.ok (.int .i32 (c:Int)) w:=fun w=>oo;have hc:((c:Int)==(d:Int))=(c==d):=by
   by_cases h:c=d
   ·subst h;simp
   rw[beq_eq_false_iff_ne.2 h,beq_eq_false_iff_ne.2 jS]
  show jE _ _ #[lz 41 c,_] _ _;go_in;go_wp2;go_ret;exact⟨rfl,jP (jQ _) _⟩
def ro(x:Nat):Lit×DataW Unit:=(.int .i64 (x:Int),.agg [])
def Sd(L:List Nat):DataW Unit:=.map (L.map ro)
theorem VS(a b:Int):(iK .i64 a).sameKey (.int .i64 b)=(a==b):=by
 simp only[Lit.sameKey,true_and];rfl
theorem PP(a b:Nat):(iK .i64 (a:Int)).sameKey (.int .i64 (b:Int))=(a==b):=by
 rw[VS];by_cases h:a=b
 ·subst h;simp
 rw[beq_eq_false_iff_ne.2 h,beq_eq_false_iff_ne.2 jS]
theorem has_Sd(L:List Nat)(x:Int):iL (Sd L) (.int .i64 x)=true↔∃j∈L,(j:Int)=x:=by
 show(L.map ro).any _=true↔_;rw[List.any_eq_true];constructor
 ·rintro⟨p,hp,h⟩;obtain⟨j,hj,rfl⟩:=dq.1 hp;refine⟨j,hj,?_⟩;have h:(iK .i64 (j:Int)).sameKey (.int .i64 x)=true:=h;rw[VS]at h;simpa using h
 rintro⟨j,hj,rfl⟩;exact⟨ro j,dq.2 ⟨j,hj,rfl⟩,by show(iK .i64 (j:Int)).sameKey _=true;rw[PP];simp⟩
def xy:List Nat→Nat→List Nat
 |[],k=>[k]
 |x::m,k=>if x<k then x::xy m k else if x=k then k::m else k::x::m
theorem tL:∀(L:List Nat)(k j:Nat),j∈xy L k↔j=k∨j∈L
 |[],k,j=>by simp[xy]
 |x::m,k,j=>by
  unfold xy;split
  ·rw[cw,tL m k j,cw];constructor
   ·rintro(h|h|h)
    ·exact .inr (.inl h)
    ·exact .inl h
    exact .inr (.inr h)
   rintro(h|h|h)
   ·exact .inr (.inl h)
   ·exact .inl h
   exact .inr (.inr h)
  split
  ·next e=>subst e;simp
  simp
theorem xw:∀{L:List Nat}(k:Nat),L.Pairwise (·< ·)→(xy L k).Pairwise (·< ·)
 |[],k,_=>List.pairwise_singleton _ _
 |x::m,k,h=>by
  obtain⟨h1,h2⟩:=b6.1 h;unfold xy;split
  ·next hx=>
   refine b6.2 ⟨fun y hy=>?_,xw k h2⟩;rcases(tL m k y).1 hy with rfl|hy
   ·exact hx
   exact h1 y hy
  split
  ·next e=>subst e;exact h
  next hx hne=>
  refine b6.2 ⟨fun y hy=>?_,h⟩;rcases cw.1 hy with rfl|hy
  ·omega
  have:=h1 y hy;omega
theorem tz:∀(L:List Nat)(a N:Nat),L.Pairwise (·< ·)→(∀j∈L,a≤j∧j≤N)→L.length≤N+1-a
 |[],a,N,_,_=>be _
 |x::m,a,N,h,hb=>by
  obtain⟨h1,h2⟩:=b6.1 h;have hx:=hb x di;have:=tz m (x+1) N h2 fun j hj=>⟨h1 j hj,(hb j (dS _ hj)).2⟩;rw[c_];omega
theorem uX:∀{m:List Nat},(∀x∈m,k<x)→fC (ro k) (m.map ro)=ro k::m.map ro
 |[],_=>rfl
 |x::m,h=>by
  have hx:=h x di;have:(ro k).1.before (ro x).1=true:=by simp[ro,Lit.before];omega
  simp[fC,this]
theorem UA(m:List Nat)(k:Nat):(m.map ro).filter (fun p=> !p.1.sameKey (.int .i64 (k:Int)))=(m.filter fun x=>x !=k).map ro:=by
 induction m with
 |nil=>rfl
 |cons x m ih=>
  simp only[df,eC,ih];have:(ro x).1.sameKey (.int .i64 (k:Int))=(x==k):=PP _ _;rw[this]
  cases h:x==k<;>simp[bne,h]
theorem wJ{m:List Nat}(h:∀x∈m,x≠k):(m.filter fun x=>x !=k)=m:=eY.2 fun x hx=>by simp[h x hx]
theorem yG(k:Nat):∀{m:List Nat},m.Pairwise (·< ·)→fC (ro k) ((m.filter fun x=>x !=k).map ro)=(xy m k).map ro
 |[],_=>rfl
 |x::m,h=>by
  obtain⟨h1,h2⟩:=b6.1 h;rcases Nat.lt_trichotomy x k with hlt|heq|hgt
  ·have d:(x !=k)=true:=mO;have b:(ro k).1.before (ro x).1=false:=by simp[ro,Lit.before];omega
   rw[eC,d,if_pos rfl,df,fC,b,if_neg lV,yG k h2,xy,if_pos hlt,df]
  ·have d:(x !=k)=false:=by simp[heq]
   have g:∀y∈m,k<y:=fun y hy=>by have:=h1 y hy;omega
   rw[eC,d,if_neg lV,wJ (fun y hy=>by have:=g y hy;omega),uX g,xy,if_neg jS,if_pos heq,df]
  have g:∀y∈x::m,k<y:=fun y hy=>by
   rcases cw.1 hy with rfl|h'
   ·exact hgt
   have:=h1 y h';omega
  rw[wJ (fun y hy=>by have:=g y hy;omega),uX g,xy,if_neg jS,if_neg jS,df,df,df]
variable{L:List Nat}
theorem Yj(h:L.Pairwise (·< ·))(k:Nat):(Sd L).put (.int .i64 (k:Int)) (.agg [])=Sd (xy L k):=by
 show jy (fC (ro k) ((L.map ro).filter fun p=> !p.1.sameKey (.int .i64 (k:Int))))=jy _;rw[UA,yG k h]
def Sm(w:jC)(N B:Nat)(L:List Nat):Prop:=w.ownsMap Tryz.prog 3 (unitElem (H:=Unit)) B (N+1) (Sd L)∧L.Pairwise (·< ·)∧∀j∈L,j≤N
theorem Q6:Maps.Keyed Tryz.prog 3:=Maps.int_keyed Tryz.underlying3
variable{N:Nat}
theorem wfP(hk:k≤N)(hN:N≤100000):(iK .i64 (k:Int)).wf=true:=WalkArith.wf_i64 (by constructor<;>omega)
theorem Sm.made(w:jC)(N:Nat):Sm (w.alloc (.map #[] 0)) N w []:=
 ⟨World.ownsMap.mono (World.ownsMap_made w Tryz.prog 3 (unitElem (H:=Unit))) (be _),List.Pairwise.nil,fun j hj=>by cases hj⟩
variable{w:jC}{B n:Nat}
theorem Nq{m:Nat}{D:DataW Unit}(h:w.ownsMap Tryz.prog 3 (unitElem (H:=Unit)) B n D)(hm:gZ D≤m):w.ownsMap Tryz.prog 3 (unitElem (H:=Unit)) B m D:=by
 obtain⟨es,clock,hb,F,hs,rfl⟩:=h;exact⟨es,clock,hb,F,by simpa[gZ,length_sorted]using hm,rfl⟩
theorem Sm.update{w:jC}{N B k:Nat}{L:List Nat}(h:Sm w N B L)(hN:N≤100000)(hk:k≤N):
 ∃w',(fG 401 (.map (some B)) (aJ k) (.agg #[])).run Tryz.prog w=.ok () w'∧Sm w' N B (xy L k)∧(bY w w' B):=by
 obtain⟨h1,h2,h3⟩:=h
 have hm:N+1<maxLen:=O0
 obtain⟨w',e1,e2,e3⟩:=World.ownsMap.update h1 Q6 Tryz.underlying401 hm (f_ Tryz.underlying3 (wfP hk hN)) unitElem_mk
 rw[Yj h2]at e2
 have hb:∀j∈xy L k,j≤N:=fun j hj=>by
  rcases(tL L k j).1 hj with rfl|hj
  ·exact hk
  exact h3 j hj
 have hl:=tz _ 0 N (xw k h2) fun j hj=>⟨be _,hb j hj⟩
 exact⟨w',e1,⟨Nq e2 (by simpa[Sd,gZ]using hl),xw k h2,hb⟩,e3⟩
theorem Sm.lt{w:jC}{N B:Nat}{L:List Nat}(h:Sm w N B L):B<w.heap.size:=World.ownsMap.lt h.1
variable{w':jC}
theorem Sm.keep{row:Option Nat}(h:Sm w N B L)(hg:w.grownBy w' row)(hne:some B≠row):Sm w' N B L:=⟨World.ownsMap.kept h.1 hg hne,h.2⟩
theorem Sm.later(h:Sm w N B L)(hb:Below w w w'):Sm w' N B L:=h.keep (kH hb none) lV
def Ta(w:jC)(B:Nat)(A:Option jG)(l:List Sg):Prop:=Rd w B A (l.map LK)
theorem Ta.keep{w w':jC}{B X:Nat}{A:Option jG}{l:List Sg}(h:Ta w B A l)(hB:B≤w.heap.size)(hg:(bY w w' X))(hx:B≤X):Ta w' B A l:=
 Rd.keep h fun b o hb=>hg.cell_far ⟨b,o,none⟩ (by show b<_;omega) mO
theorem Ta.at_{w:jC}{B k:Nat}{A:Option jG}{l:List Sg}(h:Ta w B A l)(hk:k<l.length):∃b off,A=some ⟨b,off,none⟩∧b<B∧w.cell? ⟨b,off+k,none⟩=some (LK l[k]):=by
 obtain⟨b,off,e,hb,hc⟩:=Rd.at_ h qlm;exact⟨b,off,e,hb,hc k _ (by rw[eD,an hk];rfl)⟩
theorem MA{x:Nat}(hx:x<l.length)(ha:l[x]=.any)(h:Cl l k x):(Cl l k j∧j≤x+1)↔(j=x+1∨(Cl l k j∧j≤x)):=by
 constructor
 ·rintro⟨h1,h2⟩;by_cases e:j=x+1
  ·exact .inl e
  exact .inr ⟨h1,jS⟩
 rintro(rfl|⟨h1,h2⟩)
 ·refine⟨⟨by have:=h.1;omega,hx,fun i i1 i2=>?_⟩,ay _⟩;by_cases e:i=x
  ·rw[e,an hx,ha]
  exact h.2.2 i i1 jS
 exact⟨h1,jS⟩
theorem Sf{x:Nat}(h:Cl l k x)(hn:¬l[x]? =some .any):(Cl l k j∧j≤x)↔Cl l k j:=
 ⟨fun h=>h.1,fun h1=>⟨h1,Nat.le_of_not_lt fun hlt=>hn (h1.2.2 x h.1 hlt)⟩⟩
theorem put_any(A:Option jG)(l:List Sg)(cap k B:Nat)(L:List Nat)(hN:l.length≤100000)(hk:k≤l.length)(w:jC)(hR:Ta w B A l)(hM:Sm w l.length B L):
 jE Tryz.prog 251 #[.map (some B),.slice A l.length cap,aJ k] w fun e w'=>e=.returned (.tuple #[])∧(∃L',Sm w' l.length B L'∧∀j,j∈L'↔j∈L∨Cl l k j)∧(bY w w' B):=by
 have HR:=ai hR
 obtain⟨w1,hrun,M1,G1⟩:=hM.update hN hk
 have DG:=ai M1
 have DH:=ai G1
 have hB:=hM.lt
 have HR1:=ai (hR.keep jS G1 (ay _))
 have HC:=ai (Cl.self (l:=l) hk)
 go_in
 go_wp2_with fail
 go_loopw[2] (fun i wr=>∃x:Nat,i=(aJ x)∧Hid (Cl l k x)∧Hid (∃L',Sm wr l.length B L'∧∀j,j∈L'↔j∈L∨(Cl l k j∧j≤x))∧Hid (bY w wr B)) (fun i _=>l.length-(av i).toNat)
 case atStart=>
  refine⟨k,rfl,HC,⟨_,DG.out,fun j=>?_⟩,DH⟩;rw[tL];constructor
  ·rintro(rfl|h)
   ·exact .inr ⟨HC.out,ay _⟩
   exact .inl h
  rintro(h|⟨h,h2⟩)
  ·exact .inr h
  exact .inl (Nat.le_antisymm h2 h.1)
 obtain⟨x,rfl,HX,HL,HG⟩:=hrel
 obtain⟨L',hM',hL'⟩:=HL.out
 have hRr:=HR.out.keep jS HG.out (ay _)
 by_cases h1:x<l.length
 ·have d1:=decide_eq_true jS;obtain⟨b,off,rfl,hb,hc⟩:=hRr.at_ h1;have hi1:(0:Int)≤(x:Int):=jS;have hi2:(x:Int)<(l.length:Int):=jS;have QA:=ai (fun w=>Dc l[x] w);by_cases ha:l[x]=.any
  ·have yT:=ah ((((MA h1 ha HX.out).2 (.inl rfl)).1));have HST:=ai (fun j=>MA (j:=j) h1 ha HX.out);rw[decide_eq_true ha]at QA;have Zp:=ai hM';have HLr:=ai hL';generalize LK l[x]=sv at*
   go_wp2_with fail;refine(QA.out _).mono ?_;rintro e w2⟨rfl,hb2⟩;have HB2:=ai hb2;obtain⟨w3,hrun,M3,G3⟩:=(Zp.out.later hb2).update hN (k:=x+1) jS;have Fk:=ai M3;have O9:=ai G3;clear hb2 M3 G3 Zp;have hpl:(x:Int)+1=((x+1:Nat):Int):=by omega
   rw[←hpl]at hrun;clear hpl;go_wp2_with fail;go_roundw
   case rel=>
    refine⟨x+1,CJ,yT,⟨_,Fk.out,fun j=>?_⟩,jW (jW HG.out (kH HB2.out _)) O9.out⟩;rw[tL,HLr.out,HST.out];constructor
    ·rintro(h|h|h)
     ·exact .inr (.inl h)
     ·exact .inl h
     exact .inr (.inr h)
    rintro(h|h|h)
    ·exact .inr (.inl h)
    ·exact .inl h
    exact .inr (.inr h)
   exact No
  rw[decide_eq_false ha]at QA;have HE:=ai (fun j=>Sf (j:=j) HX.out (by rw[an h1];exact fun e=>ha (Option.some.inj e)));have Zp:=ai hM';have HLr:=ai hL';generalize LK l[x]=sv at*
  go_wp2_with fail;refine(QA.out _).mono ?_;rintro e w2⟨rfl,hb2⟩;have HB2:=ai hb2;go_wp2;refine bl6 (v:=.tuple #[]) (by simp[results,Tryz.results251,go_sem]) rfl ⟨rfl,⟨_,Zp.out.later HB2.out,fun j=>?_⟩,jW HG.out (kH HB2.out _)⟩;rw[HLr.out,HE.out]
 have d1:=decide_eq_false jS
 have HE:=ai (fun j=>Sf (j:=j) HX.out (by rw[fS jS];simp))
 have Zp:=ai hM'
 have HLr:=ai hL'
 go_wp2
 refine bl6 (v:=.tuple #[]) (by simp[results,Tryz.results251,go_sem]) rfl ⟨rfl,⟨_,Zp.out,fun j=>?_⟩,HG.out⟩
 rw[HLr.out,HE.out]
variable{a:Nat}
theorem RI(h:l[a]? =some .any):From l c a j↔Cl l a j:=by
 constructor
 ·rintro(⟨_,h2⟩|⟨s,h2,h3,_⟩)
  ·exact h2
  rw[h]at h2;exact absurd (Option.some.inj h2).symm h3
 exact fun h2=>.inl ⟨h,h2⟩
theorem RG{s:Sg}(h:l[a]? =some s)(hs:s≠.any):From l c a j↔(Hk s c=true∧Cl l (a+1) j):=by
 constructor
 ·rintro(⟨h2,_⟩|⟨t,h2,h3,h4,h5⟩)
  ·rw[h]at h2;exact absurd (Option.some.inj h2) hs
  rw[h]at h2;cases h2;exact⟨h4,h5⟩
 rintro⟨h1,h2⟩;exact .inr ⟨s,h,hs,h1,h2⟩
theorem RH(h:l[a]? =none):¬From l c a j:=by
 rintro(⟨h2,_⟩|⟨s,h2,_⟩)<;>rw[h]at h2<;>cases h2
theorem below_grown{X:Nat}{a:jC}(h:Below B a w)(hg:(bY w w' X))(hB:B≤X)(hw:B≤w.heap.size):Below B a w':=
 ⟨hg.os.trans h.os,hg.tape.trans h.tape,hg.output.trans h.output,by have:=h.size;have:=hg.size;omega,fun i hi=>(hg.block i jS mO).trans (h.block i hi)⟩
def ML(l:List Sg)(c:Nat)(L L':List Nat)(left:Lit→Bool):Prop:=∀j,j∈L'↔∃a∈L,left (.int .i64 (a:Int))=false∧From l c a j
theorem Ft(l:List Sg)(c:Nat)(L:List Nat):ML l c L [] (iL (Sd L)):=fun j=>by
 constructor
 ·intro h;cases h
 rintro⟨a,ha,h,_⟩;rw[(has_Sd L _).2 ⟨a,ha,rfl⟩]at h;cases h
variable{left:Lit→Bool}
theorem left_step{b:Nat}:(left (.int .i64 (b:Int))&& !(iK .i64 (b:Int)).sameKey (.int .i64 (a:Int)))=false↔left (.int .i64 (b:Int))=false∨b=a:=by
 rw[PP];cases left (.int .i64 (b:Int))<;>simp
theorem I8{L' MN:List Nat}(ha:a∈L)(h:ML l c L L' left)(h2:∀j,j∈MN↔j∈L'∨From l c a j):
 ML l c L MN fun z=>left z&& !z.sameKey (.int .i64 (a:Int)):=fun j=>by
 rw[h2,h]
 constructor
 ·rintro(⟨b,hb,h1,h3⟩|h3)
  ·exact⟨b,hb,left_step.2 (.inl h1),h3⟩
  exact⟨a,ha,left_step.2 (.inr rfl),h3⟩
 rintro⟨b,hb,h1,h3⟩
 rcases left_step.1 h1 with h1|rfl
 ·exact .inl ⟨b,hb,h1,h3⟩
 exact .inr h3
def BhI(w:jC)(l:List Sg)(c:Nat)(B r Bn:Nat)(L:List Nat)(wr:jC):Prop:=
 ∃(left:Lit→Bool)(cnt:Nat),wr.ranges Tryz.prog 3 (unitElem (H:=Unit)) B r (l.length+1) (Sd L) left cnt∧(∀kl,left kl=true→iL (Sd L) kl=true)∧
  (∃L',Sm wr l.length Bn L'∧ML l c L L' left)∧Below w w wr
theorem Lj(A:Option jG)(l:List Sg)(cap c B:Nat)(L:List Nat)(hN:l.length≤100000)(w:jC)(hR:Ta w B A l)(hM:Sm w l.length B L):
 jE Tryz.prog 252 #[.map (some B),jN A l cap,.int .i32 (c:Int)] w fun e w'=>∃Bn L',e=.returned (.map (some Bn))∧w.heap.size≤Bn∧Sm w' l.length Bn L'∧(∀j,j∈L'↔∃a∈L,From l c a j)∧Below w w w':=by
 have HR:=ah hR
 have hB:=hM.lt
 have HL:=ah hM.2.2
 have M0:=(hM.later (jP (jQ w) (.map #[] 0))).1
 have N0:=ah (Sm.made w l.length)
 have HB0:=ah (jP (jQ w) (.map #[] 0))
 have hmk:(Instr.makeMap 401 none).run Tryz.prog w=.ok (.map (some w)) (w.alloc (.map #[] 0)):=oo
 go_in
 go_wp2_with(first
  |(at_range;refine wpList_range_own _ rfl _ 401 rfl 3 341 Q6 Tryz.underlying401 _ B (l.length+1) _ rfl M0 ?_;intro w1 hrg0 hg0 hs0)
  |go_in)
 have HI:Hid (BhI w l c B (w.heap.size+1) w L w1):=by
  refine⟨iL (Sd L),gZ (Sd L),?_,fun kl h=>h,⟨[],N0.keep hg0 lV,Ft l c L⟩,?_⟩
  ·have e:(w.alloc (.map #[] 0)).heap.size=w.heap.size+1:=lV;rw[e]at hrg0;exact hrg0
  exact below_grown HB0 (hg0.but (some (w.heap.size+1))) jS lV
 have e:(w.alloc (.map #[] 0)).heap.size=w.heap.size+1:=lV
 rw[e]
 go_frame
 go_loopw[8] (fun _ wr=>BhI w l c B (w.heap.size+1) w L wr) (fun _ wr=>wr.rangeLeft B (w.heap.size+1))
 case atStart=>exact HI
 obtain⟨left,cnt,hrg,hle,⟨L',hM',hW⟩,hB'⟩:=hrel
 have HLe:=ah hle
 have HM:=ah hM'
 have HW:=ah hW
 have HB:=ah hB'
 go_wp2_with(first
  |(at_next;refine wpList_next_ranges _ rfl _ rfl 3 Q6 (unitElem (H:=Unit)) (br .i64) (fun _:Unit=>Value.agg #[]) (fun key kl h=>by obtain⟨x,e,_⟩:=Maps.keyOf_int_inv Tryz.underlying3 h;exact⟨x,e⟩) (fun v y h=>⟨(),(unitElem_inv h).1⟩) B _ _ _ _ _ rfl hrg ?_ ?_)
  |go_in)
 ·intro _ hl0;have HE:Hid (∀j,j∈L'↔∃a∈L,From l c a j):=fun j=>by
   rw[HW j];exact⟨fun⟨a,h1,_,h2⟩=>⟨a,h1,h2⟩,fun⟨a,h1,h2⟩=>⟨a,h1,hl0 _,h2⟩⟩
  go_wp2_with fail;go_ret;exact⟨_,L',rfl,ay _,HM,HE,HB⟩
 intro x _ kl y w1 cnt1 hkey hlk _ _ hrg1 hlt hg1 hs1 hen
 obtain⟨x',ex,rfl,hwx⟩:=Maps.keyOf_int_inv Tryz.underlying3 hkey
 cases ex
 obtain⟨a,ha,rfl⟩:=(has_Sd L x).1 (HLe _ hlk)
 have ak5:Hid (∀kl,(left kl&& !kl.sameKey (.int .i64 (a:Int)))=true→iL (Sd L) kl=true):=fun kl h=>HLe kl (Bool.and_eq_true_iff.1 h).1
 have haN:=HL a ha
 have HB1:=ah (below_grown HB hg1 (dU _) HB.size)
 have DG:=ah (HM.keep hg1 (by simp))
 have HR1:Hid (Ta w1 B A l):=Rd.below HR (HB1.mono (Nat.le_of_lt hB))
 have Fl:Hid (w1.rangeLeft B (w.heap.size+1)<wr.rangeLeft B (w.heap.size+1)):=by show _<_;rw[hrg1.left_eq,hrg.left_eq];exact hlt
 have HRG:=ah hrg1
 have ak6:=ah hrg1.left_eq
 have HS:Hid (∀MN W,w1.grownBy W (some w)→Sm W l.length w MN→(∀j,j∈MN↔j∈L'∨From l c a j)→BhI w l c B (w.heap.size+1) w L W∧W.rangeLeft B (w.heap.size+1)<wr.rangeLeft B (w.heap.size+1)):=fun MN W hg hm hj=>by
  have hk:=HRG.kept hg (by simp;omega) (by simp);refine⟨⟨_,_,hk,ak5,⟨MN,hm,I8 ha HW hj⟩,below_grown HB1 hg aa HB1.size⟩,?_⟩;rw[hk.left_eq,←ak6];exact Fl
 have hB2:B≤w.heap.size:=Nat.le_of_lt hB
 have aV4:w.heap.size<w1.heap.size:=DG.lt
 clear hkey hlk hrg hrg1 hlt hg1 hs1 ak5 HB1 Fl HRG ak6 HB HM HW HLe HR HL ha hwx
 by_cases hN1:a=l.length
 ·subst hN1;have d1:((l.length:Int)==(l.length:Int))=true:=by simp
  have HE:=HS L' w1 (World.grownBy.refl _ _) DG (fun j=>⟨.inl,fun h=>h.elim id fun h=>absurd h (RH (fS aa))⟩);have HF:=ah HE;clear HE HS DG HR1;go_wp2_with fail;go_roundw
  case rel=>exact HF.1
  exact HF.2
 have ha1:a<l.length:=by omega
 have d1:((a:Int)==(l.length:Int))=false:=by simp;omega
 obtain⟨b,off,rfl,hb,hc⟩:=HR1.at_ ha1
 have hi1:(0:Int)≤a:=by omega
 have hi2:(a:Int)<l.length:=by omega
 have hel:l[a]? =some l[a]:=an ha1
 have QA:=ah (fun w=>Dc l[a] w)
 have QP:Hid (∀W,Below w1 w1 W→∀k,k≤l.length→jE Tryz.prog 251 #[.map (some w),.slice (bH b off) l.length cap,jJ (k:Int)] W fun e w'=>e=.returned (.tuple #[])∧(∃MN,Sm w' l.length w MN∧∀j,j∈MN↔j∈L'∨Cl l k j)∧W.grownBy w' (some w)):=fun W hb k hk=>
  put_any _ l cap k w L' hN hk W ((Rd.below HR1 (hb.mono (by omega))).more hB2) (DG.later hb)
 by_cases hany:l[a]=.any
 ·have HE:Hid (∀j,From l c a j↔Cl l a j):=fun j=>RI (by rw[hel,hany]);rw[decide_eq_true hany]at QA;clear hel hany DG HR1 hN1;generalize LK l[a]=sv at*
  go_wp2_with fail;refine(QA _).mono ?_;rintro e w2⟨rfl,hb2⟩;have Zj:=ah (QP w2 hb2 a (Nat.le_of_lt ha1));have HB2:=ah hb2;clear QP hb2 QA;go_wp2_with fail;refine Zj.mono ?_;rintro e w3⟨rfl,⟨MN,hm,hj⟩,hg⟩;have HF:=ah (HS MN w3 (jW (kH HB2 _) hg) hm (fun j=>by rw[hj,HE]));clear hm hj hg Zj HB2 HS;go_wp2_with fail;go_roundw
  case rel=>exact HF.1
  exact HF.2
 have HE:Hid (∀j,From l c a j↔(Hk l[a] c=true∧Cl l (a+1) j)):=fun j=>RG hel hany
 have QF:=ah (fun w=>NR l[a] hany c w)
 rw[decide_eq_false hany]at QA
 clear hel hany HR1 hN1
 cases hf:Hk l[a] c with
 |true=>
  rw[hf]at QF HE;clear DG hf;generalize LK l[a]=sv at*
  go_wp2_with fail;refine(QA _).mono ?_;rintro e w2⟨rfl,hb2⟩;have HB2:=ah hb2;have hc2:=(hb2.cell (p:=⟨b,off+a,none⟩) (by show b<_;omega)).trans hc;clear hb2 QA;go_wp2_with fail;refine(QF _).mono ?_;rintro e w3⟨rfl,hb3⟩;have HB3:=ah (Below.two HB2 hb3);have Zj:=ah (QP w3 HB3 (a+1) ha1);have hpl:((a+1:Nat):Int)=(a:Int)+1:=by omega
  rw[hpl]at Zj;clear QP hb3 QF HB2 hpl;go_wp2_with fail;refine Zj.mono ?_;rintro e w4⟨rfl,⟨MN,hm,hj⟩,hg⟩;have HF:=ah (HS MN w4 (jW (kH HB3 _) hg) hm (fun j=>by rw[hj,HE];simp));clear hm hj hg Zj HB3 HS;go_wp2_with fail;go_roundw
  case rel=>exact HF.1
  exact HF.2
 |false=>
  rw[hf]at QF HE;clear hf QP;generalize LK l[a]=sv at*
  go_wp2_with fail;refine(QA _).mono ?_;rintro e w2⟨rfl,hb2⟩;have HB2:=ah hb2;have hc2:=(hb2.cell (p:=⟨b,off+a,none⟩) (by show b<_;omega)).trans hc;go_wp2_with fail;refine(QF _).mono ?_;rintro e w3⟨rfl,hb3⟩;have HB3:=ah (Below.two HB2 hb3);have HF:=ah (HS L' w3 (kH HB3 _) (DG.later HB3) (fun j=>by rw[HE];simp));go_wp2;go_roundw
  case rel=>exact HF.1
  exact HF.2
variable{t:jH}
theorem _root_.Go.Proofs.YtfcnedcahoifoaaGreatDoor.jR.rd{g:Nat}{cs:List jD}(h:jR w g t cs.toArray):Rd w w (aC g) cs:=fun _=>
 ⟨g,0,rfl,h.lt,fun j u hj=>by rw[au];exact h.at_ j (by simpa using hj)⟩
theorem _root_.Go.Proofs.YtfcnedcahoifoaaGreatDoor.jR.lab{g:Nat}{a b:ByteArray}(h:jR w g t #[jL a,jL b]):Lb w w (aC g) [(a,b)]:=jR.rd (cs:=[jL a,jL b]) h
theorem Ng(s:ByteArray):setB [(⟨#[97]⟩,s)]=mP (tx s):=by
 have h1:nameB (tx ⟨#[97]⟩)=true:=TO;have h2:Ep (tx ⟨#[97]⟩) []=false:=TO;unfold setB chainB chainB ri;rw[h1,h2];simp
theorem PJ(s:ByteArray):setB [(s,⟨#[]⟩)]=nameB (tx s):=by
 have h1:mP (tx ⟨#[]⟩)=true:=TO;unfold setB chainB chainB ri;rw[h1]
 cases h:nameB (tx s)with
 |false=>simp
 |true=>
  have h2:Ep (tx s) []=false:=by
   cases e:tx s with
   |nil=>rw[e]at h;cases h
   |cons b t=>unfold Ep dW;simp
  rw[h2];simp
theorem DU(s:ByteArray)(w:jC)(hs:s.size≤4294967296)(hT:Tb w):
 jE Tryz.prog 195 #[jL s] w fun e w'=>e=.returned (.bool (mP (tx s)))∧Below w w w':=by
 have hb:=jP (jQ w) (.cells #[.string ⟨#[97]⟩,jL s] 71)
 have Q:=ah (j_ (aM w) [(⟨#[97]⟩,s)] 1 (fun x hx=>by cases eM.1 hx;exact hs) _ (hT.later hb) (jR.new w 71 #[.string ⟨#[97]⟩,jL s]).lab)
 rw[Ng]at Q
 have HB:=ah hb
 show _
 go_in
 go_wp2_with fail
 refine Q.mono ?_
 rintro e w1⟨rfl,hb1⟩
 have HB1:=HB.trans (hb1.mono lV)
 go_wp2
 go_ret
 exact⟨rfl,HB1⟩
theorem FR(s:ByteArray)(w:jC)(hT:Tb w):
 jE Tryz.prog 104 #[jL s] w fun e w'=>e=.returned (.bool (nameB (tx s)))∧Below w w w':=by
 have hb:=jP (jQ w) (.cells #[jL s,aF] 71)
 have Q:=ah (j_ (aM w) [(s,⟨#[]⟩)] 1 (fun x hx=>by cases eM.1 hx;exact be _) _ (hT.later hb) (jR.new w 71 #[jL s,aF]).lab)
 rw[PJ]at Q
 have HB:=ah hb
 go_in
 go_wp2_with fail
 refine Q.mono ?_
 rintro e w1⟨rfl,hb1⟩
 have HB1:=HB.trans (hb1.mono lV)
 go_wp2
 go_ret
 exact⟨rfl,HB1⟩
variable{e:jH}{xs:List jD}
theorem CT{size:Nat}{v:jD}{o:Obj}(h:w.ownsRow B e size v n xs)(hk:w.heap[k]? =some o)(hc:o.isCells=false):v.ownBlock≠some k:=by
 rcases h.2 with⟨rfl,_⟩|⟨g,cap,cur,rfl,_,hh,_⟩
 ·intro e;cases e
 intro e;have e:g=k:=by injection e
 subst e;rw[hh]at hk
 cases hk
 cases hc
theorem ww(s:ByteArray)(q:Nat):w.grownBy (w.iterAt k s q) (some k):=
 ⟨rfl,rfl,rfl,by rw[Lib.iterAt_size];exact ay _,fun i _ hne=>Lib.iterAt_other _ _ _ _ _ (fun e=>hne (by rw[e]))⟩
theorem un{size:Nat}{v:jD}(h:w.ownsRow B e size v n xs):∃A c,v=.slice A n c:=by
 obtain⟨A,c,e,_⟩:=lB h;exact⟨A,c,e⟩
theorem ol{size:Nat}{a W:jC}{o:Obj}{v:jD}(h:Below B a w)(ho:w.ownsRow B e size v n xs)(hB:B≤w.heap.size)(hg:(w.alloc o).grownBy W v.ownBlock):Below B a W:=by
 have h1:=h.trans ((jP (jQ w) o).mono hB);exact h1.trans (Co hg mO fun g hg'=>(ho.lt g hg').1)
theorem Tryz.Ra:(Tryz.prog.info? 430).map (fun i=>(i.zero,i.size,i.bytes))=some (some .nilIface,1,16):=oo
def t_(w:jC)(p:List UInt8)(e:bi6)(w':jC):Prop:=Below w w w'∧
 match mu p with
 |none=>e=.returned (.tuple #[jM,.bool false])
 |some l=>∃A c,e=.returned (.tuple #[jN A l c,.bool true])∧Ta w' w' A l
theorem t_.no(h:mu p=none)(hb:Below w w w'):t_ w p (.returned (.tuple #[jM,.bool false])) w':=⟨hb,by rw[h]⟩
variable{A:Option jG}
theorem t_.yes(h:mu p=some l)(hn:n=l.length)(hb:Below w w w')(hS:Ta w' w' A l):t_ w p (.returned (.tuple #[.slice A n c,.bool true])) w':=⟨hb,by rw[h];exact⟨A,c,by rw[hn],hS⟩⟩
def SgI(w:jC)(s:ByteArray)(v:jD)(q:Bool)(pos:Nat)(pre:List (Nat×Nat))(k:Nat)(wr:jC):Prop:=
 wr.ownsRow w 430 1 v (BT ([],false) pre).1.length ((BT ([],false) pre).1.map LK)∧(BT ([],false) pre).2=q∧Below w w wr∧wr.heap[k]? =some (.stringIter s pos)
theorem CB(s:ByteArray)(w:jC)(hs:s.size≤4294967296)(hT:Tb w):
 jE Tryz.prog 151 #[jL s] w (t_ w (tx s)):=by
 have QV:=ah (DU s w hs hT)
 obtain⟨i0,hi0,hz0,hz1,hz2⟩:=bi5 Tryz.Ra
 cases hv:mP (tx s)with
 |false=>
  have HN:Hid (mu (tx s)=none):=by show _=_;unfold mu;rw[hv];rfl
  rw[hv]at QV;go_in;go_wp2_with fail;refine QV.mono ?_;rintro e w1⟨rfl,hb1⟩;go_wp2;go_ret2;exact t_.no HN hb1
 |true=>
  have SO:=ah (zK hv);have Vo:Hid (mu (tx s)=if(BT ([],false) (cp (tx s))).2=true then none else some (BT ([],false) (cp (tx s))).1):=by show _=_;unfold mu;rw[if_pos hv]
  rw[hv]at QV;go_in;go_wp2_with fail;refine QV.mono ?_;rintro e w1⟨rfl,hb1⟩;have HB1:=ah hb1;go_wp2_with fail;go_loopw[4,5] (fun v qv wr=>∃(pos:Nat)(pre:List (Nat×Nat))(q:Bool),qv=.bool q∧Hid (pK s pos pre)∧Hid (SgI w s v q pos pre w1 wr)) (fun _ _ wr=>s.size-wr.iterPos w1)
  case atStart=>exact⟨0,[],false,rfl,pK.zero s,⟨lV,.inl ⟨rfl,rfl⟩⟩,rfl,HB1.trans ((It.mk0 w1 s).2.mono HB1.size),(It.mk0 w1 s).1⟩
  obtain⟨pos,pre,q,rfl,HW,HI⟩:=hrel;obtain⟨A0,c0,rfl⟩:=un HI.1;have HP:Hid (wr.iterPos w1.heap.size=pos):=by show _=_;simp[eR,HI.2.2.2]
  have hb1:=HB1.size;by_cases hp:pos<s.size
  ·have hnx:∀ty,(fw (.pointer (aM w1)) true ty).run Tryz.prog wr=_:=fun ty=>fp wr w1 s pos ty HI.2.2.2 hp;rw[tX]at hnx;have HW2:=ah (HW.next hp);obtain⟨d1,d2,d3,_⟩:=oQ (dI s pos);generalize nP (dI s pos)=d at*
   have HI2:Hid (SgI w s (.slice A0 (BT ([],false) pre).1.length c0) q (pos+d.2) pre w1 (wr.iterAt w1 s (pos+d.2))):=by
    obtain⟨o1,o2,o3,o4⟩:=HI;have hk:=o1.kept (ww s (pos+d.2)) (.inr (CT o1 o4 rfl));exact⟨hk,o2,iq o3 hb1 s _,iC wr _ s pos _ o4⟩
   have ba3:(BT ([],false) pre).1.length≤24:=by
    have h1:=DW pre ([],false);have h2:=HW.is;have h3:=SO.out;rw[h2,cd]at h3;simp only[dp]at h1;omega
   generalize wr.iterAt w1.heap.size s (pos+d.2)=wi at*
   obtain⟨o1,o2,o3,o4⟩:=HI2.out;have ST:BT ([],false) (pre++[d])=stepS ((BT ([],false) pre).1,q) d:=by rw[PI,←o2]
   have HO:=ai o1;have HB:=ai o3;have HT4:=ai o4;have hws:=o3.size;have hk1:=oh o4;have xa:=ai (CT o1 o4 rfl);generalize(BT ([],false) pre).1=a at*
   have hmi:∀w,(Instr.makeInterface 340 (.agg #[.int .i32 (d.1:Int)])).run Tryz.prog w=.ok (.iface 340 (.agg #[.int .i32 (d.1:Int)])) w:=fun w=>oo
   cases q with
   |true=>
    have HST:=ah (ST.trans (by unfold stepS;rw[if_pos rfl]));go_wp2_with(at_builtin;refine bk3 _ rfl _ _ 277 rfl w 430 i0 .nilIface 1 16 Tryz.underlying277 hi0 hz0 hz1 hz2 rfl B8 (.slice A0 a.length c0) a.length _ rfl (HO.alloc _) ⟨wi,0,none⟩ 1 1 [_] rfl rfl (m7 _ _ _ _ rfl) ZO O0 jS mO ?_;intro v' W hown hgrow _);have HF:Hid (SgI w s v' false (pos+d.2) (pre++[d]) w1 W):=by
     refine⟨?_,by rw[HST],ol HB HO hws hgrow,?_⟩
     ·rw[HST];simpa[LK]using hown
     exact(hgrow.block _ mO (fun e=>xa e.symm)).trans ((Below.heap_alloc wi _ _ hk1).trans HT4)
    go_wp2;go_roundw
    case rel=>exact⟨pos+d.2,pre++[d],false,rfl,HW2,HF⟩
    have e:W.iterPos w1.heap.size=pos+d.2:=by simp[eR,HF.2.2.2]
    rw[HP,e];omega
   |false=>
    by_cases e42:d.1=42
    ·have b42:((d.1:Int)==42)=true:=mO;have HST:=ah (ST.trans (by unfold stepS;rw[if_neg lV,if_pos e42]));go_wp2_with(at_builtin;refine bk3 _ rfl _ _ 277 rfl w 430 i0 .nilIface 1 16 Tryz.underlying277 hi0 hz0 hz1 hz2 rfl B8 (.slice A0 a.length c0) a.length _ rfl (HO.alloc _) ⟨wi,0,none⟩ 1 1 [_] rfl rfl (m7 _ _ _ _ rfl) ZO O0 jS mO ?_;intro v' W hown hgrow _);have HF:Hid (SgI w s v' false (pos+d.2) (pre++[d]) w1 W):=by
      refine⟨?_,by rw[HST],ol HB HO hws hgrow,?_⟩
      ·rw[HST];simpa[LK]using hown
      exact(hgrow.block _ mO (fun e=>xa e.symm)).trans ((Below.heap_alloc wi _ _ hk1).trans HT4)
     go_wp2;go_roundw
     case rel=>exact⟨pos+d.2,pre++[d],false,rfl,HW2,HF⟩
     have e:W.iterPos w1.heap.size=pos+d.2:=by simp[eR,HF.2.2.2]
     rw[HP,e];omega
    have b42:((d.1:Int)==42)=false:=mO;by_cases e63:d.1=63
    ·have b63:((d.1:Int)==63)=true:=mO;have HST:=ah (ST.trans (by unfold stepS;rw[if_neg lV,if_neg e42,if_pos e63]));go_wp2_with(at_builtin;refine bk3 _ rfl _ _ 277 rfl w 430 i0 .nilIface 1 16 Tryz.underlying277 hi0 hz0 hz1 hz2 rfl B8 (.slice A0 a.length c0) a.length _ rfl (HO.alloc _) ⟨wi,0,none⟩ 1 1 [_] rfl rfl (m7 _ _ _ _ rfl) ZO O0 jS mO ?_;intro v' W hown hgrow _);have HF:Hid (SgI w s v' false (pos+d.2) (pre++[d]) w1 W):=by
      refine⟨?_,by rw[HST],ol HB HO hws hgrow,?_⟩
      ·rw[HST];simpa[LK]using hown
      exact(hgrow.block _ mO (fun e=>xa e.symm)).trans ((Below.heap_alloc wi _ _ hk1).trans HT4)
     go_wp2;go_roundw
     case rel=>exact⟨pos+d.2,pre++[d],false,rfl,HW2,HF⟩
     have e:W.iterPos w1.heap.size=pos+d.2:=by simp[eR,HF.2.2.2]
     rw[HP,e];omega
    have b63:((d.1:Int)==63)=false:=mO;by_cases e126:d.1=126
    ·have ay0:((d.1:Int)==126)=true:=mO;have HST:=ah (ST.trans (by unfold stepS;rw[if_neg lV,if_neg e42,if_neg e63,if_pos e126]));have HF:Hid (SgI w s (.slice A0 a.length c0) true (pos+d.2) (pre++[d]) w1 wi):=⟨by rw[HST];exact HO,by rw[HST],HB,HT4⟩;go_wp2;go_roundw
     case rel=>exact⟨pos+d.2,pre++[d],true,rfl,HW2,HF⟩
     have e:wi.iterPos w1.heap.size=pos+d.2:=by simp[eR,HF.2.2.2]
     rw[HP,e];omega
    have ay0:((d.1:Int)==126)=false:=mO;have HST:=ah (ST.trans (by unfold stepS;rw[if_neg lV,if_neg e42,if_neg e63,if_neg e126]));go_wp2_with(at_builtin;refine bk3 _ rfl _ _ 277 rfl w 430 i0 .nilIface 1 16 Tryz.underlying277 hi0 hz0 hz1 hz2 rfl B8 (.slice A0 a.length c0) a.length _ rfl (HO.alloc _) ⟨wi,0,none⟩ 1 1 [_] rfl rfl (m7 _ _ _ _ rfl) ZO O0 jS mO ?_;intro v' W hown hgrow _);have HF:Hid (SgI w s v' false (pos+d.2) (pre++[d]) w1 W):=by
     refine⟨?_,by rw[HST],ol HB HO hws hgrow,?_⟩
     ·rw[HST];simpa[LK]using hown
     exact(hgrow.block _ mO (fun e=>xa e.symm)).trans ((Below.heap_alloc wi _ _ hk1).trans HT4)
    go_wp2;go_roundw
    case rel=>exact⟨pos+d.2,pre++[d],false,rfl,HW2,HF⟩
    have e:W.iterPos w1.heap.size=pos+d.2:=by simp[eR,HF.2.2.2]
    rw[HP,e];omega
  have hnx:∀ty,(fw (.pointer (aM w1)) true ty).run Tryz.prog wr=_:=fun ty=>fq wr w1 s pos ty HI.2.2.2 hp;have HE:Hid (mu (tx s)=if q=true then none else some (BT ([],false) pre).1):=by
   show _=_;rw[Vo,HW.done hp,HI.2.1]
  have wZ:=ah (Rd.own HI.1);have ZB:=ah HI.2.2.1;generalize(BT ([],false) pre).1=a at*
  cases q with
  |true=>
   have HN:=ah HE;go_wp2;go_ret2;exact t_.no HN ZB
  |false=>
   have HN:=ah HE;go_wp2;go_ret2;exact t_.yes HN rfl ZB wZ
theorem NQ(s:ByteArray)(w:jC)(hs:s.size≤4294967296)(hT:Tb w):
 jE Tryz.prog 105 #[jL s] w fun e w'=>e=.returned (.bool (mu (tx s)).isSome)∧Below w w w':=by
 have Q:=ah (CB s w hs hT)
 go_in
 go_wp2_with fail
 refine Q.mono ?_
 rintro e w1⟨hb1,h⟩
 cases hp:mu (tx s)with
 |none=>
  rw[hp]at h;subst h;go_wp2;go_ret;exact⟨jU (by rw[hp];rfl),hb1⟩
 |some l=>
  rw[hp]at h;obtain⟨A,c,rfl,_⟩:=h;go_wp2;go_ret;exact⟨jU (by rw[hp];rfl),hb1⟩
theorem Oj(h:mu p=none):qB p v=false:=by
 cases e:qB p v with
 |false=>rfl
 |true=>obtain⟨l,h1,_⟩:=xP.1 e;rw[h]at h1;cases h1
theorem RN(h:oJ v=false):qB p v=false:=by
 cases e:qB p v with
 |false=>rfl
 |true=>obtain⟨l,_,h1,_⟩:=xP.1 e;rw[h]at h1;cases h1
theorem Sn{a b:Bool}(h:a=true↔b=true):a=b:=by cases a<;>cases b<;>simp_all
theorem RM(hp:mu p=some l)(hv:oJ v=true)(h:∀j,j∈L↔Pl l (rn v) j):iL (Sd L) (.int .i64 (l.length:Int))=qB p v:=
 Sn (by
  rw[has_Sd,vE hp hv,←Pl.end_];constructor
  ·rintro⟨j,hj,e⟩;obtain rfl:j=l.length:=jS;exact(h _).1 hj
  exact fun h2=>⟨_,(h _).2 h2,rfl⟩)
theorem Ol{pre post:List (Nat×Nat)}(hp:mu p=some l)(hv:oJ v=true)(e:cp v=pre++post)(h:∀j,j∈([]:List Nat)↔Pl l (pre.map (·.1)) j):qB p v=false:=by
 cases ef:qB p v with
 |false=>rfl
 |true=>
  rw[vE hp hv,←Pl.end_]at ef;unfold rn at ef;rw[e,dH]at ef;exact absurd ef (Pl.dead _ _ (fun j hj=>by cases(h j).2 hj) _)
def FtI(w:jC)(v:ByteArray)(l:List Sg)(k Bm:Nat)(L:List Nat)(pos:Nat)(pre:List (Nat×Nat))(wr:jC):Prop:=
 Sm wr l.length Bm L∧(∀j,j∈L↔Pl l (pre.map (·.1)) j)∧w.heap.size≤Bm∧Below w w wr∧wr.heap[k]? =some (.stringIter v pos)
theorem fits_any(p v:ByteArray)(w:jC)(hp:p.size≤4294967296)(hv:v.size≤4294967296)(hT:Tb w):
 jE Tryz.prog 226 #[jL p,jL v] w fun e w'=>e=.returned (.bool (qB (tx p) (tx v)))∧Below w w w':=by
 have QS:=ah (CB p w hp hT)
 have QR:Hid (∀w1,Below w w w1→jE Tryz.prog 173 #[jL v] w1 fun e w'=>e=.returned (.tuple #[jJ (mc (tx v)).1,.bool (mc (tx v)).2])∧Below w1 w1 w'):=fun w1 hb=>xq v w1 hv (hT.later hb)
 go_in
 go_wp2_with fail
 go_step3
 go_wp2_with fail
 refine QS.mono ?_
 rintro e w1⟨hb1,h⟩
 have HB1:=ah hb1
 have Zi:=ah (QR w1 hb1)
 cases hsg:mu (tx p)with
 |none=>
  rw[hsg]at h;subst h;have HN:=ah (Oj (v:=tx v) hsg);go_wp2_with fail;(try rw[cf]);go_ret;exact⟨jU (by rw[HN]),HB1⟩
 |some l=>
  rw[hsg]at h;obtain⟨A,c,rfl,hS⟩:=h;have Vo:=ah hsg;have HS:=ah hS;have Ur:l.length≤100000:=by
   obtain⟨h1,h2⟩:=qF9 hsg;have h3:=DW (cp (tx p)) ([],false);have h4:=zK h1;rw[h2]at h3;simp only[dp]at h3;omega
  cases hvv:oJ (tx v)with
  |false=>
   have HN:=ah (RN (p:=tx p) hvv);have hr:mc (tx v)=(0,false):=by rw[mc,if_neg (by rw[hvv];simp)]
   rw[hr]at Zi;go_wp2_with fail;refine Zi.mono ?_;rintro e w2⟨rfl,hb2⟩;go_wp2_with fail;(try rw[cf]);go_ret;exact⟨jU (by rw[HN]),Below.two HB1 hb2⟩
  |true=>
   have hr:mc (tx v)=(((cp (tx v)).length:Int),true):=by rw[mc,if_pos hvv]
   rw[hr]at Zi;have HV:=ah hvv;go_wp2_with fail;refine Zi.mono ?_;rintro e w2⟨rfl,hb2⟩;have HB2:=ah hb2;have hmk:(Instr.makeMap 401 none).run Tryz.prog w2=.ok (.map (some w2)) (w2.alloc (.map #[] 0)):=oo;have hba:=jP (jQ w2) (.map #[] 0);have QP:=ah (put_any A l c 0 w2 [] Ur (be _) (w2.alloc (.map #[] 0)) ((Rd.below HS (Below.two hb2 hba)).more hb2.size) (Sm.made w2 l.length));have O_:=ah (Below.two hb2 hba);have h12:=hb2.size;go_wp2_with fail;refine QP.mono ?_;rintro e w3⟨rfl,⟨L0,hm0,hj0⟩,hg0⟩;have HI:Hid (FtI w1 v l w3 w2 L0 0 [] (w3.iter v 0)):=by
    have hbi:=(It.mk0 w3 v).2;refine⟨hm0.later hbi,fun j=>?_,h12,Below.two ?_ hbi,(It.mk0 w3 v).1⟩
    ·rw[hj0];show _↔Pl l [] j;rw[Pl.start];simp
    exact below_grown O_ hg0 h12 O_.size
   have h3:w1.heap.size≤w3.heap.size:=by have:=O_.size;have:=hg0.size;omega
   go_wp2_with fail;go_step3;go_wp2_with fail;go_loopw[9] (fun mv wr=>∃(pos:Nat)(pre:List (Nat×Nat))(Bm:Nat)(L:List Nat),mv=.map (some Bm)∧Hid (pK v pos pre)∧Hid (FtI w1 v l w3 Bm L pos pre wr)) (fun _ wr=>v.size-wr.iterPos w3)
   case atStart=>exact⟨0,[],_,L0,rfl,pK.zero v,HI⟩
   obtain⟨pos,pre,Bm,L,rfl,HW,HI⟩:=hrel;have HP:Hid (wr.iterPos w3.heap.size=pos):=by show _=_;simp[eR,HI.2.2.2.2]
   by_cases hps:pos<v.size
   ·have hnx:∀ty,(fw (.pointer (aM w3)) true ty).run Tryz.prog wr=_:=fun ty=>fp wr w3 v pos ty HI.2.2.2.2 hps;rw[tX]at hnx;have HW2:=ah (HW.next hps);obtain⟨d1,d2,d3,_⟩:=oQ (dI v pos);generalize nP (dI v pos)=d at*
    have HI2:Hid (FtI w1 v l w3.heap.size Bm L (pos+d.2) pre (wr.iterAt w3.heap.size v (pos+d.2))):=by
     obtain⟨o1,o2,o3,o4,o5⟩:=HI.out;have hne:some Bm≠some w3.heap.size:=fun e=>by
      obtain⟨es,clock,hh,_⟩:=o1.1;have e:Bm=w3.heap.size:=by injection e
      rw[e,o5]at hh;cases hh
     exact⟨o1.keep (ww v (pos+d.2)) hne,o2,o3,iq o4 h3 v _,iC wr _ v pos _ o5⟩
    generalize wr.iterAt w3.heap.size v (pos+d.2)=wi at*
    obtain⟨o1,o2,o3,o4,o5⟩:=HI2.out;have QB:=ai (Lj A l c d.1 Bm L Ur wi ((Rd.below HS.out o4).more o3) o1);have HN:Hid (∀Bn L' W,wi.heap.size≤Bn→Sm W l.length Bn L'→(∀j,j∈L'↔∃a∈L,From l d.1 a j)→(bJ wi W)→FtI w1 v l w3.heap.size Bn L' (pos+d.2) (pre++[d]) W):=fun Bn L' W hB hm hj hb=>by
     refine⟨hm,fun j=>?_,by have:=o4.size;omega,Below.two o4 hb,(hb.block _ (oh o5)).trans o5⟩;rw[hj,dH];show _↔Pl l (pre.map (·.1)++[d.1]) j;rw[Pl.next];exact⟨fun⟨a,h1,h2⟩=>⟨a,(o2 a).1 h1,h2⟩,fun⟨a,h1,h2⟩=>⟨a,(o2 a).2 h1,h2⟩⟩
    go_wp2_with fail;refine QB.mono ?_;rintro e w4⟨Bn,L',rfl,hB,hm,hj,hb⟩;have HF:=ah (HN Bn L' w4 hB hm hj hb);have hown:=hm.1;have hsz:gZ (Sd L')=L'.length:=by simp[Sd,gZ]
    by_cases h0:L'=[]
    ·subst h0;have b0:(((gZ (Sd []):Nat):Int)==0)=true:=by rfl
     have HE:=ah (Ol Vo HV HW2.is HF.2.1);have hh:iL (Sd []) (.int .i64 (l.length:Int))=false:=rfl;go_wp2_with(first
      |(at_len;refine wpList_len_own _ rfl _ 401 rfl 3 341 Tryz.underlying401 _ Bn (l.length+1) _ rfl hown ?_)
      |(at_lookup;refine wpList_lookup_own_unit _ rfl _ _ 401 rfl 3 341 Q6 Tryz.underlying401 oo Bn (l.length+1) _ rfl hown _ _ rfl (f_ Tryz.underlying3 (wfP aa Ur)) ?_)
      |go_in)
     (try rw[cf]);go_ret;exact⟨jU HE.symm,Below.two HB1 (HF.2.2.2.1)⟩
    have b0:(((gZ (Sd L'):Nat):Int)==0)=false:=by
     have:L'.length≠0:=fun e=>h0 (da e);rw[hsz];simp;exact h0
    go_wp2_with(first
     |(at_len;refine wpList_len_own _ rfl _ 401 rfl 3 341 Tryz.underlying401 _ Bn (l.length+1) _ rfl hown ?_)
     |go_in)
    go_roundw
    case rel=>exact⟨pos+d.2,pre++[d],Bn,L',rfl,HW2,HF⟩
    have e:w4.iterPos w3.heap.size=pos+d.2:=by simp[eR,HF.2.2.2.2]
    rw[HP,e];omega
   have hnx:∀ty,(fw (.pointer (aM w3)) true ty).run Tryz.prog wr=_:=fun ty=>fq wr w3 v pos ty HI.2.2.2.2 hps;have HE:Hid (iL (Sd L) (.int .i64 (l.length:Int))=qB (tx p) (tx v)):=RM Vo HV (by
    unfold rn;rw[HW.done hps];exact HI.2.1)
   have hown:=HI.1.1;go_wp2_with(first
    |(at_lookup;refine wpList_lookup_own_unit _ rfl _ _ 401 rfl 3 341 Q6 Tryz.underlying401 oo Bm (l.length+1) _ rfl hown _ _ rfl (f_ Tryz.underlying3 (wfP aa Ur)) ?_)
    |go_in)
   (try rw[cf]);go_ret;exact⟨jU HE,Below.two HB1 HI.2.2.2.1⟩
theorem EA:∀(l:List UInt8)(c:UInt8),gd l c=if c∈l then((l.idxOf c:Nat):Int)else -1
 |[],c=>by simp[gd]
 |b::l,c=>by
  unfold gd;rw[EA l c,List.idxOf_cons];by_cases h:b=c
  ·subst h;simp
  have h1:(b==c)=false:=by simp[h]
  have h2:¬c=b:=fun e=>h e.symm;rw[h1];by_cases hm:c∈l
  ·have:¬(((l.idxOf c:Nat):Int)== -1)=true:=lV;simp only[hm,if_true,cw,h2,false_or,Bool.false_eq_true,if_false,this,cond_false];omega
  simp[hm,h2]
theorem vk(s:ByteArray)(a b:Nat):tx (s.extract a b)=((tx s).take b).drop a:=by
 unfold tx;rw[ByteArray.data_extract,Array.toList_extract,List.extract_eq_take_drop,List.drop_take]
theorem Ht(s:ByteArray)(i:Nat):s.extract 0 i=bt ((tx s).take i):=rX (by rw[vk,vQ,List.drop_zero])
theorem Hu(s:ByteArray)(i:Nat):s.extract i s.size=bt ((tx s).drop i):=rX (by rw[vk,vQ,cl (by rw[lG];exact ay _)])
theorem Qz(s:ByteArray)(c:UInt8)(hm:c∈tx s)(hs:s.size≤4294967296)(w:jC):
 jE Tryz.prog 150 #[jL s,.string ⟨#[c]⟩] w fun e w'=>e=.returned (.tuple #[jL (bt ((tx s).take ((tx s).idxOf c))),jL (bt ((tx s).drop ((tx s).idxOf c+1))),.bool true])∧∃n,w'=w.drewN n:=by
 have Q:=ah (Tryz.stringslite_Index_one s c w)
 rw[show gd s.data.toList c=_ from EA (tx s) c,if_pos hm]at Q
 have hi:=iB.2 hm
 rw[lG]at hi
 rw[←Ht,←Hu]
 generalize(tx s).idxOf c=i at*
 have c1:(0:Int)≤i:=jS
 have c2:(i:Int)≤(s.size:Int):=jS
 have c3:(0:Int)≤i+1:=jS
 have c4:(i:Int)+1≤(s.size:Int):=jS
 have g0:=decide_eq_true c1
 go_in
 go_wp2_with fail
 refine Q.mono ?_
 rintro e w1⟨rfl,rfl⟩
 go_wp2
 go_region_o
 go_wp2
 go_ret3
 exact⟨rfl,1,rfl⟩
theorem NH(s:ByteArray)(c:UInt8)(hm:¬c∈tx s)(w:jC):
 jE Tryz.prog 150 #[jL s,.string ⟨#[c]⟩] w fun e w'=>e=.returned (.tuple #[jL s,aF,.bool false])∧∃n,w'=w.drewN n:=by
 have Q:=ah (Tryz.stringslite_Index_one s c w)
 rw[show gd s.data.toList c=_ from EA (tx s) c,if_neg hm]at Q
 go_in
 go_wp2_with fail
 refine Q.mono ?_
 rintro e w1⟨rfl,rfl⟩
 go_wp2
 go_ret3
 exact⟨rfl,0,rfl⟩
def rp(s:ByteArray)(c:UInt8):ByteArray×ByteArray×Bool:=if c∈tx s then(bt ((tx s).take ((tx s).idxOf c)),bt ((tx s).drop ((tx s).idxOf c+1)),true)else(s,⟨#[]⟩,false)
theorem QU(s:ByteArray)(c:UInt8)(hs:s.size≤4294967296)(w:jC):
 jE Tryz.prog 150 #[jL s,.string ⟨#[c]⟩] w fun e w'=>e=.returned (.tuple #[jL (rp s c).1,jL (rp s c).2.1,.bool (rp s c).2.2])∧∃n,w'=w.drewN n:=by
 unfold rp
 split
 ·next h=>exact Qz s c h hs w
 next h=>exact NH s c h w
theorem zv(s:ByteArray)(c:UInt8)(hs:s.size≤4294967296)(w:jC):
 jE Tryz.prog 103 #[jL s,.string ⟨#[c]⟩] w fun e w'=>e=.returned (.tuple #[jL (rp s c).1,jL (rp s c).2.1,.bool (rp s c).2.2])∧Below w w w':=by
 have Q:=ah (QU s c hs w)
 generalize rp s c=q at*
 go_in
 go_wp2_with fail
 refine Q.mono ?_
 rintro e w1⟨rfl,n,rfl⟩
 go_wp2
 go_ret3
 exact⟨rfl,below_drewN (jQ w) n⟩
section
open Go.RowKit Go.Shelf
attribute [local go_sem] db
variable{l:List UInt8}
theorem Jn(h:¬(59:UInt8)∈l):kX l=[l]:=tj h
theorem Nc(h:(59:UInt8)∈l):kX l=l.take (l.idxOf 59)::kX (l.drop (l.idxOf 59+1)):=by
 have hi:=iB.2 h;have e:l=l.take (l.idxOf 59)++59::l.drop (l.idxOf 59+1):=by
  have h1:l.drop (l.idxOf 59)=59::l.drop (l.idxOf 59+1):=by
   rw[dN hi,List.getElem_idxOf hi]
  rw[←h1,fQ]
 have hn:(59:UInt8)∉l.take (l.idxOf 59):=fun hm=>by
  obtain⟨i,hi2,e2⟩:=iy.1 hm;have:=List.not_of_lt_findIdx (p:=(·==(59:UInt8))) (xs:=l) (i:=i) (by have:l.idxOf 59=l.findIdx (·==(59:UInt8)):=rfl;omega);simp at this;exact this e2
 conv=>lhs;rw[e]
 exact FN hn _
abbrev Pc:={x:List UInt8 // x.length≤4294967296}
theorem qn:∀(l:List UInt8),∀x∈kX l,x.length≤l.length
 |[],x,hx=>by simp[kX]at hx;rw[hx];exact ay _
 |b::t,x,hx=>by
  unfold kX at hx;split at hx
  ·rcases cw.1 hx with rfl|h
   ·exact be _
   have:=qn t x h;simp;omega
  rcases cw.1 hx with rfl|h
  ·have hm:(kX t).headD []∈kX t:=by
    cases e:kX t with
    |nil=>exact absurd e (CA t)
    |cons y r=>exact di
   have:=qn t _ hm
   simp only[c_];omega
  have:=qn t x (List.mem_of_mem_tail h);simp;omega
theorem Bc:∀(ps:List (List UInt8)),(∀x∈ps,x.length≤4294967296)→∃zs:List Pc,zs.map (·.1)=ps
 |[],_=>⟨[],rfl⟩
 |x::ps,h=>by
  obtain⟨zs,hz⟩:=Bc ps fun y hy=>h y (dS _ hy);exact⟨⟨x,h x di⟩::zs,by simp[hz]⟩
theorem DP(s p:ByteArray)(k:Int)(w:jC):
 jE Tryz.prog 149 #[jL s,jL p,jJ k] w fun e w'=>e=.returned (.func (.func 191) #[] #[.pointer (some (aE w)),jO w,.pointer (some (aG w))])∧
  ((w.alloc (cQ s)).alloc (cQ p)).alloc (.cells #[jJ k] 3)=w':=by
 go_in
 go_wp2
 go_ret
 exact⟨rfl,rfl⟩
theorem BS(s p:ByteArray)(w:jC):
 jE Tryz.prog 102 #[jL s,jL p] w fun e w'=>e=.returned (.func (.func 191) #[] #[.pointer (some (aE w)),jO w,.pointer (some (aG w))])∧
  ((w.alloc (cQ s)).alloc (cQ p)).alloc (.cells #[jJ 0] 3)=w':=by
 go_in
 go_wp2_with fail
 refine(DP s p 0 _).mono ?_
 rintro e w'⟨rfl,rfl⟩
 go_wp2
 go_ret
 exact⟨rfl,rfl⟩
theorem drop_cons{zs:List Pc}{a:List UInt8}{r:List (List UInt8)}(h:(zs.drop k).map (·.1)=a::r):∃hk:k<zs.length,(zs[k]).1=a∧(zs.drop (k+1)).map (·.1)=r:=by
 have hk:k<zs.length:=by
  rcases fB k zs.length with h1|h1
  ·exact h1
  rw[ei h1]at h;cases h
 rw[dN hk,df]at h;injection h with h1 h2;exact⟨hk,h1,h2⟩
theorem XY(s:ByteArray):bt (tx s)=s:=rX rfl
def Lg(w:jC)(b:Nat):Nat:=match w.cell? ⟨b,0,none⟩with|some (.string s)=>s.size|_=>0
theorem Du{b:Nat}{s:ByteArray}(h:jR w b t #[jL s]):Lg w b=s.size:=by unfold Lg;rw[h.one]
def Kp3(n₀ Bs Bp Bv:Nat):jC→jC→Prop:=qK n₀ fun i=>i=Bs∨i=Bp∨i=Bv
def SpI(W:jC)(Bs Bp Bv:Nat)(zs:List Pc)(J:List Pc→jC→Prop)(cur:ByteArray)(k:Nat)(wr:jC):Prop:=
 jR wr Bs 9 #[jL cur]∧jR wr Bp 9 dF∧jR wr Bv 3 #[jJ 0]∧(zs.drop k).map (·.1)=kX (tx cur)∧J (zs.take k) wr∧W.heap.size≤wr.heap.size
theorem PF(n:Nat)(hn:1≤n)(ll Bs Bp Bv n₀:Nat)(s:ByteArray)(hs:s.size≤4294967296)(zs:List Pc)(hzs:zs.map (·.1)=kX (tx s))(hBs:Bs<n₀)(hBp:Bp<n₀)(hBv:Bv<n₀)(h1:Bs≠Bp)(h2:Bs≠Bv)
 (J Jx:List Pc→jC→Prop) (W:jC) (hn0:n₀≤W.heap.size) {nJ:Nat} (hJ:uC (·=Bs) nJ J)
 (hY:∀pre x W,J pre W→pre.length<zs.length→bl4 cz (n-1) Tryz.prog ll #[.string (bt x.1)] W fun e W'=>
  (e=.returned (.bool true)∧J (pre++[x]) W'∧Kp3 n₀ Bs Bp Bv W W')∨(e=.returned (.bool false)∧Jx (pre++[x]) W'))
 (b1:jR W Bs 9 #[.string s]) (b2:jR W Bp 9 dF) (b3:jR W Bv 3 #[.int .i64 0]) (h0:J [] W):
 bj2 cz n Tryz.prog 191 #[cG ll,.pointer (aC Bp),.pointer (aC Bs),.pointer (aC Bv)] W fun e W'=>(∃v,e=.returned v)∧
  ((∃ys,ys=zs∧J ys W')∨(∃pre,pre <+: zs∧Jx pre W')):=by
 have HI:Hid (SpI W Bs Bp Bv zs J s 0 W):=⟨b1,b2,b3,hzs,h0,ay _⟩
 have hp:=b2.one
 refine bj1 Tryz.func191 rfl trivial ?_ rfl
 simp only[Tryz.ntmps191,xb,ao,dk]
 gi_wp2
 gi_loopw[] (fun wr=>∃(cur:ByteArray)(k:Nat),cur.size≤4294967296∧Hid (SpI W Bs Bp Bv zs J cur k wr)) (fun wr=>Lg wr Bs)
 case atStart=>exact⟨s,0,hs,HI⟩
 obtain⟨cur,k,hcs,HI⟩:=hrel
 obtain⟨o1,o2,o3,o4,o5,o6⟩:=HI.out
 have yb:=ai (Du o1)
 have QI:=ai (Tryz.strings_Index_one cur 59 wr)
 rw[show gd cur.data.toList 59=_ from EA (tx cur) 59]at QI
 have x1:=o1.one
 have x2:=o2.one
 have x3:=o3.one
 have z1:=o1.lt
 have z2:=o2.lt
 have z3:=o3.lt
 have HB1:=ai o1
 have HB2:=ai o2
 have HB3:=ai o3
 by_cases hm:(59:UInt8)∈tx cur
 ·rw[if_pos hm]at QI;have hi:=iB.2 hm;rw[lG]at hi;rw[Nc hm]at o4;obtain⟨hk,e1,e2⟩:=drop_cons o4;have ht:=aj hk;have HY:=hY (zs.take k) zs[k] wr o5 mO;rw[e1,←ht,←Ht cur]at HY;rw[←vQ ((tx cur).drop ((tx cur).idxOf 59+1)),←Hu cur]at e2;generalize(tx cur).idxOf 59=i at*
  have HE:=ai e2;have HSZ:Hid ((cur.extract (i+1) cur.size).size<cur.size):=by
   show _<_;rw[←lG,vk,dr,cv,lG];omega
  have c0:decide ((i:Int)<0)=false:=lV;have c1:(0:Int)≤(i:Int):=jS;have c2:(i:Int)≤(cur.size:Int):=jS;have c3:(0:Int)≤(i:Int)+1:=jS;have c4:(i:Int)+1≤(cur.size:Int):=jS;obtain⟨fn,tmps,assign,body,hy,hR⟩:=HY;gi_wp2_with fail;refine⟨trivial,?_⟩;refine(jI.2 QI.out).mono ?_;rintro e w'⟨rfl,rfl⟩;gi_wp2_with fail;refine hR.mono ?_;rintro e W3(⟨rfl,hJ3,hk3⟩|⟨rfl,hJx3⟩)
  ·have yT:=ai (HB1.out.onP hk3 hBs (.inl rfl));have HC2:=ai (HB2.out.onP hk3 hBp (.inr (.inl rfl)));have Lw:=ai (HB3.out.onP hk3 hBv (.inr (.inr rfl)));have hsz3:=hk3.1;have x1:=yT.out.one;have x2:=HC2.out.one;have f1:=yT.out.frozen 0;have z1:=yT.out.lt;have z2:=HC2.out.lt;have HN:Hid (SpI W Bs Bp Bv zs J (cur.extract (i+1) cur.size) (k+1) (W3.setCell ⟨Bs,0,none⟩ (.string (cur.extract (i+1) cur.size)))):=
    ⟨yT.out.kY 0 _,HC2.out.far (by show Bp≠Bs;omega) _,Lw.out.far (by show Bv≠Bs;omega) _,HE.out,hJ _ _ _ (some Bs) hJ3 (k6 _ _ _ _) (fun r e=>.inl (by cases e;rfl)),by simp[bj];omega⟩
   gi_wp2_with fail;go_roundw
   case rel=>exact⟨cur.extract (i+1) cur.size,k+1,by have:=HSZ.out;omega,HN⟩
   rw[yb.out,Du HN.out.1];exact HSZ.out
  clear hy hR HB1 HB2 HB3 x1 x2 x3 z1 z2 z3;gi_wp2_with fail;refine jF (bj7 rfl _ _ _) rfl ?_;exact⟨⟨_,rfl⟩,.inr ⟨_,eS _ _,hJx3⟩⟩
 rw[if_neg hm]at QI
 rw[Jn hm]at o4
 obtain⟨hk,e1,e2⟩:=drop_cons o4
 have ht:=aj hk
 have hl:zs.length≤k+1:=by
  have:=congrArg ez e2;rw[ax,dr,dp]at this;omega
 rw[cl hl]at ht
 have HY:=hY (zs.take k) zs[k] wr o5 mO
 rw[e1,←ht,XY]at HY
 obtain⟨fn,tmps,assign,body,hy,hR⟩:=HY
 gi_wp2_with fail
 refine⟨trivial,?_⟩
 refine(jI.2 QI.out).mono ?_
 rintro e w'⟨rfl,rfl⟩
 gi_wp2_with fail
 refine hR.mono ?_
 rintro e W3(⟨rfl,hJ3,hk3⟩|⟨rfl,hJx3⟩)
 ·clear hy hR HB1 HB2 HB3 x1 x2 x3 z1 z2 z3;gi_wp2_with fail;go_end0;exact⟨⟨_,rfl⟩,.inl ⟨_,rfl,hJ3⟩⟩
 clear hy hR HB1 HB2 HB3 x1 x2 x3 z1 z2 z3
 gi_wp2_with fail
 go_end0
 exact⟨⟨_,rfl⟩,.inr ⟨_,List.prefix_refl _,hJx3⟩⟩
theorem FM(n:Nat)(hn:1≤n)(Bs Bp Bv:Nat)(s:ByteArray)(hs:s.size≤4294967296)(zs:List Pc)(hzs:zs.map (·.1)=kX (tx s))(h1:Bs≠Bp)(h2:Bs≠Bv)(w:jC)
 (b1:jR w Bs 9 #[jL s]) (b2:jR w Bp 9 dF) (b3:jR w Bv 3 #[jJ 0]):
 x_ (·=Bs) cz n Tryz.prog 191 #[jO Bp,jO Bs,jO Bv] (fun x:Pc=>#[jL (bt x.1)]) (Kp3 w Bs Bp Bv) (fun ys=>ys=zs) (fun pre=>pre <+: zs) zs.length w:=fun ll J Jx W hW hJ _ hY h0=>
 PF n hn ll Bs Bp Bv w s hs zs hzs b1.lt b2.lt b3.lt h1 h2 J Jx W hW.size hJ hY (b1.later hW) (b2.later hW) (b3.later hW) h0
end
section
open Go.RowKit Go.Shelf
attribute [local go_sem] db
theorem Tryz.Q_:(Tryz.prog.info? 214).map (fun i=>(i.zero,i.size,i.bytes))=some (some (.agg #[aF,aF]),2,32):=oo
def Lp(pre:List Pc):List kI:=pre.map fun x=>nf x.1
def Ps(pre:List Pc):List (List UInt8):=pre.map (·.1)
theorem SE(pre:List Pc):(Lp pre).length=pre.length:=by simp[Lp]
theorem E7(pre:List Pc)(x:Pc):Lp (pre++[x])=Lp pre++[nf x.1]:=by simp[Lp]
theorem Nm{pre:List Pc}(h:ow [] (Ps pre)=some (Lp pre))(x:Pc):ow [] (Ps (pre++[x]))=if YU (Lp pre) x.1=true then some (Lp (pre++[x]))else none:=by
 have e:Ps (pre++[x])=Ps pre++[x.1]:=by simp[Ps]
 rw[e,r6,h,E7];rfl
def ReI(w:jC)(n₀:Nat)(pre:List Pc)(W:jC):Prop:=
 (∃lv,jR W w 159 #[lv]∧W.ownsRow n₀ 214 2 lv pre.length (k_ (Lp pre)))∧jR W (w.heap.size+1) 4 #[.bool true]∧jR W (aN w) 9 #[jL (pk (Lp pre))]∧ow [] (Ps pre)=some (Lp pre)∧Below w w W
def ReX(w:jC)(c:bk9)(pre:List Pc)(W:jC):Prop:=
 c=.exit 0∧jR W (w.heap.size+1) 4 #[.bool false]∧ow [] (Ps pre)=none∧Below w w W
theorem Vf{n₀ Bd:Nat}(hB:w.heap.size≤Bd):bj3 Bd (ReI w n₀):=by
 rintro s W W' row⟨⟨lv,h1,h2⟩,h3,h4,h5,h6⟩ hg hr;exact⟨⟨lv,h1.kept hg (fun r e=>(hr r e).2),tK h2 hg (fun r e=>(hr r e).2)⟩,h3.kept hg (fun r e=>(hr r e).2),h4.kept hg (fun r e=>(hr r e).2),h5,h6.grown hg h6.size (fun k e=>a_ hB (hr k e).1)⟩
theorem Ve{c:bk9}{Bd:Nat}(hB:w.heap.size≤Bd):bj3 Bd (ReX w c):=by
 rintro s W W' row⟨h0,h3,h5,h6⟩ hg hr;exact⟨h0,h3.kept hg (fun r e=>(hr r e).2),h5,h6.grown hg h6.size (fun k e=>a_ hB (hr k e).1)⟩
theorem ah1{n₀ Bs:Nat}(h1:w.heap.size+2<Bs)(h2:Bs<n₀):sG (·=Bs) (ReI w n₀):=by
 rintro s W W' r⟨⟨lv,a1,a2⟩,a3,a4,a5,a6⟩ hg rfl;refine⟨⟨lv,a1.grown hg mO,a2.kept hg (.inr fun e=>?_)⟩,a3.grown hg mO,a4.grown hg mO,a5,a6.grown hg a6.size (fun k e=>TP)⟩;have:=(tJ a2 _ e).1;omega
theorem ah0{c:bk9}{Bs:Nat}(h1:w.heap.size+2<Bs):sG (·=Bs) (ReX w c):=by
 rintro s W W' r⟨a0,a3,a5,a6⟩ hg rfl;exact⟨a0,a3.grown hg mO,a5,a6.grown hg a6.size (fun k e=>TP)⟩
def pW(w:jC)(s:List UInt8)(e:bi6)(w':jC):Prop:=Below w w w'∧
 match lU s with
 |none=>e=.returned (.tuple #[jM,.bool false])
 |some L=>∃A c,e=.returned (.tuple #[jN A L c,.bool true])∧Lb w' w' A L
theorem pW.no(h:lU s=none)(hb:Below w w w'):pW w s (.returned (.tuple #[jM,.bool false])) w':=⟨hb,by rw[h]⟩
variable{L:List kI}
theorem pW.yes(h:lU s=some L)(hn:n=L.length)(hb:Below w w w')(hS:Lb w' w' A L):pW w s (.returned (.tuple #[.slice A n c,.bool true])) w':=⟨hb,by rw[h];exact⟨A,c,by rw[hn],hS⟩⟩
variable{x:List UInt8}
theorem Oz(h:(61:UInt8)∈x):rp (bt x) 61=((nf x).1,(nf x).2,true):=by
 unfold rp;rw[vQ,if_pos h];rfl
theorem UM(h:¬(61:UInt8)∈x):rp (bt x) 61=(bt x,⟨#[]⟩,false):=by
 unfold rp;rw[vQ,if_neg h]
theorem rZ:∀l:List UInt8,(kX l).length≤l.length+1
 |[]=>ay _
 |b::t=>by
  have ih:=rZ t;unfold kX;split
  ·simp only[c_];omega
  simp only[c_,List.length_tail];omega
theorem TG(s:ByteArray)(hne:tx s≠[])(hs:s.size≤4294967296)(w:jC)(hT:Tb w):
 bj2 cz 6 Tryz.prog 75 #[.string s] w (pW w (tx s)):=by
 have T:Below w w (((w.alloc (.cells #[jM] 159)).alloc cW).alloc (.cells #[aF] 9)):=jP (jP (jP (jQ _) _) _) _
 have X:=ah (((jR.new w 159 #[jM]).alloc cW).alloc (.cells #[aF] 9))
 have Y:=ah ((tZ w (.cells #[jM] 159) 4 #[.bool true]).alloc (.cells #[aF] 9))
 have Z:=ah (Bl w (.cells #[jM] 159) cW 9 #[aF])
 have HT:=ah hT
 have HRS:Hid (lU (tx s)=ow [] (kX (tx s))):=by show _=_;unfold lU;rw[if_neg hne]
 have d0:(s.toList==([]:List UInt8))=false:=by rw[km];simpa using hne
 obtain⟨zs,hzs⟩:=Bc (kX (tx s)) (fun x hx=>by have:=qn _ x hx;rw[lG]at this;omega)
 have HZ:=ah hzs
 have Zn:∀(x:Pc){n:Nat},n<zs.length→n≤4294967296:=fun x n h=>by
  have h1:=congrArg ez hzs;have h2:=rZ (tx s);rw[ax]at h1;rw[lG]at h2;omega
 clear hT hzs
 refine bi7 Tryz.func75 rfl trivial ?_ rfl
 simp only[Tryz.ntmps75,xb,ao,dk]
 refine bi4.2 ?_
 go_wp2_with fail
 go_step3
 go_wp2_with fail
 go_step3
 generalize((w.alloc (.cells #[jM] 159)).alloc cW).alloc (.cells #[aF] 9)=w1 at*
 go_wp2_with fail
 refine(BS _ _ _).mono ?_
 rintro e w'⟨rfl,rfl⟩
 have hba:=jP (jP (jP (jQ w1) (cQ s)) (.cells dF 9)) (.cells #[jJ 0] 3)
 have B1:=ah (((jR.new w1 9 #[jL s]).alloc (.cells dF 9)).alloc (.cells #[jJ 0] 3))
 have B2:=ah ((tZ w1 (cQ s) 9 dF).alloc (.cells #[jJ 0] 3))
 have B3:=ah (Bl w1 (cQ s) (.cells dF 9) 3 #[jJ 0])
 have xz:=X.lt
 have yz:=Y.lt
 have zz:=Z.lt
 replace X:=ah (X.later hba)
 replace Y:=ah (Y.later hba)
 replace Z:=ah (Z.later hba)
 replace T:=Below.two T hba
 clear hba
 go_wp2_with fail
 generalize((w1.alloc (cQ s)).alloc (.cells dF 9)).alloc (.cells #[jJ 0] 3)=V at*
 have b1z:=B1.lt
 have b2z:=B2.lt
 have b3z:=B3.lt
 have hst:ReI w V [] V:=⟨⟨_,X,dY _ _ _ _⟩,Y,Z,rfl,T⟩
 refine(bi4 (n:=6)).1 ?_
 refine yy (q:=(·=w1.heap.size)) rfl (by omega) (gf:=191) (lb:=#[.pointer (some (aE w1)),jO w1,.pointer (some (aG w1))]) rfl trivial (enters_of Tryz.func191 (by kernel_rfl) rfl)
  (FM 5 (by omega) w1 (dE w1) (aN w1) s hs zs HZ (by omega) (by omega) V B1 B2 B3)
  (fun h k=>lJ h k) (zm (by omega)) (Below.refl _ _) (fun _=>rfl) (fun r h=>by omega)
  (ReI w V.heap.size) (ReX w) (Vf (by omega)) (fun c=>Ve (by omega)) (ah1 (by omega) b1z) (fun c=>ah0 (by omega)) hst
  (fun x=>{tmps:=#[.string s,undef,.slice none 0 0,.bool false,aV w,.pointer (some (aE w)),.pointer (some (aG w)),.string (bt x.1),undef,undef,undef,.string s,.bool false,.string s,
   .func (.func 191) #[] #[.pointer (some (aE w1)),aV w1,.pointer (some (aG w1))],.string (bt x.1),undef,undef,undef,undef,undef,undef,undef,undef,undef,undef,undef,undef,undef,undef,undef,undef,undef,undef,undef,undef,undef,undef,undef,undef,undef,undef,undef,undef,undef,undef,undef,undef,undef,undef,undef,undef,undef,undef],defers:=[]})
  ?assign ?body ?done ?stop
 case assign=>
  intro l x W K hK;gi_wp2;exact hK
 case body=>
  rintro l' pre x W⟨⟨lv,hX,hO⟩,hY,hZ,hrd,hb⟩ hbz hlt;have HX:=ah hX;have HO:=ah hO;have HY:=ah hY;have HZ2:=ah hZ;have HB:=ah hb;have Bz:=ah (Nm hrd x);have KO:bj4 W W:=gq _;have KP:Hid (Kp3 V w1 (dE w1) (aN w1) W W):=sr _ _ _;have O6:=HT.later hb;have hVW:V.heap.size≤W.heap.size:=jS;have hxl:=x.2;have SP:=SE pre;have SO:Hid (k_ (Lp (pre++[x]))=k_ (Lp pre)++[.string (nf x.1).1,.string (nf x.1).2]):=by show _=_;rw[E7,AW]
  have Fl:Hid (pk (Lp (pre++[x]))=(nf x.1).1):=by show _=_;rw[E7,yD]
  have QC:=ah (fun w=>zv (bt x.1) 61 (by rw[←lG,vQ];exact hxl) w);have hlen:(pre++[x]).length=pre.length+1:=lV;obtain⟨A0,c0,rfl⟩:=un HO;by_cases hm:(61:UInt8)∈x.1
  ·rw[Oz hm]at QC;have wZ:Hid (YU (Lp pre) x.1=(decide (pre.length≠4)&&(nameB (tx (nf x.1).1)&&(!(Ep (tx (nf x.1).1) (tx (pk (Lp pre))))&&(mu (tx (nf x.1).2)).isSome)))):=by
    show _=_;unfold YU;rw[decide_eq_true hm,eF,SP]
   have hps:(nf x.1).2.size≤4294967296:=by
    show(bt _).size≤_;rw[←lG,vQ,dr];omega
   rw[wZ]at Bz;generalize nf x.1=it at*
   obtain⟨nm,pt⟩:=it;simp only at QC hps SO Fl Bz;generalize pk (Lp pre)=pv at*
   obtain⟨bn,hbn⟩:∃q,nameB (tx nm)=q:=⟨_,rfl⟩;obtain⟨bp,hbp⟩:∃q,(mu (tx pt)).isSome=q:=⟨_,rfl⟩;have QN:Hid (∀w1,Tb w1→jE Tryz.prog 104 #[jL nm] w1 fun e w'=>e=.returned (.bool bn)∧Below w1 w1 w'):=fun w1 h=>by have:=FR nm w1 h;rwa[hbn]at this
   have QP:Hid (∀w1,Tb w1→jE Tryz.prog 105 #[jL pt] w1 fun e w'=>e=.returned (.bool bp)∧Below w1 w1 w'):=fun w1 h=>by have:=NQ pt w1 hps h;rwa[hbp]at this
   rw[hbn,hbp]at Bz;have Te:Hid (Ep (tx nm) (tx pv)=(dW nm.toList pv.toList||nm.toList==pv.toList)):=by show _=_;rw[km,km];rfl
   rw[Te]at Bz;have x0:=HX.one;have fx:=HX.frozen 0;have y0:=HY.one;have fy:=HY.frozen 0;have z0:=HZ2.one;have fz:=HZ2.frozen 0;have zx:=HX.lt;have zy:=HY.lt;have zw:=HZ2.lt;gi_wp2_with fail;refine⟨trivial,?_⟩;refine(d_ l' (jI.2 (QC.out _))).mono ?_;rintro e W1⟨rfl,hb1⟩;have Z3:=hb1.size;replace KP:=ah (lJ KP (kW jS hb1));replace HX:=ah (HX.later hb1);replace HY:=ah (HY.later hb1);replace HZ2:=ah (HZ2.later hb1);replace HO:=ah (lf HO hb1);replace HB:=ah (Below.two HB hb1);replace KO:=KO.trans (ky hb1);replace O6:=O6.later hb1;have x0:=HX.one;have fx:=HX.frozen 0;have y0:=HY.one;have fy:=HY.frozen 0;have z0:=HZ2.one;have fz:=HZ2.frozen 0;have zx:=HX.lt;have zy:=HY.lt;have zw:=HZ2.lt;by_cases h4:pre.length=4
   ·have HBAD:Hid (ow [] (Ps (pre++[x]))=none):=by show _=_;rw[Bz,decide_eq_false (by simpa using h4)];rfl
    have d4:((pre.length:Int)==4)=true:=mO;gi_wp2_with fail;refine⟨trivial,?_⟩;gi_wp2_with fail;refine⟨trivial,?_⟩;gi_wp2_with fail;exact⟨KO.trans (b7 _ _ _),rfl,HY.kY 0 _,HBAD,HB.setCell (dU _) _⟩
   have d4:((pre.length:Int)==4)=false:=mO;rw[decide_eq_true (show pre.length≠4 from h4),eF]at Bz;gi_wp2_with fail;refine⟨trivial,?_⟩;refine(d_ l' (jI.2 (QN _ O6))).mono ?_;rintro e W2⟨rfl,hb2⟩;have aG6:=hb2.size;replace KP:=ah (lJ KP (kW jS hb2));replace HX:=ah (HX.later hb2);replace HY:=ah (HY.later hb2);replace HZ2:=ah (HZ2.later hb2);replace HO:=ah (lf HO hb2);replace HB:=ah (Below.two HB hb2);replace KO:=KO.trans (ky hb2);replace O6:=O6.later hb2;have x0:=HX.one;have fx:=HX.frozen 0;have y0:=HY.one;have fy:=HY.frozen 0;have z0:=HZ2.one;have fz:=HZ2.frozen 0;have zx:=HX.lt;have zy:=HY.lt;have zw:=HZ2.lt
   cases bn with
   |false=>
    have HBAD:Hid (ow [] (Ps (pre++[x]))=none):=by show _=_;rw[Bz];rfl
    gi_wp2_with fail;refine⟨trivial,?_⟩;gi_wp2_with fail;exact⟨KO.trans (b7 _ _ _),rfl,HY.kY 0 _,HBAD,HB.setCell (dU _) _⟩
   |true=>
    cases c1:dW nm.toList pv.toList with
    |true=>
     have HBAD:Hid (ow [] (Ps (pre++[x]))=none):=by show _=_;rw[Bz,c1];rfl
     gi_wp2_with fail;refine⟨trivial,?_⟩;gi_wp2_with fail;exact⟨KO.trans (b7 _ _ _),rfl,HY.kY 0 _,HBAD,HB.setCell (dU _) _⟩
    |false=>
     cases c2:(nm.toList==pv.toList)with
     |true=>
      have HBAD:Hid (ow [] (Ps (pre++[x]))=none):=by show _=_;rw[Bz,c1,c2];rfl
      gi_wp2_with fail;refine⟨trivial,?_⟩;gi_wp2_with fail;exact⟨KO.trans (b7 _ _ _),rfl,HY.kY 0 _,HBAD,HB.setCell (dU _) _⟩
     |false=>
      gi_wp2_with fail;refine⟨trivial,?_⟩;refine(d_ l' (jI.2 (QP _ O6))).mono ?_;rintro e W3⟨rfl,hb3⟩;have aG5:=hb3.size;replace KP:=ah (lJ KP (kW jS hb3));replace HX:=ah (HX.later hb3);replace HY:=ah (HY.later hb3);replace HZ2:=ah (HZ2.later hb3);replace HO:=ah (lf HO hb3);replace HB:=ah (Below.two HB hb3);replace KO:=KO.trans (ky hb3);replace O6:=O6.later hb3;have x0:=HX.one;have fx:=HX.frozen 0;have y0:=HY.one;have fy:=HY.frozen 0;have z0:=HZ2.one;have fz:=HZ2.frozen 0;have zx:=HX.lt;have zy:=HY.lt;have zw:=HZ2.lt
      cases bp with
      |false=>
       have HBAD:Hid (ow [] (Ps (pre++[x]))=none):=by show _=_;rw[Bz,c1,c2];rfl
       gi_wp2_with fail;exact⟨KO.trans (b7 _ _ _),rfl,HY.kY 0 _,HBAD,HB.setCell (dU _) _⟩
      |true=>
       have HGD:Hid (ow [] (Ps (pre++[x]))=some (Lp (pre++[x]))):=by show _=_;rw[Bz,c1,c2];rfl
       obtain⟨i0,hi0,hz0,hz1,hz2⟩:=bi5 Tryz.Q_;have hba:=jP (jQ W3) (.cells #[jL nm,jL pt] 214);have NB:=ah (jR.new W3 214 #[jL nm,jL pt]);have HX4:=ah (HX.later hba);have HY4:=ah (HY.later hba);have HZ4:=ah (HZ2.later hba);have IS:=ah (lf HO hba);have HB4:=ah (Below.two HB hba);have KO4:=KO.trans (ky hba);have KP4:=ah (lJ KP (kW jS hba));have hs4:V.heap.size≤(W3.alloc (.cells #[jL nm,jL pt] 214)).heap.size:=mO;have hrow:=tJ IS;have hp4:=Zn x hlt;gi_wp2_with(gi_at_builtin;refine wpListIn_append_own _ rfl _ _ 159 rfl V 214 i0 (.agg #[aF,aF]) 2 32 Tryz.underlying159 hi0 hz0 hz1 hz2 rfl B8 (.slice A0 pre.length c0) pre.length _ rfl IS ⟨W3,0,none⟩ 1 1 [jL nm,jL pt] rfl rfl (fun j u hj=>by have:=NB.at_ (i:=j) (v:=u) (by simpa using hj);rw[addr_add];simpa using this) (by intro u hu;simp at hu;rcases hu with rfl|rfl<;>rfl) O0 jS hs4 ?_;intro v' W5 hown hgrow _;obtain⟨A5,c5,rfl⟩:=un hown;have HX5:=ah (HX4.grown hgrow (fun e=>by have:=(hrow _ e.symm).1;omega));have HY5:=ah (HY4.grown hgrow (fun e=>by have:=(hrow _ e.symm).1;omega));have yX:=ah (HZ4.grown hgrow (fun e=>by have:=(hrow _ e.symm).1;omega));have x5:=HX5.one;have fx5:=HX5.frozen 0;have z5:=yX.one;have fz5:=yX.frozen 0;have zx5:=HX5.lt;have zz5:=yX.lt);have Wa:=tJ hown;have y_:=HB4.grown hgrow HB4.size (fun r hr=>by have:=(hrow r hr).1;have:=T.size;omega);have KO5:=KO4.trans (sn hgrow (fun k e=>by obtain⟨_,c,fz,hc⟩:=hrow k e;exact⟨c,_,fz,hc⟩));have KP5:=ah (lJ KP4 ⟨hgrow.size,fun i hi _=>hgrow.block i jS (fun e=>by have:=(hrow i e.symm).1;omega)⟩);have o1:=bj0 hown (a:=⟨w,0,none⟩) (fun e=>by have:=(Wa _ e).1;simp only at this;omega) (.slice A5 (pre.length+1) c5);have o2:=bj0 o1 (a:=(aG w)) (fun e=>by have:=(Wa _ e).1;simp only at this;omega) (.string nm);refine⟨(KO5.trans (b7 _ _ _)).trans (b7 _ _ _),lJ (lJ KP5 (uw jS)) (uw jS),⟨.slice A5 (pre.length+1) c5,(HX5.kY 0 _).far (by show w.heap.size≠w.heap.size+1+1;omega) _,?_⟩,(HY5.far (by show(dL w);omega) _).far (by show w.heap.size+1≠w.heap.size+1+1;omega) _,?_,HGD,(y_.setCell aa _).setCell (by show(aU w);omega) _⟩
       ·rw[hlen,SO];exact o2
       rw[Fl];exact(yX.far (by show w.heap.size+1+1≠w.heap.size;omega) _).kY 0 _
  rw[UM hm]at QC;have HBAD:Hid (ow [] (Ps (pre++[x]))=none):=by
   show _=_;rw[Bz];unfold YU;rw[decide_eq_false hm,eO];rfl
  have x0:=HX.one;have fx:=HX.frozen 0;have y0:=HY.one;have fy:=HY.frozen 0;have z0:=HZ2.one;have fz:=HZ2.frozen 0;have zx:=HX.lt;have zy:=HY.lt;have zw:=HZ2.lt;gi_wp2_with fail;refine⟨trivial,?_⟩;refine(d_ l' (jI.2 (QC _))).mono ?_;rintro e W1⟨rfl,hb1⟩;have Z3:=hb1.size;replace KP:=ah (lJ KP (kW jS hb1));replace HX:=ah (HX.later hb1);replace HY:=ah (HY.later hb1);replace HZ2:=ah (HZ2.later hb1);replace HO:=ah (lf HO hb1);replace HB:=ah (Below.two HB hb1);replace KO:=KO.trans (ky hb1);replace O6:=O6.later hb1;have x0:=HX.one;have fx:=HX.frozen 0;have y0:=HY.one;have fy:=HY.frozen 0;have z0:=HZ2.one;have fz:=HZ2.frozen 0;have zx:=HX.lt;have zy:=HY.lt;have zw:=HZ2.lt;gi_wp2_with fail;refine⟨trivial,?_⟩;gi_wp2_with fail;refine⟨trivial,?_⟩;gi_wp2_with fail;exact⟨KO.trans (b7 _ _ _),rfl,HY.kY 0 _,HBAD,HB.setCell (dU _) _⟩
 case done=>
  rintro D ys W hD rfl⟨⟨lv,hX,hO⟩,hY,_,hrd,hb⟩ hK;have HE:Hid (lU (tx s)=some (Lp ys)):=by
   show _=_;rw[HRS,←HZ];exact hrd
  obtain⟨A0,c0,rfl⟩:=un hO;have x0:=hX.one;have y0:=hY.one;have HB:=ah hb;have HO:=ah hO;have HK:=ah hK;go_wp2;try rw[cf]
  have HRW:Hid (∀o',Lb (W.putObj D o') (W.putObj D o').heap.size A0 (Lp ys)):=fun o'=>Rd.own (tK HO (bj5 W D o') (fun r e=>by cases e;exact⟨_,HK,rfl⟩));refine⟨lV,.inl ⟨_,_,rfl,bi2 HK,?_⟩⟩;exact⟨.tuple #[jN A0 ys c0,.bool true],by simp[results,Tryz.results75,go_sem],pW.yes HE (SE ys).symm (HB.trans (bj6 (w:=w) aa _ D _ _ jS HK rfl rfl)) (HRW _)⟩
 rintro D c' pre W hD hpre⟨rfl,hY,hrd,hb⟩ hK
 have HE:Hid (lU (tx s)=none):=by
  show _=_;obtain⟨t,rfl⟩:=hpre;rw[HRS,←HZ,dH,r6];rw[show List.map (fun x:Pc=>x.1) pre=Ps pre from rfl,hrd];rfl
 have y0:=hY.one
 refine bi4.2 ?_
 go_wp2
 try rw[cf]
 refine⟨lV,.inl ⟨_,_,rfl,bi2 hK,?_⟩⟩
 exact⟨.tuple #[jM,.bool false],by simp[results,Tryz.results75,go_sem],pW.no HE (hb.trans (bj6 (w:=w) aa _ D _ _ jS hK rfl rfl))⟩
theorem wd(s:ByteArray)(hs:s.size≤4294967296)(w:jC)(hT:Tb w):
 jE Tryz.prog 75 #[jL s] w (pW w (tx s)):=by
 by_cases h:tx s=[]
 ·have HE:Hid (lU (tx s)=some []):=by show _=_;unfold lU;rw[if_pos h]
  obtain rfl:s=⟨#[]⟩:=rX h;go_in;go_wp2_with fail;go_step3;go_wp2_with fail;(try rw[cf]);go_ret2;exact pW.yes (L:=[]) HE.out rfl (jQ _) (fun h=>absurd rfl h)
 exact jI.1 (TG s h hs w hT)
end
theorem JD(s:ByteArray)(hs:s.size≤4294967296)(w:jC)(hT:Tb w):
 jE Tryz.prog 56 #[jL s] w fun e w'=>e=.returned (.bool (lU (tx s)).isSome)∧Below w w w':=by
 have Q:=ah (wd s hs w hT)
 go_in
 go_wp2_with fail
 refine Q.mono ?_
 rintro e w1⟨hb1,h⟩
 cases hp:lU (tx s)with
 |none=>
  rw[hp]at h;subst h;go_wp2;go_ret;exact⟨jU (by rw[hp];rfl),hb1⟩
 |some l=>
  rw[hp]at h;obtain⟨A,c,rfl,_⟩:=h;go_wp2;go_ret;exact⟨jU (by rw[hp];rfl),hb1⟩
variable{L:List kI}
theorem OJ{set:List kI}(h:k<L.length):allM (L.take (k+1)) set=(allM (L.take k) set&&((k8 set (k7 L k).1).2&&qB (tx (k7 L k).2) (tx (k8 set (k7 L k).1).1))):=by
 rw[BQ h,yQ];unfold allM;simp
theorem Su{set:List kI}(h:allM (L.take k) set=false):allM L set=false:=by
 rw[←fQ k L,yQ,h];rfl
theorem JH(h:lU s=some L):∀x∈L,x.1.size≤s.length∧x.2.size≤s.length:=by
 by_cases h0:s=[]
 ·unfold lU at h;rw[if_pos h0]at h;cases h;intro x hx;cases hx
 have e:=LP h0 h;subst e;intro x hx;obtain⟨y,hy,rfl⟩:=dq.1 hx;have hl:=qn s y hy;constructor
 ·show(bt _).size≤_;rw[←lG,vQ,cv];omega
 show(bt _).size≤_;rw[←lG,vQ,dr];omega
theorem PY(h:lU s=some L):L.length≤s.length+1:=by
 by_cases h0:s=[]
 ·unfold lU at h;rw[if_pos h0]at h;cases h;exact be _
 rw[LP h0 h,ax];exact rZ s
theorem Oc{set:List kI}(h:∀x∈set,x.1.size≤N∧x.2.size≤N)(n:ByteArray):(k8 set n).1.size≤N:=by
 unfold k8;split
 ·next x e=>exact(h x (List.mem_of_find?_eq_some e)).2
 exact be _
noncomputable def sg(s:List UInt8)(set:List kI):bi6:=.returned (.tuple #[.bool (As s set).1,jJ (As s set).2])
theorem Qq{set:List kI}(h:lU s=none):sg s set=.returned (.tuple #[.bool false,jJ 50]):=by unfold sg As;rw[h]
theorem NA{set:List kI}(h:lU s=some L)(h2:setB set=false):sg s set=.returned (.tuple #[.bool false,jJ 50]):=by unfold sg As;rw[h];simp[h2]
theorem Gt{set:List kI}(h:lU s=some L)(h2:setB set=true){b:Bool}(h3:allM L set=b):sg s set=.returned (.tuple #[.bool b,jJ 0]):=by unfold sg As;rw[h];simp[h2,h3]
theorem NC(s:ByteArray)(hs:s.size≤100000)(A:Option jG)(set:List kI)(cap:Nat)(hl:set.length≤1000)(hz:∀x∈set,x.1.size≤100000∧x.2.size≤100000)(w:jC)(hT:Tb w)(hS:Lb w w A set):
 jE Tryz.prog 190 #[jL s,jN A set cap] w fun e w'=>e=sg (tx s) set∧Below w w w':=by
 have Q:=ah (wd s jS w hT)
 have HT:=ah hT
 have HS:=ah hS
 have HZ:=ah hz
 have QR:Hid (∀w1,Below w w w1→jE Tryz.prog 134 #[jN A set cap] w1 fun e w'=>e=.returned (.bool (setB set))∧Below w1 w1 w'):=fun w1 hb=>j_ A set cap (fun x hx=>by have:=(hz x hx).2;omega) w1 (hT.later hb) (nY hS hb)
 have QG:Hid (∀w1 n,Below w w w1→jE Tryz.prog 225 #[jN A set cap,jL n] w1 _):=fun w1 n hb=>get_any A set cap n jS w1 (nY hS hb)
 go_in
 go_wp2_with fail
 refine Q.mono ?_
 rintro e w1⟨hb1,h⟩
 have HB1:=ah hb1
 cases hp:lU (tx s)with
 |none=>
  rw[hp]at h;subst h;have HE:=ah (Qq (set:=set) hp);go_wp2;go_ret2;exact⟨HE.symm,HB1⟩
 |some L=>
  rw[hp]at h;obtain⟨A1,c1,rfl,hS1⟩:=h;have HP:=ah hp;have SJ:=ah hS1;have Zi:=ah (QR w1 HB1);go_wp2_with fail;refine Zi.mono ?_;rintro e w2⟨rfl,hb2⟩;have HB2:=ah (Below.two HB1 hb2);have HS2:=ah (nY SJ hb2)
  cases hset:setB set with
  |false=>
   have HE:=ah (NA HP hset);go_wp2;go_ret2;exact⟨HE.symm,HB2⟩
  |true=>
   have HE:Hid (∀b,allM L set=b→sg (tx s) set=.returned (.tuple #[.bool b,jJ 0])):=fun b h=>Gt HP hset h;have HRS:=ah (JH HP);have hLn:L.length≤200000:=by have:=PY HP;rw[lG]at this;omega
   go_wp2_with fail;go_loopw[26] (fun i wr=>∃k:Nat,i=(aJ k)∧k≤L.length∧Hid (allM (L.take k) set=true)∧(bB w2 wr)) (fun i _=>L.length-(av i).toNat)
   case atStart=>exact⟨0,rfl,be _,rfl,Below.refl _ _⟩
   obtain⟨k,rfl,hk,HA,HB⟩:=hrel;by_cases h1:k<L.length
   ·have d1:decide ((k:Int)<L.length)=true:=ae;obtain⟨b,off,rfl,hb,hc⟩:=HS2.at_ jS;obtain⟨c1',c2'⟩:=hc k h1;have i1:=(HB.cell (p:=(cP b off k)) hb).trans c1';have i2:=(HB.cell (p:=(cE b off k)) hb).trans c2';have hbw:b<wr.heap.size:=qes;have hi1:(0:Int)≤k:=jS;have hi2:(k:Int)<L.length:=jS;have hpt:(k7 L k).2.size≤100000:=by
     have hm:k7 L k∈L:=by simp[k7,h1]
     have:=(HRS _ hm).2;rw[lG]at this;omega
    have Fi:=ah (OJ (set:=set) h1);rw[HA,eF]at Fi;have Wr:Hid (allM (L.take (k+1)) set=false→sg (tx s) set=.returned (.tuple #[.bool false,jJ 0])):=fun h=>HE false (Su h);generalize k7 L k=x at*
    obtain⟨nm,pt⟩:=x;simp only at i1 i2 hpt Fi;have hba:=jP (jQ wr) (.cells #[jL nm,jL pt] 214);have NB:=ah (jR.new wr 214 #[jL nm,jL pt]);have O_:=ah (HB2.trans ((Below.two HB hba).mono HB2.size));have QG1:=ah (QG _ nm O_);have hgs:=Oc HZ nm;have Ct:=ah (Below.two HB hba);have hww:wr.heap.size<(wr.alloc (.cells #[jL nm,jL pt] 214)).heap.size:=lV;generalize k8 set nm=gv at*
    obtain⟨val,ok⟩:=gv;simp only at QG1 hgs Fi;go_wp2_with fail;generalize wr.alloc (.cells #[jL nm,jL pt] 214)=w3 at*
    refine QG1.mono ?_;rintro e w4⟨rfl,hb4⟩;have HB4:=ah (Below.two Ct hb4);have HW4:=O_.trans (hb4.mono O_.size);have NB4:=ah (NB.later hb4);have n0:=NB4.p0;have n1:=NB4.p1;have nz:=NB4.lt
    cases ok with
    |false=>
     have HR:=ah (Wr (by rw[Fi];rfl));go_wp2;go_ret2;exact⟨HR.symm,HW4⟩
    |true=>
     rw[eF]at Fi;have QF:=ah (fits_any pt val w4 jS jS (HT.later HW4))
     cases hf:qB (tx pt) (tx val)with
     |false=>
      have HR:=ah (Wr (by rw[Fi,hf]));rw[hf]at QF;go_wp2_with fail;refine QF.mono ?_;rintro e w5⟨rfl,hb5⟩;go_wp2;go_ret2;exact⟨HR.symm,HW4.trans (hb5.mono HW4.size)⟩
     |true=>
      rw[hf]at QF Fi;go_wp2_with fail;refine QF.mono ?_;rintro e w5⟨rfl,hb5⟩;have y_:=ah (Below.two HB4 hb5);go_wp2;go_roundw
      case rel=>exact⟨k+1,CJ,jS,Fi,y_⟩
      exact No
   have hkk:k=L.length:=jS;subst hkk;have d1:decide ((L.length:Int)<L.length)=false:=lV;have HR:=ah (HE true (by have:=HA;rwa[dP]at this));go_wp2;go_ret2;exact⟨HR.symm,HB2.trans (HB.mono HB2.size)⟩
end Sc
end Go.Proofs.YtfcnedcahoifoaaGreatDoor

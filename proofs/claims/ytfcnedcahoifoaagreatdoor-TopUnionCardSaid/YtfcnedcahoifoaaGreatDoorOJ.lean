import Derived.Laws.IdiomCopy
import Derived.Test.YtfcnedcahoifoaaGreatDoorOB
import Derived.Test.YtfcnedcahoifoaaGreatDoorOH
namespace Go.Proofs.YtfcnedcahoifoaaGreatDoor
open Go.RowKit
open _root_.Array renaming getElem?_eq_some_iff→aw,toList_empty→gP
open _root_.Bool renaming and_eq_true→ba
open _root_.Go renaming Addr→jG,Calls→jE,Code→bk9,Ending→bi6,Exit→bk7,FuncId→bl9,Program→bi3,TypeId→jH,Value→jD,World→jC,info_parts→bi5,run_makeSlice_owned→bk8,run_underlying→bi8,wpQuiet_nil→bl0
open _root_.Go.Addr renaming add→iU
open _root_.Go.Builtin renaming clear_→gE,zeroCells→d8
open _root_.Go.Ending renaming returned→ff
open _root_.Go.Instr renaming slice→gI
open _root_.Go.Lib renaming run_eql_slice_nil→fR
open _root_.Go.Program renaming elem→gR
open _root_.Go.Result renaming andThen→dw
open _root_.Go.RowKit renaming intOf→av
open _root_.Go.Sem renaming run_bind→eT
open _root_.Go.Value renaming int→br
open _root_.Go.World renaming block_lt_of_cell?→b8,cell?_of_block→co,ownsRow_made→gO,ownsRow_nil→dY,setCell→bj
open _root_.List renaming append_assoc→eH,drop_drop→gp,drop_eq_getElem_cons→dN,drop_eq_nil_of_le→ei,drop_succ_cons→jc,eq_nil_of_length_eq_zero→da,filter_append→gQ,filter_cons→eC,filter_eq_self→eY,flatMap_cons→dg,getElem?_eq_getElem→an,getElem?_eq_none→fS,getElem?_eq_some_iff→ci,getElem?_map→eD,getElem?_set_self→gM,getElem_cons_succ→ej,getElem_cons_zero→dQ,getElem_map→gD,getElem_mem→ar,getElem_of_mem→dR,getElem_set_self→fP,getElem_set→eW,getElem_take→jt,length_append→cd,length_cons→c_,length_drop→dr,length_filter_le→fe,length_map→ax,length_nil→dp,length_set→eq,length_singleton→fT,length_take→cv,length→ez,map_append→dH,map_cons→df,map_set→iJ,map_take→iR,mem_append→ed,mem_cons→cw,mem_filter→eN,mem_flatMap→ir,mem_map→dq,mem_of_getElem?→cm,mem_of_mem_drop→eJ,mem_of_mem_take→dy,mem_or_eq_of_mem_set→dO,nil_append→dz,pairwise_append→il,pairwise_cons→b6,pairwise_iff_getElem→cj,range_succ→fV,range→bu,set_append_right→iN,set_cons_succ→am,set_cons_zero→ak,set_getElem_self→ie,take_length→dP,take_nil→iT,take_of_length_le→cl,take_set_of_le→gm,take_sublist→js,take_succ_cons→iz,take_succ_eq_append_getElem→aj,take_zero→fO
open _root_.Nat renaming add_zero→ip,eq_zero_or_pos→fM,le_refl→ay,le_trans→a_,lt_of_lt_of_le→cn,lt_or_eq_of_le→iE,lt_succ_self→fA,mod_lt→jj,mul_le_mul_right→fZ,zero_add→au,zero_le→be,zero_mul→fh
open _root_.Option renaming getD_some→jz,map_some→jb
set_option maxRecDepth 100000
set_option maxHeartbeats 16000000
set_option linter.unusedVariables false
set_option linter.unusedSimpArgs false
def pi(l m:List kI):Bool:=decide (l=m)
theorem tM:∀{l m n:List kI},kV l m=true→kV m n=true→kV l n=true
 |[],[],_,h,_=>by simp[kV]at h
 |[],_::_,[],_,h=>by simp[kV]at h
 |[],_::_,_::_,_,_=>rfl
 |_::_,[],_,h,_=>by simp[kV]at h
 |_::_,_::_,[],_,h=>by simp[kV]at h
 |x::l,y::m,z::n,h,k=>by
  rw[kV]at h k⊢;by_cases p1:tx x.1=tx y.1<;>by_cases q1:tx y.1=tx z.1
  ·by_cases p2:tx x.2=tx y.2<;>by_cases q2:tx y.2=tx z.2
   ·rw[if_pos ⟨p1,p2⟩]at h;rw[if_pos ⟨q1,q2⟩]at k;rw[if_pos ⟨p1.trans q1,p2.trans q2⟩];exact tM h k
   ·rw[if_neg (fun e=>q2 e.2),if_pos q1]at k;rw[if_neg (fun e=>q2 (p2.symm.trans e.2)),if_pos (p1.trans q1),p2];exact k
   ·rw[if_neg (fun e=>p2 e.2),if_pos p1]at h;rw[if_neg (fun e=>p2 (e.2.trans q2.symm)),if_pos (p1.trans q1),←q2];exact h
   rw[if_neg (fun e=>p2 e.2),if_pos p1]at h;rw[if_neg (fun e=>q2 e.2),if_pos q1]at k;have t:=qd h k;rw[if_neg (fun e=>by rw[e.2,zk]at t;cases t),if_pos (p1.trans q1)];exact t
  ·rw[if_neg (fun e=>q1 e.1),if_neg q1]at k;rw[if_neg (fun e=>q1 (p1.symm.trans e.1)),if_neg (fun e=>q1 (p1.symm.trans e)),p1];exact k
  ·rw[if_neg (fun e=>p1 e.1),if_neg p1]at h;rw[if_neg (fun e=>p1 (e.1.trans q1.symm)),if_neg (fun e=>p1 (e.trans q1.symm)),←q1];exact h
  rw[if_neg (fun e=>p1 e.1),if_neg p1]at h;rw[if_neg (fun e=>q1 e.1),if_neg q1]at k;have t:=qd h k;have ne:tx x.1≠tx z.1:=fun e=>by rw[e,zk]at t;cases t
  rw[if_neg (fun e=>ne e.1),if_neg ne];exact t
theorem Xl{x y:kI}(h1:tx x.1=tx y.1)(h2:tx x.2=tx y.2):x=y:=Prod.ext (VL.1 h1) (VL.1 h2)
theorem Ax:∀l m:List kI,(kV l m=true∧kV m l=false∧pi l m=false)∨(kV l m=false∧kV m l=true∧pi l m=false)∨(kV l m=false∧kV m l=false∧pi l m=true)
 |[],[]=>.inr (.inr ⟨rfl,rfl,rfl⟩)
 |[],y::m=>.inl ⟨rfl,rfl,by simp[pi]⟩
 |x::l,[]=>.inr (.inl ⟨rfl,rfl,by simp[pi]⟩)
 |x::l,y::m=>by
  rw[kV,kV];by_cases h1:tx x.1=tx y.1
  ·by_cases h2:tx x.2=tx y.2
   ·rw[if_pos ⟨h1,h2⟩,if_pos ⟨h1.symm,h2.symm⟩];have e:=Xl h1 h2;subst e;have hs:pi (x::l) (x::m)=pi l m:=by simp[pi]
    rw[hs];exact Ax l m
   rw[if_neg (show¬(tx x.1=tx y.1∧tx x.2=tx y.2)from fun h=>h2 h.2),if_neg (show¬(tx y.1=tx x.1∧tx y.2=tx x.2)from fun h=>h2 h.2.symm),if_pos h1,if_pos h1.symm];have hs:pi (x::l) (y::m)=false:=by
    simp only[pi,decide_eq_false_iff_not];intro e;injection e with e _;exact h2 (by rw[e])
   rw[hs];rcases ur (tx x.2) (tx y.2)with h|h|h
   ·exact .inl ⟨h,qe h,rfl⟩
   ·exact absurd h h2
   exact .inr (.inl ⟨qe h,h,rfl⟩)
  rw[if_neg (show¬(tx x.1=tx y.1∧tx x.2=tx y.2)from fun h=>h1 h.1),if_neg (show¬(tx y.1=tx x.1∧tx y.2=tx x.2)from fun h=>h1 h.1.symm),if_neg h1,if_neg (Ne.symm h1)];have hs:pi (x::l) (y::m)=false:=by
   simp only[pi,decide_eq_false_iff_not];intro e;injection e with e _;exact h1 (by rw[e])
  rw[hs];rcases ur (tx x.1) (tx y.1)with h|h|h
  ·exact .inl ⟨h,qe h,rfl⟩
  ·exact absurd h h1
  exact .inr (.inl ⟨qe h,h,rfl⟩)
theorem Mw:∀(n:Nat)(l:List UInt8),l.length≤n→l.length≤4*(cp l).length
 |0,l,h=>jS
 |n+1,l,h=>by
  by_cases e:l=[]
  ·subst e;simp
  have hb:=oQ l;have ih:=Mw n (l.drop (nP l).2) (by rw[dr];omega);rw[Mx e,c_];rw[dr]at ih;omega
variable{l:List kI}
theorem mt(h:setB l=true):l.length≤6∧∀x∈l,x.1.size≤12∧x.2.size≤96:=by
 refine⟨?_,fun x hx=>?_⟩
 ·unfold setB at h;simp only[ba,decide_eq_true_eq]at h;exact h.1.2
 obtain⟨h1,h2⟩:=FU h x hx;simp only[nameB,mP,ba,decide_eq_true_eq]at h1 h2;rw[lG]at h1;have h3:=Mw _ (tx x.2) aa;rw[lG]at h3;exact⟨h1.1.2,jS⟩
structure GS(s:mq):Prop where
 set:setB s.l=true
 k:GK s.k
 seen:U s.seen
structure GT(t:List mq):Prop where
 len:t.length≤20
 all:∀s∈t,GS s
 up:t.Pairwise fun a b=>kV a.l b.l=true
theorem GT.nil:GT []:=⟨lV,fun _ h=>WY,List.Pairwise.nil⟩
theorem GT.filter{t:List mq}(h:GT t)(p:mq→Bool):GT (t.filter p):=⟨a_ (fe _ _) h.len,fun s hs=>h.all s (eN.1 hs).1,h.up.filter _⟩
variable{s:mq}
theorem GT.one(h:GS s):GT [s]:=⟨lV,fun x hx=>by simp at hx;rw[hx];exact h,lV⟩
def o_(t:List mq)(l:List kI):Nat:=(t.takeWhile fun s=>kV s.l l).length
def mQ(t:List mq)(l:List kI):Bool:=decide ((t[o_ t l]?).map (·.l)=some l)
theorem Lk(t:List mq)(l:List kI):o_ t l≤t.length:=(List.takeWhile_prefix _).length_le
theorem VN{p:mq→Bool}:∀{t:List mq}(k:Nat)(h:k<(t.takeWhile p).length),p (t[k]'(cn h (List.takeWhile_prefix _).length_le))=true
 |[],k,h=>WY
 |x::t,k,h=>by
  by_cases hp:p x=true
  ·rw[List.takeWhile_cons_of_pos hp]at h
   cases k with
   |zero=>exact hp
   |succ k=>simpa using VN (t:=t) k S6
  rw[List.takeWhile_cons_of_neg hp]at h;simp at h
theorem Cv{p:mq→Bool}:∀{t:List mq}(h:(t.takeWhile p).length<t.length),p (t[(t.takeWhile p).length])=false
 |[],h=>WY
 |x::t,h=>by
  by_cases hp:p x=true
  ·have e:(x::t).takeWhile p=x::t.takeWhile p:=List.takeWhile_cons_of_pos hp;have h':(t.takeWhile p).length<t.length:=by rw[e]at h;simpa using h
   have:=Cv h';simp only[e,c_,ej];exact this
  have e:(x::t).takeWhile p=[]:=List.takeWhile_cons_of_neg hp;simp only[e,dp,dQ];simpa using hp
variable{t:List mq}{k:Nat}
theorem E4(h:k<o_ t l):kV (t[k]'(cn h (Lk t l))).l l=true:=VN (p:=fun s=>kV s.l l) k h
theorem Sr(h:o_ t l<t.length):kV t[o_ t l].l l=false:=Cv (p:=fun s=>kV s.l l) h
theorem Ss(hk:k≤t.length)(h1:∀j(hj:j<k),kV (t[j]'(by omega)).l l=true)(h2:∀h:k<t.length,kV t[k].l l=false):o_ t l=k:=by
 rcases Nat.lt_trichotomy (o_ t l) k with h|h|h
 ·have:=Sr (l:=l) (t:=t) jS;rw[h1 _ h]at this;cases this
 ·exact h
 have:=E4 h;rw[h2 (by have:=Lk t l;omega)]at this;cases this
theorem zN(h:mQ t l=true):∃hk:o_ t l<t.length,t[o_ t l].l=l:=by
 unfold mQ at h;rw[decide_eq_true_iff]at h
 cases e:t[o_ t l]? with
 |none=>rw[e]at h;simp at h
 |some s=>
  obtain⟨hk,es⟩:=ci.1 e;rw[e]at h;exact⟨hk,by rw[es];simpa using h⟩
theorem CW(h:mQ t l=false)(hk:o_ t l<t.length):kV l t[o_ t l].l=true:=by
 have hn:=Sr hk;rcases Ax t[o_ t l].l l with q|q|q
 ·rw[hn]at q;exact absurd q.1 lV
 ·exact q.2.1
 have e:t[o_ t l].l=l:=by have:=q.2.2;simpa[pi]using this
 unfold mQ at h;rw[an hk]at h;simp[e]at h
def CL(t:List mq)(s:mq):List mq:=if mQ t s.l=true then t.take (o_ t s.l)++s::t.drop (o_ t s.l+1)else t.take (o_ t s.l)++s::t.drop (o_ t s.l)
def Dm(t:List mq)(l:List kI):Bool:= !mQ t l&&decide (t.length=20)
variable{j:Nat}
theorem P5(h:t.Pairwise fun a b=>kV a.l b.l=true)(h1:∀i(hi:i<t.length),i<k→kV t[i].l s.l=true)(h2:∀i(hi:i<t.length),j≤i→kV s.l t[i].l=true):(t.take k++s::t.drop j).Pairwise fun a b=>kV a.l b.l=true:=by
 have m1:∀a∈t.take k,kV a.l s.l=true:=fun a ha=>by
  obtain⟨i,hi,rfl⟩:=dR ha;rw[jt];exact h1 i (by simp at hi;omega) (by simp at hi;omega)
 have m2:∀b∈t.drop j,kV s.l b.l=true:=fun b hb=>by
  obtain⟨i,hi,rfl⟩:=dR hb;rw[List.getElem_drop];exact h2 (j+i) (by simp at hi;omega) jS
 refine il.2 ⟨h.sublist (js _ _),b6.2 ⟨m2,h.sublist (List.drop_sublist _ _)⟩,fun a ha b hb=>?_⟩;rcases cw.1 hb with rfl|hb
 ·exact m1 a ha
 exact tM (m1 a ha) (m2 b hb)
theorem P7(h:GT t)(hs:GS s)(hf:Dm t s.l=false):GT (CL t s):=by
 have hp:=cj.1 h.up;unfold CL;split
 ·rename_i ht;obtain⟨hk,e⟩:=zN ht;refine⟨?_,fun x hx=>?_,P5 h.up (fun i hi hl=>E4 hl) fun i hi hl=>?_⟩
  ·have:=h.len;simp;omega
  ·rcases ed.1 hx with hx|hx
   ·exact h.all x (dy hx)
   rcases cw.1 hx with rfl|hx
   ·exact hs
   exact h.all x (eJ hx)
  have:=hp (o_ t s.l) i hk hi jS;rw[e]at this;exact this
 rename_i ht;replace ht:mQ t s.l=false:=by simpa using ht
 refine⟨?_,fun x hx=>?_,P5 h.up (fun i hi hl=>E4 hl) fun i hi hl=>?_⟩
 ·have:=h.len;have hn:t.length≠20:=by unfold Dm at hf;rw[ht]at hf;simpa using hf
  simp;omega
 ·rcases ed.1 hx with hx|hx
  ·exact h.all x (dy hx)
  rcases cw.1 hx with rfl|hx
  ·exact hs
  exact h.all x (eJ hx)
 have hk:o_ t s.l<t.length:=jS;rcases iE hl with h9|h9
 ·exact tM (CW ht hk) (hp (o_ t s.l) i hk hi h9)
 subst h9;exact CW ht hk
def nF(s:mq):Int:=wM s.k+16+((qR s.l).length:Int)
def kJ(t:List mq):Int:=(t.map nF).sum
theorem GT.kY(h:GT t)(k:Nat)(hk:k<t.length){x:Sk}(hx:GK x):GT (t.set k {t[k]with k:=x}):=by
 refine⟨by rw[eq];exact h.len,fun s hs=>?_,cj.2 fun i j hi hj hij=>?_⟩
 ·rcases dO hs with hs|hs
  ·exact h.all s hs
  have:=h.all t[k] (ar hk);rw[hs];exact⟨this.set,hx,this.seen⟩
 have hi':i<t.length:=by simpa using hi
 have hj':j<t.length:=by simpa using hj
 have e:∀(i:Nat)(hi:i<t.length),((t.set k {t[k]with k:=x})[i]'(by simpa using hi)).l=t[i].l:=fun i hi=>by
  rw[eW];split
  ·subst_vars;rfl
  rfl
 rw[e i hi',e j hj'];exact cj.1 h.up i j hi' hj' hij
def nN(t:List mq)(kind:Int):List Nat→Sk→Sk
 |[],a=>a
 |k::ks,a=>nN t kind ks (if(t[k]?.map (·.k.kind))=some kind then mZ a ((t[k]?.map (·.k)).getD a)else a)
theorem LI{t:List mq}{kind:Int}(h:GT t):∀(ks:List Nat){a:Sk},(∀k∈ks,k<t.length)→GK a→a.kind=kind→GK (nN t kind ks a)∧(nN t kind ks a).kind=kind
 |[],a,_,ha,hk=>⟨ha,hk⟩
 |k::ks,a,hl,ha,hk=>by
  have hl':=hl k lV;rw[nN];refine LI h ks (fun j hj=>hl j (by simp[hj])) ?_ ?_
  all_goals
   rw[an hl'];simp only[jb,Option.some.injEq,jz];split
   ·rename_i e;have:=Ei ha (h.all t[k] (ar hl')).k (hk.trans e.symm);first|exact this.1|exact this.2.trans hk
   assumption
instance i3_(x0:jZ):CoeOut (sH 3 x0) (List jD):=⟨fun _=>[jN x0.la x0.s.l x0.lc,jJ x0.m.s.kind,jJ x0.m.s.level,jN x0.m.ea x0.m.s.e x0.m.ec,jJ x0.m.s.bits,jL x0.m.s.regs,jJ x0.m.s.rows,jJ x0.m.s.cols,jN x0.m.ca x0.m.s.c x0.m.cc,jJ x0.m.s.fine,jN x0.m.ga x0.m.s.g x0.m.gc,jK x0.s.seen]⟩
instance aZ4(x0:List jZ)(x1:jD):CoeOut (wU 34 x0 x1) Nat:=⟨fun _=>x0.length-(av x1).toNat⟩
structure oI(w:jC)(A:Option jG)(ms:List jZ):Prop where
 tab:Tab w w A ms
 g:GT (ms.map (·.s))
theorem oI.later{w w':jC}{A:Option jG}{ms:List jZ}(h:oI w A ms)(hb:Below w w w'):oI w' A ms:=⟨h.tab.later hb,h.g⟩
theorem oI.len{w:jC}{A:Option jG}{ms:List jZ}(h:oI w A ms):ms.length≤20:=by have:=h.g.len;rwa[ax]at this
variable{w:jC}{A:Option jG}{ms:List jZ}
theorem oI.gs(h:oI w A ms)(hk:k<ms.length):GS ms[k].s:=h.g.all _ (dq.2 ⟨_,ar hk,rfl⟩)
theorem oI.ok{w:jC}{A:Option jG}{ms:List jZ}(h:oI w A ms){k:Nat}(hk:k<ms.length):my w w ms[k]:=h.tab.ok _ (ar hk)
theorem oI.step(h:oI w A ms)(hk:j+1<ms.length):kV ms[j].s.l ms[j+1].s.l=true:=by
 have:=cj.1 h.g.up j (j+1) qlm qlm jS;simpa using this
theorem set_any(l:List kI)(A:Option jG)(c:Nat)(h:setB l=true)(w:jC)(hT:Tb w)(hS:Lb w w A l):jE Tryz.prog 134 #[jN A l c] w fun e w'=>e=.returned (.bool true)∧Below w w w':=by
 have:=j_ A l c (fun x hx=>by have:=(mt h).2 x hx;omega) w hT hS;rwa[h]at this
theorem Aa(m:jZ)(hG:GS m.s)(w:jC)(hT:Tb w)(hm:my w w m):
 jE Tryz.prog 138 #[yV m] w fun e w'=>e=.returned (.bool true)∧Below w w w':=by
 have QR:Hid (∀w',Below w w w'→jE Tryz.prog 134 #[jN m.la m.s.l m.lc] w' fun e w''=>e=.returned (.bool true)∧Below w' w' w''):=fun w' h=>set_any _ _ _ hG.set w' (hT.later h) (hm.later h).l
 have QK:Hid (∀w',Below w w w'→jE Tryz.prog 183 #[nT m.m] w' fun e w''=>e=.returned (.bool true)∧Below w' w' w''):=fun w' h=>by
  have hg:GK m.m.s:=by rw[m.hk];exact hG.k
  exact Q5 m.m hg.right w' (hm.later h).k hg.fit
 clear hT hm hG
 unfold nT at QK
 go_in
 unfold yV
 go_wp2_with fail
 refine kf (fun _=>True) ((Hold.nil w).alloc w 197 (lz 3 m)) trivial (fun V HV _=>?_)
 refine(QR V HV.below).mono ?_
 rintro e w1⟨rfl,hb1⟩
 replace HV:=ah (HV.call hb1)
 clear hb1 QR
 have x:=fk (HV.facts)
 go_wp2_with fail
 refine(QK _ HV.below).mono ?_
 rintro e w2⟨rfl,hb2⟩
 replace HV:=(HV.call hb2).below
 clear hb2 QK x
 go_wp2
 go_ret
 exact⟨rfl,HV⟩
theorem ql(A:Option jG)(ms:List jZ)(cap:Nat)(w:jC)(hT:Tb w)(hS:oI w A ms):
 jE Tryz.prog 98 #[jN A ms cap] w fun e w'=>e=.returned (.bool true)∧Below w w w':=by
 have h20:=hS.len
 have b20:decide (20<(ms.length:Int))=false:=ag
 have HS:=ah hS
 have HT:=ah hT
 clear hS hT
 go_in
 go_wp2_with fail
 clear b20
 go_loopw[10] (fun i wr=>∃k:Nat,i=(aJ k)∧k≤ms.length∧(bB w wr)) (fun i _=>(lI 34 ms i))
 case atStart=>exact⟨0,rfl,be _,jQ _⟩
 obtain⟨k,rfl,hk,HB⟩:=hrel
 by_cases h1:k<ms.length
 ·have d1:decide ((k:Int)<ms.length)=true:=ae;obtain⟨b,off,rfl,hb,hc⟩:=HS.tab.at_ jS;obtain⟨i0,i1,i2,i3,i4,i5,i6,i7,i8,i9,i10,i11⟩:=(hc k h1).below HB hb;have hbw:b<wr.heap.size:=qes;have hi1:(0:Int)≤k:=jS;have hi2:(k:Int)<ms.length:=jS;have HM:Hid (∀w',Below w w w'→jE Tryz.prog 138 #[yV ms[k]] w' fun e w''=>e=.returned (.bool true)∧Below w' w' w''):=fun w' h=>Aa _ (HS.gs h1) w' (HT.later h) ((HS.ok h1).later h);have Lt:Hid (∀j,k=j+1→∃m:jZ,w.cell? ⟨b,off+j*12,none⟩=some (.slice m.la m.s.l.length m.lc)∧∀w',Below w w w'→jE Tryz.prog 135 #[jN m.la m.s.l m.lc,.slice ms[k].la ms[k].s.l.length ms[k].lc] w' fun e w''=>e=.returned (.bool true)∧Below w' w' w''):=fun j e=>by
   subst e;have hj:j<ms.length:=jS;refine⟨ms[j],(hc j hj).c0,fun w' h=>?_⟩;have:=Gy ms[j].la ms[j+1].la ms[j].s.l ms[j+1].s.l ms[j].lc ms[j+1].lc (by have:=(mt (HS.gs hj).set).1;omega) (by have:=(mt (HS.gs h1).set).1;omega) w' ((HS.ok hj).later h).l ((HS.ok h1).later h).l;rwa[HS.step h1]at this
  clear hc;generalize ms[k]=m at*
  unfold yV at HM;go_wp2_with fail;refine kf (fun V=>Below w w V) ((Hold.nil wr).alloc wr 197 (lz 3 m)) (jP HB _) (fun V HV Ha=>?_);refine(HM V Ha).mono ?_;rintro e w1⟨rfl,hb1⟩;replace HV:=ah (HV.call hb1);have Th:=ah (Below.two Ha hb1);clear hb1 Ha HM HB;have x:=fk (HV.facts);have x0:=x.2.2.1;have hxw:wr.heap.size<w1.heap.size:=x.1;clear x HV i0 i1 i2 i3 i4 i5 i6 i7 i8 i9 i10 i11;generalize wr.heap.size=bx at*
  haveI hAW:=After.some w1;have F0:=After.cell x0 hxw;by_cases hk0:k=0
  ·have g1:decide ((0:Int)<k)=false:=mO;have g2:decide (0<k)=false:=mO;clear Lt hk0;go_wp2;refine rgb ?_;repeat(go_big_quiet_step (first|fail))
   refine bl0 ?_;rintro w9⟨y9,Dd⟩;have BI:(bB w w9):=Th.trans ((show Below w1 w1 w9 by rw[Dd];exact y9.is).mono Th.size);clear Dd y9;go_wp2;go_roundw
   case rel=>exact⟨k+1,CJ,jS,BI⟩
   exact No
  obtain⟨j,rfl⟩:∃j,k=j+1:=⟨k-1,jS⟩;have g1:decide ((0:Int)<((j+1:Nat):Int))=true:=ae;obtain⟨p,hp1,hp2⟩:=Lt j rfl;have hpc:=(Th.cell (p:=⟨b,off+j*12,none⟩) hb).trans hp1;have ab7:b<w1.heap.size:=by have:=Th.size;omega
  have F1:=After.cell hpc ab7;have QL:Hid (∀y:After w1,jE Tryz.prog 135 #[jN p.la p.s.l p.lc,jN m.la m.s.l m.lc] y.at_ fun e w'=>e=.returned (.bool true)∧Below y.at_.heap.size y.at_ w'):=fun y=>hp2 y.at_ (Th.trans (y.is.mono Th.size));have hj1:(0:Int)≤j:=jS;have hj2:(j:Int)<ms.length:=jS;clear hp1 hp2 hk0 Lt;go_wp2_with fail;refine rgb ?_;repeat(go_big_quiet_step (first|with_reducible exact na (QL.out _)))
  refine bl0 ?_;rintro w9⟨y9,Dd⟩;have BI:(bB w w9):=Th.trans ((show Below w1 w1 w9 by rw[Dd];exact y9.is).mono Th.size);clear Dd y9;go_wp2;go_roundw
  case rel=>exact⟨j+1+1,CJ,jS,BI⟩
  exact No
 have hkk:k=ms.length:=jS
 subst hkk
 have d1:decide ((ms.length:Int)<ms.length)=false:=lV
 go_wp2
 go_ret
 exact⟨rfl,HB⟩
theorem drop_eq{m:List kI}(h1:k<l.length)(h2:k<m.length):decide (l.drop k=m.drop k)=(decide (k7 l k=k7 m k)&&decide (l.drop (k+1)=m.drop (k+1))):=by
 rw[wL h1,wL h2];by_cases e1:k7 l k=k7 m k<;>by_cases e2:l.drop (k+1)=m.drop (k+1)<;>simp[e1,e2]
theorem Kd(A C:Option jG)(l m:List kI)(cap XX:Nat)(hl:l.length≤4294967296)(w:jC)(hS:Lb w w A l)(hM:Lb w w C m):
 jE Tryz.prog 136 #[jN A l cap,jN C m XX] w fun e w'=>e=.returned (.bool (decide (l=m)))∧Below w w w':=by
 by_cases hlen:m.length=l.length
 ·have HS:=ah hS;have HM:=ah hM;have HL:=ah hlen;rw[hlen];clear hS hM hlen;go_in;go_wp2_with fail;go_loopw[13] (fun i wr=>∃k:Nat,i=(aJ k)∧k≤l.length∧Hid (decide (l=m)=decide (l.drop k=m.drop k))∧(bB w wr)) (fun i _=>l.length-(av i).toNat)
  case atStart=>exact⟨0,rfl,be _,rfl,jQ _⟩
  obtain⟨k,rfl,hk,HE,HB⟩:=hrel;by_cases h1:k<l.length
  ·have d1:decide ((k:Int)<l.length)=true:=ae;have h2:k<m.length:=by have:=HL.out;omega
   obtain⟨b,off,rfl,hb,hc⟩:=HS.at_ jS;obtain⟨c1,c2⟩:=hc k h1;obtain⟨b',off',rfl,hb',hc'⟩:=HM.at_ jS;obtain⟨c3,c4⟩:=hc' k h2;have i1:=(HB.cell (p:=(cP b off k)) hb).trans c1;have i2:=(HB.cell (p:=(cE b off k)) hb).trans c2;have j1:=(HB.cell (p:=(cP b' off' k)) hb').trans c3;have j2:=(HB.cell (p:=(cE b' off' k)) hb').trans c4;have hi1:(0:Int)≤k:=jS;have hi2:(k:Int)<l.length:=jS;have HD:Hid (decide (l=m)=(decide (k7 l k=k7 m k)&&decide (l.drop (k+1)=m.drop (k+1)))):=HE.trans (drop_eq h1 h2);have IY:=ah HB.drew;clear hc hc' c1 c2 c3 c4 h2 HE;generalize k7 l k=x at*
   generalize k7 m k=y at*
   obtain⟨x1,x2⟩:=x;obtain⟨y1,y2⟩:=y;simp only at i1 i2 j1 j2;by_cases e1:x1.toList=y1.toList
   ·have b1:(x1.toList==y1.toList)=true:=by rw[beq_iff_eq];exact e1
    have e1':x1=y1:=rX (by rw[←km,←km,e1]);by_cases e2:x2.toList=y2.toList
    ·have b2:(x2.toList==y2.toList)=true:=by rw[beq_iff_eq];exact e2
     have e2':x2=y2:=rX (by rw[←km,←km,e2]);have HN:Hid (decide (l=m)=decide (l.drop (k+1)=m.drop (k+1))):=by show _=_;rw[HD,e1',e2'];simp
     clear e1' e2' HD;go_wp2;go_region_held(fun w'=>w'.cell? (cP b off k)=some (.string x1)∧w'.cell? (cE b off k)=some (.string x2)∧w'.cell? (cP b' off' k)=some (.string y1)∧w'.cell? (cE b' off' k)=some (.string y2)) (first|assumption|exact⟨i1,i2,j1,j2⟩|go_keep) (fail);go_wp2;go_roundw
     case rel=>exact⟨k+1,CJ,jS,HN,IY⟩
     exact No
    have b2:(x2.toList==y2.toList)=false:=by rw[beq_eq_false_iff_ne];exact e2
    have HN:Hid (decide (l=m)=false):=by show _=_;rw[HD];simp;intro _ h;exact absurd (by rw[h]) e2
    clear e1' HD;go_wp2;go_region_held(fun w'=>w'.cell? (cP b off k)=some (.string x1)∧w'.cell? (cE b off k)=some (.string x2)∧w'.cell? (cP b' off' k)=some (.string y1)∧w'.cell? (cE b' off' k)=some (.string y2)) (first|assumption|exact⟨i1,i2,j1,j2⟩|go_keep) (fail);go_wp2;go_ret;exact⟨jU HN.symm,IY⟩
   have b1:(x1.toList==y1.toList)=false:=by rw[beq_eq_false_iff_ne];exact e1
   have HN:Hid (decide (l=m)=false):=by show _=_;rw[HD];simp;intro h;exact absurd (by rw[h]) e1
   clear HD;go_wp2;go_region_held(fun w'=>w'.cell? (cP b off k)=some (.string x1)∧w'.cell? (cE b off k)=some (.string x2)∧w'.cell? (cP b' off' k)=some (.string y1)∧w'.cell? (cE b' off' k)=some (.string y2)) (first|assumption|exact⟨i1,i2,j1,j2⟩|go_keep) (fail);go_wp2;go_ret;exact⟨jU HN.symm,IY⟩
  have hkk:k=l.length:=jS;subst hkk;have d1:decide ((l.length:Int)<l.length)=false:=lV;have HN:Hid (decide (l=m)=true):=by show _=_;rw[HE,ei aa,ei (by have:=HL.out;omega)];simp
  go_wp2;go_ret;exact⟨jU HN.symm,HB⟩
 have b1:((l.length:Int)==(m.length:Int))=false:=O1
 have b2:(l.length==m.length)=false:=O1
 have b3:decide (l.length=m.length)=false:=mO
 have HN:Hid (decide (l=m)=false):=by show _=_;simp;intro h;exact hlen (by rw[h])
 clear hlen hS hM
 go_in
 go_wp2
 go_ret
 exact⟨jU HN.symm,jQ _⟩
theorem RQ(A:Option jG)(ms:List jZ)(cap:Nat)(B:Option jG)(l:List kI)(lc:Nat)(hl:l.length≤1000)(w:jC)(hT:Tb w)(hS:oI w A ms)(hL:Lb w w B l):
 jE Tryz.prog 94 #[jN A ms cap,jN B l lc] w fun e w'=>e=.returned (.tuple #[jJ (o_ (ms.map (·.s)) l:Nat),.bool (mQ (ms.map (·.s)) l)])∧Below w w w':=by
 have HS:=ah hS
 have QR:=ah (ql A ms cap w hT hS)
 have h20:=hS.len
 have QL:Hid (∀k(h:k<ms.length) w',Below w w w'→jE Tryz.prog 135 #[.slice ms[k].la ms[k].s.l.length ms[k].lc,jN B l lc] w' fun e w''=>e=.returned (.bool (kV ms[k].s.l l))∧Below w' w' w''):=fun k h w' hb=>
  Gy _ _ _ _ _ _ (by have:=(mt (hS.gs h).set).1;omega) jS w' ((hS.ok h).later hb).l (hL.later hb)
 have QE:Hid (∀k(h:k<ms.length) w',Below w w w'→jE Tryz.prog 136 #[.slice ms[k].la ms[k].s.l.length ms[k].lc,jN B l lc] w' fun e w''=>e=.returned (.bool (decide (ms[k].s.l=l)))∧Below w' w' w''):=fun k h w' hb=>
  Kd _ _ _ _ _ _ (by have:=(mt (hS.gs h).set).1;omega) w' ((hS.ok h).later hb).l (hL.later hb)
 clear hS hT hL
 go_in
 go_wp2_with fail
 refine QR.mono ?_
 rintro e w1⟨rfl,hb1⟩
 have HB1:=ah hb1
 clear hb1 QR
 go_wp2_with fail
 go_loopw[6] (fun i wr=>∃k:Nat,i=(aJ k)∧k≤ms.length∧Hid (∀j(hj:j<(ms.map (·.s)).length),j<k→kV (ms.map fun x:jZ=>x.s)[j].l l=true)∧(bB w wr)) (fun i _=>(lI 34 ms i))
 case atStart=>exact⟨0,rfl,be _,fun j _ h=>jS,HB1⟩
 obtain⟨k,rfl,hk,HE,HB⟩:=hrel
 by_cases h1:k<ms.length
 ·have d1:decide ((k:Int)<ms.length)=true:=ae;obtain⟨b,off,rfl,hb,hc⟩:=HS.tab.at_ jS;have i0:=(HB.cell (p:=⟨b,off+k*12,none⟩) hb).trans (hc k h1).c0;have hi1:(0:Int)≤k:=jS;have hi2:(k:Int)<ms.length:=jS;have QLK:=ah (QL k h1);have QEK:=ah (QE k h1);have hmk:(ms.map (·.s))[k]? =some ms[k].s:=by rw[eD,an h1];rfl
  cases hls:kV ms[k].s.l l with
  |true=>
   have HE2:Hid (∀j(hj:j<(ms.map (·.s)).length),j<k+1→kV (ms.map fun x:jZ=>x.s)[j].l l=true):=fun j hj hjk=>by
    rcases iE (Nat.le_of_lt_succ hjk)with h|h
    ·exact HE j hj h
    subst h;rw[gD];exact hls
   rw[hls]at QLK;clear hc hmk hls HE QEK;generalize ms[k]=m at*
   go_wp2_with fail;refine(QLK _ HB).mono ?_;rintro e w2⟨rfl,hb2⟩;have HB2:=ah (Below.two HB hb2);clear hb2;go_wp2;go_roundw
   case rel=>exact⟨k+1,CJ,jS,HE2,HB2⟩
   exact No
  |false=>
   have hat:o_ (ms.map (·.s)) l=k:=Ss (by rw[ax];exact hk) (fun j hj=>HE j _ hj) (fun h=>by rw[gD];exact hls);have HA:Hid (o_ (ms.map (·.s)) l=k∧mQ (ms.map (·.s)) l=decide (ms[k].s.l=l)):=⟨hat,by unfold mQ;rw[hat,hmk];simp⟩;rw[hls]at QLK;clear hc hmk hls HE hat;generalize ms[k]=m at*
   go_wp2_with fail;refine(QLK _ HB).mono ?_;rintro e w2⟨rfl,hb2⟩;have HB2:=ah (Below.two HB hb2);have i0:=(hb2.cell (p:=⟨b,off+k*12,none⟩) (b8 _ _ i0)).trans i0;clear hb2 HB;go_wp2_with fail;refine(QEK _ HB2).mono ?_;rintro e w3⟨rfl,hb3⟩;have HB3:=ah (Below.two HB2 hb3);clear hb3 HB2;go_wp2;go_ret2;exact⟨by rw[HA.1,HA.2];rfl,HB3⟩
 have hkk:k=ms.length:=jS
 subst hkk
 have d1:decide ((ms.length:Int)<ms.length)=false:=lV
 have HA:Hid (o_ (ms.map (·.s)) l=ms.length∧mQ (ms.map (·.s)) l=false):=by
  have hat:o_ (ms.map (·.s)) l=ms.length:=Ss (by rw[ax];exact ay _) (fun j hj=>HE j _ hj) (fun h=>by rw[ax]at h;omega);exact⟨hat,by unfold mQ;rw[hat,fS (by rw[ax];exact ay _)];simp⟩
 clear HE
 go_wp2
 go_ret2
 exact⟨by rw[HA.1,HA.2];rfl,HB⟩
instance i1_(x0:jC)(x1:Nat)(x2:Nat)(x3:jZ):CoeOut (IN 1 x0 x1 x2 x3) jC:=⟨fun _=>(bj (bj (bj (bj (bj (bj (bj (bj (bj (bj (bj x0 ⟨x1,x2*12,none⟩ (.slice x3.la x3.s.l.length x3.lc)) ⟨x1,x2*12+1,none⟩ (.int .i64 x3.m.s.kind)) ⟨x1,x2*12+2,none⟩ (.int .i64 x3.m.s.level)) ⟨x1,x2*12+3,none⟩ (.slice x3.m.ea x3.m.s.e.length x3.m.ec)) ⟨x1,x2*12+4,none⟩ (.int .i64 x3.m.s.bits)) ⟨x1,x2*12+5,none⟩ (.string x3.m.s.regs)) ⟨x1,x2*12+6,none⟩ (.int .i64 x3.m.s.rows)) ⟨x1,x2*12+7,none⟩ (.int .i64 x3.m.s.cols)) ⟨x1,x2*12+8,none⟩ (.slice x3.m.ca x3.m.s.c.length x3.m.cc)) ⟨x1,x2*12+9,none⟩ (.int .i64 x3.m.s.fine)) ⟨x1,x2*12+10,none⟩ (.slice x3.m.ga x3.m.s.g.length x3.m.gc))⟩
instance ba0(x0:jZ):CoeOut (sH 13 x0) (Array jD):=⟨fun _=>#[jN x0.la x0.s.l x0.lc,jJ x0.m.s.kind,jJ x0.m.s.level,jN x0.m.ea x0.m.s.e x0.m.ec,jJ x0.m.s.bits,jL x0.m.s.regs,jJ x0.m.s.rows,jJ x0.m.s.cols,jN x0.m.ca x0.m.s.c x0.m.cc,jJ x0.m.s.fine,jN x0.m.ga x0.m.s.g x0.m.gc,jK x0.s.seen]⟩
instance aZ3(x0:jC)(x1:Nat)(x2:Nat)(x3:jD)(x4:jD)(x5:jD)(x6:jD)(x7:jD)(x8:jD)(x9:jD)(x10:jD)(x11:jD)(x12:jD)(ZF:jD):CoeOut (Wn 37 x0 x1 x2 x3 x4 x5 x6 x7 x8 x9 x10 x11 x12 ZF) jC:=⟨fun _=>(bj (bj (bj (bj (bj (bj (bj (bj (bj (bj (bj x0 ⟨x1,x2*12,none⟩ x3) ⟨x1,x2*12+1,none⟩ x4) ⟨x1,x2*12+2,none⟩ x5) ⟨x1,x2*12+3,none⟩ x6) ⟨x1,x2*12+4,none⟩ x7) ⟨x1,x2*12+5,none⟩ x8) ⟨x1,x2*12+6,none⟩ x9) ⟨x1,x2*12+7,none⟩ x10) ⟨x1,x2*12+8,none⟩ x11) ⟨x1,x2*12+9,none⟩ x12) ⟨x1,x2*12+10,none⟩ ZF)⟩
def tn(m:jZ):Array jD:= (lz 13 m)
def ot(seen now life:Int):Bool:=decide (seen<now∧life<now-seen)
theorem Na(c0 c1 c2 c3 c4 c5 c6 c7 c8 c9 c10:jD)(o0:c0.oneCell'=true)(o1:c1.oneCell'=true)(o2:c2.oneCell'=true)(o3:c3.oneCell'=true)(o4:c4.oneCell'=true)(o5:c5.oneCell'=true)(o6:c6.oneCell'=true)(o7:c7.oneCell'=true)(o8:c8.oneCell'=true)(o9:c9.oneCell'=true)(o10:c10.oneCell'=true)
 (seen now life:Int) (h0:U seen) (h1:U now) (w:jC):
 jE Tryz.prog 205 #[.agg #[c0,c1,c2,c3,c4,c5,c6,c7,c8,c9,c10,jK seen],jK now,jK life] w fun e w'=>e=.returned (.bool (ot seen now life))∧Below w w w':=by
 obtain⟨h0,hs⟩:=h0
 obtain⟨h1,h1'⟩:=h1
 have HB:=ah (jP (jQ w) (.cells #[c0,c1,c2,c3,c4,c5,c6,c7,c8,c9,c10,jK seen] 197))
 by_cases h2:seen<now
 ·by_cases h3:life<now-seen
  ·have HR:Hid (ot seen now life=true):=by show _=_;simp[ot,h2,h3]
   go_in;go_wp2;go_ret;exact⟨by rw[HR];simp[h3],HB⟩
  have HR:Hid (ot seen now life=false):=by show _=_;simp[ot,h3]
  go_in;go_wp2;go_ret;exact⟨by rw[HR];simp[h3],HB⟩
 have HR:Hid (ot seen now life=false):=by show _=_;simp[ot,h2]
 go_in
 go_wp2
 go_ret
 exact⟨by rw[HR];first|rfl|simp[h2]|simp;omega,HB⟩
theorem Nb(m:jZ)(hf:n_ m.s)(now life:Int)(h1:U now)(w:jC):
 jE Tryz.prog 205 #[yV m,jK now,jK life] w fun e w'=>e=.returned (.bool (ot m.s.seen now life))∧Below w w w':=
 Na _ _ _ _ _ _ _ _ _ _ _ rfl rfl rfl rfl rfl rfl rfl rfl rfl rfl rfl m.s.seen now life hf.seen h1 w
theorem zF(m:jZ)(hf:n_ m.s)(now life:Int)(h1:U now)(w:jC):
 jE Tryz.prog 168 #[cI now life,yV m] w fun e w'=>e=.returned (.bool (ot m.s.seen now life))∧Below w w w':=by
 have Q:Hid (∀w,jE Tryz.prog 205 #[yV m,jK now,jK life] w fun e w'=>e=.returned (.bool (ot m.s.seen now life))∧Below w w w'):=fun w=>Nb m hf now life h1 w
 have HB:=ah (jP (jP (jQ w) (.cells #[jK now,jK life] 306)) (.cells (tn m) 197))
 generalize ot m.s.seen now life=b at*
 unfold yV tn at*
 go_in
 go_wp2_with fail
 refine(Q _).mono ?_
 rintro r w1⟨rfl,hb⟩
 go_wp2
 go_ret
 exact⟨rfl,Below.two HB hb⟩
theorem Tryz.zo:(Tryz.prog.info? 197).map (fun i=>(i.zero,i.size,i.bytes))=some (some (.agg #[jM,jJ 0,jJ 0,jM,jJ 0,aF,jJ 0,jJ 0,jM,jJ 0,jM,jK 0]),12,168):=oo
def Ap(A:Option jG)(xs:List jD)(g:Option Nat):Prop:=xs≠[]→∀ad,A=some ad→some ad.block≠g
def Apart(g:Option Nat)(m:jZ):Prop:=Ap m.la (k_ m.s.l) g∧Ap m.m.ea (m.m.s.e.map (br .u64)) g∧Ap m.m.ca (m.m.s.c.map (br .u64)) g∧Ap m.m.ga (Hi.mD m.m.s.g) g
variable{B:Nat}{xs:List jD}
theorem Dz{q:Nat}(h:Rd w B A xs)(hq:B≤q):Ap A xs (some q):=fun hx ad e e2=>by
 obtain⟨b,off,e3,hb,_⟩:=h hx;rw[e]at e3
 cases e3
 have e4:b=q:=Option.some.inj e2;omega
variable{m:jZ}
theorem my.apart{q:Nat}(h:my w B m)(hq:B≤q):Apart (some q) m:=⟨Dz h.l hq,Dz h.k.e hq,Dz h.k.c hq,Dz h.k.g hq⟩
structure lF(w:jC)(B:Nat)(v:jD)(cs:List jZ):Prop where
 own:w.ownsRow B 197 12 v cs.length (lS cs)
 ok:∀m∈cs,my w w m
 ap:∀m∈cs,Apart v.ownBlock m
theorem lF.later{w w':jC}{B:Nat}{v:jD}{cs:List jZ}(h:lF w B v cs)(hb:Below w w w'):lF w' B v cs:=⟨lf h.own hb,fun m hm=>(h.ok m hm).later hb,h.ap⟩
variable{w':jC}{row:Option Nat}
theorem tF(h:Rd w w A xs)(hg:w.grownBy w' row)(hne:Ap A xs row):Rd w' w' A xs:=fun hx=>by
 obtain⟨b,off,e,hb,hc⟩:=h hx;exact⟨b,off,e,cn hb hg.size,fun j v hj=>(co (hg.block b hb (hne hx _ e))).trans (hc j v hj)⟩
theorem my.grown(h:my w w m)(hg:w.grownBy w' row)(ha:Apart row m):my w' w' m:=
 ⟨tF h.l hg ha.1,tF h.k.e hg ha.2.1,tF h.k.c hg ha.2.2.1,tF h.k.g hg ha.2.2.2⟩
variable{n:Nat}{cs:List jZ}
theorem lF.tab{c:Nat}(h:lF w B (.slice A n c) cs):Tab w w A cs:=by
 obtain⟨A',c',e,_,hr,_⟩:=li h.own
 cases e
 exact⟨hr,h.ok⟩
variable{sz:Nat}{v:jD}
theorem pf{t:jH}(h:w.ownsRow B t sz v n xs)(g:Nat)(hg:v.ownBlock=some g):B≤g∧g<w.heap.size:=by
 obtain⟨_,⟨h,e⟩|⟨r,cap,cur,hv,hb,hh,_⟩⟩:=h
 ·subst h;cases hg
 subst hv;cases hg;exact⟨hb,(aw.1 hh).1⟩
theorem FV(m:jZ):∀u∈ng m,u.oneCell'=true:=fun u hu=>by
 simp[ng,YS]at hu;rcases hu with rfl|rfl|rfl|rfl|rfl|rfl|rfl|rfl|rfl|rfl|rfl|rfl<;>rfl
theorem WR(m:jZ):tn m=(ng m).toArray:=rfl
theorem M7(cs:List jZ)(m:jZ):lS (cs++[m])=lS cs++ng m:=by simp[lS]
variable{g:Nat}
theorem P1{t:jH}(h:jR w g t (tn m)):Rd w (g+1) (aC g) (ng m):=fun _=>
 ⟨g,0,rfl,fA _,fun j u hj=>by rw[au];exact(h.cell j).trans (by rw[WR];simpa using hj)⟩
theorem OI{b:Nat}{v:Option Nat}(hl:∀ad,m.la=some ad→b≤ad.block)(he:∀ad,m.m.ea=some ad→b≤ad.block)(hc:∀ad,m.m.ca=some ad→b≤ad.block)(hg:∀ad,m.m.ga=some ad→b≤ad.block)(hv:∀q,v=some q→q<b):Apart v m:=by
 have go:∀(a:Option jG)(xs:List jD),(∀ad,a=some ad→b≤ad.block)→Ap a xs v:=fun a xs h _ ad e1 e2=>by
  have:=h ad e1;have:=hv _ e2.symm;omega
 exact⟨go _ _ hl,go _ _ he,go _ _ hc,go _ _ hg⟩
theorem VP:∀(ms:List jZ)(i:Nat)(a0 a1 a2 a3 a4 a5 a6 a7 a8 a9 a10 a11:jD)(m:jZ),i<ms.length→ng m=[a0,a1,a2,a3,a4,a5,a6,a7,a8,a9,a10,a11]→(((((((((((((lS ms).set (i*12) a0).set (i*12+1) a1).set (i*12+2) a2).set (i*12+3) a3).set (i*12+4) a4).set (i*12+5) a5).set (i*12+6) a6).set (i*12+7) a7).set (i*12+8) a8).set (i*12+9) a9).set (i*12+10) a10).set (i*12+11) a11)=lS (ms.set i m)
 |[],i,_,_,_,_,_,_,_,_,_,_,_,_,_,h,_=>WY
 |y::ms,0,_,_,_,_,_,_,_,_,_,_,_,_,m,_,he=>by
  rw[ak];unfold lS;rw[dg,dg,he];rfl
 |y::ms,i+1,a0,a1,a2,a3,a4,a5,a6,a7,a8,a9,a10,a11,m,h,he=>by
  have ih:=VP ms i a0 a1 a2 a3 a4 a5 a6 a7 a8 a9 a10 a11 m S6 he;rw[am];have e:∀l:List jZ,lS (y::l)=ng y++lS l:=fun l=>by simp[lS]
  rw[e,e,←ih];have s:∀(l:List jD)(c:Nat)(u:jD),(ng y++l).set ((i+1)*12+c) u=ng y++l.set (i*12+c) u:=fun l c u=>by
   rw[iN _ _ (by rw[l7];omega),l7];congr 2;omega
  have s0:∀(l:List jD)(u:jD),(ng y++l).set ((i+1)*12) u=ng y++l.set (i*12) u:=fun l u=>s l 0 u;simp only[s,s0]
theorem ZU{cap:Nat}{i:Nat}(h:w.ownsRow B 197 12 (.slice (aC g) n cap) n (lS ms))(hi:i<ms.length)(a0 a1 a2 a3 a4 a5 a6 a7 a8 a9 a10 a11:jD)(he:ng m=[a0,a1,a2,a3,a4,a5,a6,a7,a8,a9,a10,a11]):
 (bj (ad8 37 w g i a0 a1 a2 a3 a4 a5 a6 a7 a8 a9 a10) ⟨g,i*12+11,none⟩ a11).ownsRow B 197 12 (.slice (aC g) n cap) n (lS (ms.set i m))∧w.grownBy (bj (ad8 37 w g i a0 a1 a2 a3 a4 a5 a6 a7 a8 a9 a10) ⟨g,i*12+11,none⟩ a11) (some g):=by
 have h0:=h.stored (i*12) a0
 have h1:=h0.1.stored (i*12+1) a1
 have h2:=h1.1.stored (i*12+2) a2
 have h3:=h2.1.stored (i*12+3) a3
 have h4:=h3.1.stored (i*12+4) a4
 have h5:=h4.1.stored (i*12+5) a5
 have h6:=h5.1.stored (i*12+6) a6
 have h7:=h6.1.stored (i*12+7) a7
 have h8:=h7.1.stored (i*12+8) a8
 have h9:=h8.1.stored (i*12+9) a9
 have h10:=h9.1.stored (i*12+10) a10
 have h11:=h10.1.stored (i*12+11) a11
 have:=h11.1
 rw[VP ms i a0 a1 a2 a3 a4 a5 a6 a7 a8 a9 a10 a11 m hi he]at this
 refine⟨this,?_⟩
 exact(jW (jW (jW (jW (jW (jW (jW (jW (jW (jW (jW h0.2 h1.2) h2.2) h3.2) h4.2) h5.2) h6.2) h7.2) h8.2) h9.2) h10.2) h11.2)
theorem se(h:w.ownsRow B 197 12 v n xs)(hn:0<n):∃g cap arr,v=.slice (aC g) n cap∧B≤g∧g<w.heap.size∧jR w g 197 arr∧n≤cap∧cap≤9223372036854775807:=by
 rcases h with⟨_,⟨_,h2⟩|⟨g,cap,cur,hv,hb,hh,hnc,hcm,_⟩⟩
 ·omega
 exact⟨g,cap,cur,hv,hb,(aw.1 hh).1,hh,hnc,by unfold maxLen at hcm;omega⟩
theorem r_{i cap:Nat}{t:jH}(h:w.ownsRow B t sz (.slice (aC g) n cap) n xs)(hi:i≤n):w.ownsRow B t sz (.slice (aC g) i cap) i (xs.take (i*sz)):=by
 rcases h with⟨h1,⟨h,_⟩|⟨g',cap',cur,hv,hb,hh,hnc,hcm,hcs,htk⟩⟩
 ·cases h
 cases hv
 have hm:i*sz≤n*sz:=fZ _ hi;refine⟨by rw[cv,h1];omega,.inr ⟨g,cap,cur,rfl,hb,hh,a_ hi hnc,hcm,hcs,?_⟩⟩;rw[←htk,List.take_take];congr 1;omega
theorem sd{B n g cap sz:Nat}{t:jH}:∀(vs:List jD)(o:Nat)(w:jC)(xs:List jD),w.ownsRow B t sz (.slice (aC g) n cap) n xs→∃xs',(w.setCells g o vs).ownsRow B t sz (.slice (aC g) n cap) n xs'∧xs'.take o=xs.take o∧w.grownBy (w.setCells g o vs) (some g)
 |[],o,w,xs,h=>⟨xs,h,rfl,World.grownBy.refl w _⟩
 |v::r,o,w,xs,h=>by
  obtain⟨h1,h2⟩:=h.stored o v;obtain⟨xs',k1,k2,k3⟩:=sd r (o+1) _ _ h1;refine⟨xs',k1,?_,jW h2 k3⟩;have:=congrArg (List.take o) k2;rw[List.take_take,List.take_take,show min o (o+1)=o by omega]at this;rw[this,gm aa]
theorem Tryz.DS(w:jC):(Go.sizeOf (Tryz.prog.elem 108)).run Tryz.prog w=.ok 12 w:=by
 have he:Tryz.prog.elem 108=197:=by simp[gR,Tryz.underlying108]
 obtain⟨i0,hi0,hz0,hz1,hz2⟩:=bi5 Tryz.zo;rw[he];simp[Go.sizeOf,typeInfo,hi0,hz1]
theorem Jt(A:Option jG)(n cap k:Nat)(hk:k≤cap)(w:jC):
 (gI 108 (.slice A n cap) none (some (aJ k)) none).run Tryz.prog w=.ok (.slice A k cap) w:=by
 have ht:Tryz.prog.underlying 108=some (.slice (Tryz.prog.elem 108)):=by
  have he:Tryz.prog.elem 108=197:=by simp[gR,Tryz.underlying108]
  rw[he];exact Tryz.underlying108
 rw[run_slice_h (P:=Tryz.prog) w 108 A n cap ht .i64 (k:Int) jS jS,Tryz.DS]
 have e:Option.map (fun x:jG=>x.add 0) A=A:=by cases A<;>simp[Addr.add_zero']
 simp[dw,sliced,e]
def pU(A:Option jG)(k cap:Nat):Option jG:=if cap=k then A else A.map (·.add (k*12))
theorem zT(A:Option jG)(n cap k:Nat)(hk:k≤n)(w:jC):
 (gI 108 (.slice A n cap) (some (aJ k)) none none).run Tryz.prog w=.ok (.slice (pU A k cap) (n-k) (cap-k)) w:=by
 have ht:Tryz.prog.underlying 108=some (.slice (Tryz.prog.elem 108)):=by
  have he:Tryz.prog.elem 108=197:=by simp[gR,Tryz.underlying108]
  rw[he];exact Tryz.underlying108
 rw[run_slice_l (P:=Tryz.prog) w 108 A n cap ht .i64 (k:Int) jS jS,Tryz.DS]
 simp[dw,sliced,pU]
def pX:Array jD:=#[jM,jJ 0,jJ 0,jM,jJ 0,aF,jJ 0,jJ 0,jM,jJ 0,jM,jK 0]
theorem Fm:∀v∈(d8 pX n).toList,v.oneCell'=true:=fun v hv=>by
 have h12:∀k,k<12→(pX[k]!).oneCell'=true:=B8;unfold d8 at hv;rw[Array.toList_map]at hv;obtain⟨i,_,rfl⟩:=dq.1 hv;exact h12 _ (jj _ B8)
theorem Fo(n:Nat):(d8 pX n).toList.length=n*12:=by
 unfold d8;simp;rfl
theorem BW{cap:Nat}(h:w.ownsRow B 197 12 (.slice (aC g) n cap) n xs)(hk:k≤n)(ty:jH):
 ∃W,(gE #[108] ty #[.slice (pU (aC g) k cap) (n-k) (cap-k)]).run Tryz.prog w=.ok (.tuple #[]) W∧W.ownsRow B 197 12 (.slice (aC g) k cap) k (xs.take (k*12))∧(bY w W g):=by
 by_cases e:k=n
 ·subst e;refine⟨w,?_,r_ h aa,World.grownBy.refl w _⟩;rw[Nat.sub_self];simp only[gE,eT,bi8 Tryz.underlying108,dw]
  cases pU (aC g) k cap<;>simp[bi8 Tryz.underlying108]
 have hn:0<n:=jS
 obtain⟨g',cap',arr,e1,hB,hg,hblk,hnc,_⟩:=se h hn
 cases e1
 have ef:pU (aC g) k cap=some ⟨g,k*12,none⟩:=by
  unfold pU;rw[if_neg jS];show some (iU _ _)=_;unfold iU;split
  ·rename_i h0;rw[h0]
  simp
 rw[ef]
 have hlen:=Fo (n-k)
 have hst:=run_storeCells_cells (P:=Tryz.prog) g (k*12) (d8 pX (n-k)).toList 0 w
  (fun j hj=>by
   rw[hlen]at hj;have hlt:k*12+0+j<n*12:=jS;rw[h.cellAt _ hlt,an (by rw[h.1];exact hlt)];rfl)
  (fun j hj=>hblk.frozen _) (Fm)
 obtain⟨xs',k1,k2,k3⟩:=sd (d8 pX (n-k)).toList (k*12) w xs h
 refine⟨w.setCells g (k*12) (d8 pX (n-k)).toList,?_,?_,k3⟩
 ·obtain⟨m,hm⟩:∃m,n-k=m+1:=⟨n-k-1,jS⟩;rw[hm]at hst⊢;have hz:∀w,(zeroValue 197).run Tryz.prog w=.ok (.agg pX) w:=fun w=>oo;have hcs:(Value.agg pX).cells=pX:=rfl;simp only[ip]at hst;simp[gE,bi8 Tryz.underlying108,hz,hcs,hst]
 rw[←k2];exact r_ k1 hk
def stM(now life:Int)(m:jZ):Bool:=ot m.s.seen now life
abbrev PD(now life:Int):jD:=.func (.func 168) #[cI now life] #[]
def SG(w:jC)(now life:Int)(ms:List jZ)(e:bi6)(w':jC):Prop:=
 Below w w w'∧((e=.returned (.int .i64 (-1))∧∀m∈ms,stM now life m=false)∨(∃(k:Nat)(h:k<ms.length),e=.returned (aJ k)∧stM now life ms[k]=true∧∀j(hj:j<k),stM now life (ms[j]'(by omega))=false))
theorem NV(A:Option jG)(ms:List jZ)(cap:Nat)(now life:Int)(hu:U now)(hl:ms.length≤1000)(hf:∀m∈ms,n_ m.s)(w:jC)(hS:Tab w w A ms):
 jE Tryz.prog 204 #[jN A ms cap,PD now life] w (SG w now life ms):=by
 have HS:=ah hS
 have HF:=ah hf
 go_in
 go_wp2_with fail
 go_loopw[8] (fun i wr=>∃k:Nat,i=(aJ k)∧∃hk:k≤ms.length,Hid (∀j(hj:j<k),stM now life (ms[j]'jS)=false)∧(bB w wr)) (fun i _=>(lI 34 ms i))
 case atStart=>exact⟨0,rfl,be _,fun j hj=>absurd hj jS,jQ _⟩
 obtain⟨k,rfl,hk,HE,HB⟩:=hrel
 by_cases h1:k<ms.length
 ·have d1:decide ((k:Int)<ms.length)=true:=ae;obtain⟨b,off,rfl,hb,hc⟩:=HS.at_ jS;obtain⟨i0,i1,i2,i3,i4,i5,i6,i7,i8,i9,i10,i11⟩:=(hc k h1).below HB hb;have hi1:(0:Int)≤k:=jS;have hi2:(k:Int)<ms.length:=by omega
  have QS:=ah (zF ms[k] (HF _ (ar h1)) now life hu wr);obtain⟨r,hr⟩:∃r,stM now life ms[k]=r:=⟨_,rfl⟩;have HR:=ah hr;have hr2:ot ms[k].s.seen now life=r:=hr;rw[hr2]at QS;have Yu:Hid (r=false→∀j(hj:j<k+1),stM now life (ms[j]'jS)=false):=fun e j hj=>by
   by_cases e2:j=k
   ·subst e2;rw[HR,e]
   exact HE j jS
  have aY0:Hid (r=true→∃(k:Nat)(h:k<ms.length),ff (aJ k)=ff (aJ k)∧stM now life ms[k]=true):=fun e=>⟨k,h1,rfl,by rw[HR,e]⟩;unfold yV at QS
  cases r with
  |true=>
   have bb8:Hid (SG w now life ms (.returned (aJ k)) w→True):=fun _=>trivial;go_wp2_with fail;refine QS.mono ?_;rintro r w1⟨rfl,hb2⟩;have HB2:=ah (Below.two HB hb2);go_wp2;go_ret;exact⟨HB2,.inr ⟨k,h1,rfl,HR,HE⟩⟩
  |false=>
   go_wp2_with fail;refine QS.mono ?_;rintro r w1⟨rfl,hb2⟩;have HB2:=ah (Below.two HB hb2);go_wp2;go_roundw
   case rel=>exact⟨k+1,CJ,h1,Yu (by first|rfl|trivial),HB2⟩
   exact No
 have hkk:k=ms.length:=jS
 subst hkk
 have d1:decide ((ms.length:Int)<ms.length)=false:=lV
 have aE5:Hid (∀m∈ms,stM now life m=false):=fun m hm=>by
  obtain⟨j,hj,e⟩:=dR hm;rw[←e];exact HE j hj
 go_wp2
 go_ret
 exact⟨HB,.inl ⟨rfl,aE5⟩⟩
def nv(now life:Int)(m:jZ):Bool:= !stM now life m
theorem pp{p:jZ→Bool}{l:List jZ}(h:j<l.length):(l.take (j+1)).filter p=(l.take j).filter p++(if p l[j]=true then[l[j]]else[]):=by
 rw[aj h,gQ];congr 1;simp[List.filter];split<;>simp_all
theorem Ju(h:wV w g (0+k*12) m):wV w g (k*12) m:=by rwa[au]at h
structure s_(w:jC)(B g n cap:Nat)(now life:Int)(ms:List jZ)(i j:Nat)(cur:List jZ):Prop where
 own:w.ownsRow B 197 12 (.slice (aC g) n cap) n (lS cur)
 len:cur.length=n
 ij:i<j
 take:cur.take i=(ms.take j).filter (nv now life)
 drop:cur.drop j=ms.drop j
 mem:∀m∈cur,m∈ms
variable{now life:Int}{cur:List jZ}
theorem s_.at_{cap:Nat}{i:Nat}(h:s_ w B g n cap now life ms i j cur)(hn:ms.length=n)(hj:j<n):∃hc:j<cur.length,cur[j]=ms[j]'(by omega):=by
 have hc:j<cur.length:=by rw[h.len];exact hj
 refine⟨hc,?_⟩;have e:=h.drop;rw[dN hc,dN (l:=ms) (i:=j) jS]at e;exact(List.cons.inj e).1
theorem s_.skip{cap:Nat}{i:Nat}(h:s_ w B g n cap now life ms i j cur)(hn:ms.length=n)(hj:j<n)(hs:stM now life (ms[j]'(by omega))=true):s_ w B g n cap now life ms i (j+1) cur:=
 ⟨h.own,h.len,Nat.lt_succ_of_lt h.ij,by rw[pp jS,←h.take];simp[nv,hs],by
  have:=congrArg (List.drop 1) h.drop
  rwa[gp,gp]at this,h.mem⟩
variable{W:jC}
theorem s_.keep{cap:Nat}{i:Nat}(h:s_ w B g n cap now life ms i j cur)(hn:ms.length=n)(hj:j<n)(hs:stM now life (ms[j]'(by omega))=false)(ho:W.ownsRow B 197 12 (.slice (aC g) n cap) n (lS (cur.set i (ms[j]'(by omega))))):s_ W B g n cap now life ms (i+1) (j+1) (cur.set i (ms[j]'(by omega))):=by
 have hij:=h.ij;have hl:=h.len;refine⟨ho,by rw[eq];exact hl,jS,?_,?_,fun m hm=>?_⟩
 ·have hi:i<(cur.set i (ms[j]'jS)).length:=by rw[eq];omega
  rw[aj hi,fP,gm aa,h.take,pp jS];simp[nv,hs]
 ·rw[List.drop_set_of_lt jS];have:=congrArg (List.drop 1) h.drop;rwa[gp,gp]at this
 rcases dO hm with hm|hm
 ·exact h.mem m hm
 rw[hm];exact ar _
theorem s_.lf{w w':jC}{B g n cap:Nat}{now life:Int}{ms:List jZ}{i j:Nat}{cur:List jZ}(h:s_ w B g n cap now life ms i j cur)(hb:Below w w w'):s_ w' B g n cap now life ms i j cur:=⟨Go.Proofs.YtfcnedcahoifoaaGreatDoor.lf h.own hb,h.len,h.ij,h.take,h.drop,h.mem⟩
theorem Cw(ms:List jZ)(i:Nat):(lS ms).take (i*12)=lS (ms.take i):=by
 induction ms generalizing i with
 |nil=>simp[lS]
 |cons m ms ih=>
  cases i with
  |zero=>simp[lS]
  |succ i=>
   have e:∀l:List jZ,lS (m::l)=ng m++lS l:=fun l=>by simp[lS]
   rw[iz,e,e,←ih,List.take_append,l7,cl (by rw[l7];omega)];congr 2;omega
theorem KW(v:jD)(ms:List jZ)(now life:Int)(hu:U now)(hl:ms.length≤1000)(hf:∀m∈ms,n_ m.s)(B:Nat)(w:jC)(hB:B≤w.heap.size)(hO:lF w B v ms):
 jE Tryz.prog 166 #[v,PD now life] w fun e w'=>(∃v',e=.returned v'∧lF w' B v' (ms.filter (nv now life)))∧Below B w w':=by
 obtain⟨A,cap,rfl,hncap,hrd,hA⟩:=li hO.own
 have HT:=ah hO.tab
 have HO:=ah hO
 have HF:=ah hf
 have QI:=ah (NV A ms cap now life hu hl hf w hO.tab)
 clear hO hf hrd hA
 go_in
 go_wp2_with fail
 refine QI.mono ?_
 rintro r w1⟨hb1,⟨rfl,hno⟩|⟨k0,hk0,rfl,hst,hbef⟩⟩
 ·have HFL:Hid (ms.filter (nv now life)=ms):=eY.2 fun m hm=>by simp[nv,hno m hm]
  have xe:=ah (HO.later hb1);have HB1:=ah (hb1.mono hB);go_wp2;go_ret;exact⟨⟨_,rfl,by rw[HFL];exact xe⟩,HB1⟩
 obtain⟨g,cap',arr,e1,hBg,hgw,hblk,hnc,hcm⟩:=se HO.own jS
 injection e1 with e1 _ e2
 subst e1 e2
 have xe:=ah (HO.later hb1)
 have HB1:=ah (hb1.mono hB)
 have hw1:=hb1.size
 have HI0:Hid (s_ w1 B g ms.length cap now life ms k0 (k0+1) ms):=⟨xe.own,rfl,fA _,by
  rw[pp hk0]
  have h1:(ms.take k0).filter (nv now life)=ms.take k0:=eY.2 fun m hm=>by
   obtain⟨j,hj,e⟩:=dR hm;rw[cv]at hj;rw[jt]at e;rw[←e];simp[nv,hbef j jS]
  rw[h1];simp[nv,hst],rfl,fun m h=>h⟩
 have hkn:((k0:Int)== -1)=false:=O1
 go_wp2_with fail
 go_loopw[5,6] (fun a b wr=>∃(i j:Nat)(cur:List jZ),a=(aJ i)∧b=(aJ j)∧j≤ms.length∧Hid (s_ wr B g ms.length cap now life ms i j cur)∧Hid (∀m∈ms,my wr wr m)∧Hid (Below B w1 wr)) (fun _ b _=>(lI 34 ms b))
 case atStart=>exact⟨k0,k0+1,ms,rfl,CJ,jS,HI0,xe.ok,Below.refl _ _⟩
 obtain⟨i,j,cur,rfl,rfl,hj,HI,Yp,HB⟩:=hrel
 have hij:=HI.ij
 have hcl:=HI.len
 have hwz:=HB.size
 by_cases h1:j<ms.length
 ·have d1:decide ((j:Int)<ms.length)=true:=ae;obtain⟨hc,hcj⟩:=HI.at_ rfl h1;have HTC:Hid (Tab wr wr (aC g) cur):=by
   obtain⟨A',c',e,_,hr,_⟩:=li HI.own
   cases e
   exact⟨hr,fun m hm=>Yp m (HI.mem m hm)⟩
  obtain⟨b',off',e3,hgl,hcells⟩:=HTC.at_ jS
  cases e3
  obtain⟨i0,i1,i2,i3,i4,i5,i6,i7,i8,i9,i10,i11⟩:=Ju (hcells j hc);have am4:=ah (Ju (hcells i jS));rw[hcj]at i0 i1 i2 i3 i4 i5 i6 i7 i8 i9 i10 i11;have hi1:(0:Int)≤j:=jS;have hi2:(j:Int)<ms.length:=jS;have hi3:(0:Int)≤i:=jS;have hi4:(i:Int)<ms.length:=jS;have BH:=ah (HF _ (ar h1));have aZ9:=ah (ar h1);have ai2:Hid (stM now life ms[j]=true→∀W,s_ W B g ms.length cap now life ms i j cur→s_ W B g ms.length cap now life ms i (j+1) cur):=fun hs W h=>h.skip rfl h1 hs;have ak9:Hid (stM now life ms[j]=false→∀W V:jC,s_ W B g ms.length cap now life ms i j cur→V.ownsRow B 197 12 (.slice (aC g) ms.length cap) ms.length (lS (cur.set i ms[j]))→s_ V B g ms.length cap now life ms (i+1) (j+1) (cur.set i ms[j])):=fun hs W V h ho=>h.keep rfl h1 hs ho;generalize ms[j]=m at*
  go_wp2_with fail;have hbx:=ah (jP (jQ wr) (.cells (tn m) 197));have QS:=ah (zF m BH now life hu (wr.alloc (.cells (tn m) 197)));have XB0:=ah (jR.new wr 197 (tn m));unfold tn yV at*
  refine QS.mono ?_;rintro r w2⟨rfl,hb2⟩;have HW2:=ah (Below.two hbx.out hb2);have XB:=ah (XB0.later hb2);have HI2:=ah (HI.lf HW2);have ai3:Hid (∀m∈ms,my w2 w2 m):=fun m0 h=>(Yp m0 h).later HW2;have HB2:=ah (HB.trans (HW2.mono jS));have aE4:=ah (am4.below HW2 hgl);have hz2:=HW2.size;clear hbx hb2 QS XB0 HI Yp HB am4 HTC i0 i1 i2 i3 i4 i5 i6 i7 i8 i9 i10 i11
  cases hst:stM now life m with
  |true=>
   have hst2:ot m.s.seen now life=true:=hst;have HR:=ah (ai2 hst w2 HI2);rw[hst2];go_wp2;go_roundw
   case rel=>exact⟨i,j+1,cur,rfl,CJ,jS,HR,ai3,HB2⟩
   exact No
  |false=>
   have hst2:ot m.s.seen now life=false:=hst;obtain⟨g',cap',arr,e4,_,_,hblk,_,_⟩:=se HI2.out.own (by omega)
   cases e4
   have x0:=ce XB 0;have x1:=ce XB 1;have x2:=ce XB 2;have x3:=ce XB 3;have x4:=ce XB 4;have x5:=ce XB 5;have x6:=ce XB 6;have x7:=ce XB 7;have x8:=ce XB 8;have x9:=ce XB 9;have x10:=ce XB 10;have x11:=ce XB 11;obtain⟨y0,y1,y2,y3,y4,y5,y6,y7,y8,y9,y10,y11⟩:=aE4.out;have f0:=hblk.frozen (i*12);have f1:=hblk.frozen (i*12+1);have f2:=hblk.frozen (i*12+2);have f3:=hblk.frozen (i*12+3);have f4:=hblk.frozen (i*12+4);have f5:=hblk.frozen (i*12+5);have f6:=hblk.frozen (i*12+6);have f7:=hblk.frozen (i*12+7);have f8:=hblk.frozen (i*12+8);have f9:=hblk.frozen (i*12+9);have f10:=hblk.frozen (i*12+10);have f11:=hblk.frozen (i*12+11);have Uq:=ZU (i:=i) (m:=m) HI2.out.own (by omega) (.slice m.la m.s.l.length m.lc) (.int .i64 m.m.s.kind) (.int .i64 m.m.s.level) (.slice m.m.ea m.m.s.e.length m.m.ec) (.int .i64 m.m.s.bits) (.string m.m.s.regs) (.int .i64 m.m.s.rows) (.int .i64 m.m.s.cols) (.slice m.m.ca m.m.s.c.length m.m.cc) (.int .i64 m.m.s.fine) (.slice m.m.ga m.m.s.g.length m.m.gc) (.int .u64 m.s.seen) rfl;have HR:Hid (s_ (bj (rU 1 w2 g i m) ⟨g,i*12+11,none⟩ (.int .u64 m.s.seen)) B g ms.length cap now life ms (i+1) (j+1) (cur.set i m)):=ak9.out hst w2 _ HI2.out Uq.1;have aA9:Hid (∀m0∈ms,my (bj (rU 1 w2 g i m) ⟨g,i*12+11,none⟩ (.int .u64 m.s.seen)) ((bj (rU 1 w2 g i m) ⟨g,i*12+11,none⟩ (.int .u64 m.s.seen))).heap.size m0):=fun m0 h=>(ai3.out m0 h).grown Uq.2 (HO.out.ap m0 h);have HB3:Hid (Below B w1 (bj (rU 1 w2 g i m) ⟨g,i*12+11,none⟩ (.int .u64 m.s.seen))):=HB2.out.grown Uq.2 (by omega) (fun q e=>by cases e;exact hBg);clear Uq;rw[hst2];go_wp2;go_roundw
   case rel=>exact⟨i+1,j+1,cur.set i m,CJ,CJ,jS,HR,aA9,HB3⟩
   exact No
 have hjj:j=ms.length:=jS
 subst hjj
 have hfl:cur.take i=ms.filter (nv now life):=by
  have:=HI.take;rwa[dP]at this
 have hlen:(ms.filter (nv now life)).length=i:=by rw[←hfl,cv];omega
 obtain⟨W9,aT4,Wb,hg9⟩:=BW (k:=i) HI.own jS 0
 have htc:(lS cur).take (i*12)=lS (ms.filter (nv now life)):=by rw[←hfl,Cw]
 rw[htc]at Wb
 have aB5:Hid (lF W9 B (.slice (aC g) i cap) (ms.filter (nv now life))):=⟨by rw[hlen];exact Wb,fun m0 h=>(Yp m0 ((eN.1 h).1)).grown hg9 (HO.ap m0 ((eN.1 h).1)),fun m0 h=>HO.ap m0 ((eN.1 h).1)⟩
 have BI:=ah (HB1.trans (HB.grown hg9 jS (fun q e=>by cases e;exact hBg)))
 have d1:decide ((ms.length:Int)<ms.length)=false:=lV
 have kF:=zT (aC g) ms.length cap i jS
 have kT:=Jt (aC g) ms.length cap i jS
 go_wp2
 go_ret
 exact⟨⟨_,rfl,aB5⟩,BI⟩
def vD(now life:Int)(s:mq):Bool:= !ot s.seen now life
theorem wI(now life:Int):∀cs:List jZ,(cs.filter (nv now life)).map (·.s)=(cs.map (·.s)).filter (vD now life)
 |[]=>rfl
 |m::cs=>by
  have ih:=wI now life cs;have e:nv now life m=vD now life m.s:=rfl;rw[df,eC,eC,e];split
  ·rw[df,ih]
  exact ih
theorem RO(h:cs.map (·.s)=ms.map (·.s))(hf:∀m∈ms,n_ m.s):∀m∈cs,n_ m.s:=fun m hm=>by
 have:m.s∈ms.map (·.s):=by rw[←h];exact dq.2 ⟨m,hm,rfl⟩
 obtain⟨m',h1,h2⟩:=dq.1 this;rw[←h2];exact hf m' h1
theorem own_base{C:Nat}{t:jH}(h:w.ownsRow C t sz v n xs)(hB:B≤C):w.ownsRow B t sz v n xs:=by
 obtain⟨h1,h2|⟨g,cap,cur,e1,e2,e3⟩⟩:=h
 ·exact⟨h1,.inl h2⟩
 exact⟨h1,.inr ⟨g,cap,cur,e1,a_ hB e2,e3⟩⟩
instance aZ6(x0:jZ)(x1:Option jG)(x2:Nat)(x3:Option jG)(x4:Nat)(x5:Option jG)(x6:Nat)(x7:Option jG)(x8:Nat):CoeOut (ag8 24 x0 x1 x2 x3 x4 x5 x6 x7 x8) jZ:=⟨fun _=>(⟨x0.s,⟨x0.m.s,x1,x2,x3,x4,x5,x6⟩,x7,x8,x0.hk⟩:jZ)⟩
structure mr(B:Nat)(m:jZ):Prop where
 l:∀ad,m.la=some ad→B≤ad.block
 k:Fr B m.m
theorem GS.fit{s:mq}(h:GS s):n_ s:=⟨by have:=(mt h.set).1;omega,fun x hx=>by have:=(mt h.set).2 x hx;omega,h.k.fit,h.seen⟩
def oq(w:jC)(v:jD)(A:Option jG)(ms:List jZ):Prop:=Tab w w A ms∧Ap A (lS ms) v.ownBlock∧∀m∈ms,Apart v.ownBlock m
theorem oq.later{w w':jC}{v:jD}{A:Option jG}{ms:List jZ}(h:oq w v A ms)(hb:Below w w w'):oq w' v A ms:=⟨h.1.later hb,h.2⟩
theorem oq.grow{v':jD}(h:oq w v A ms)(hg:w.grownBy w' v.ownBlock)(hv:v'.ownBlock=v.ownBlock∨v'.ownBlock=some w):oq w' v' A ms:=by
 refine⟨⟨tF h.1.rd hg h.2.1,fun m hm=>(h.1.ok m hm).grown hg (h.2.2 m hm)⟩,?_⟩;rcases hv with e|e
 ·rw[e];exact h.2
 rw[e];exact⟨Dz h.1.rd aa,fun m hm=>(h.1.ok m hm).apart aa⟩
theorem lF.snoc{v':jD}(h:lF w B v cs)(hown:w'.ownsRow B 197 12 v' (cs.length+1) (lS cs++ng m))(hg:w.grownBy w' v.ownBlock)(hv:v'.ownBlock=v.ownBlock∨v'.ownBlock=some w)(hok:my w w m)(hap:Apart v.ownBlock m):lF w' B v' (cs++[m]):=by
 have mem:∀x∈cs++[m],my w w x∧Apart v.ownBlock x:=fun x hx=>by
  rcases ed.1 hx with hx|hx
  ·exact⟨h.ok x hx,h.ap x hx⟩
  simp at hx;rw[hx];exact⟨hok,hap⟩
 refine⟨by rw[cd,M7];exact hown,fun x hx=>(mem x hx).1.grown hg (mem x hx).2,fun x hx=>?_⟩;rcases hv with e|e
 ·rw[e];exact(mem x hx).2
 rw[e];exact(mem x hx).1.apart aa
theorem nL{t:jH}{ys:List jD}(h:Rd w B A xs)(ho:W.ownsRow B t sz v n ys):Ap A xs v.ownBlock:=fun hx ad e e2=>by
 obtain⟨b,off,e3,hb,_⟩:=h hx;rw[e]at e3;cases e3;have:=(pf ho b e2.symm).1;omega
theorem J4{p:List mq}{m':jZ}(h:cs.map (·.s)=p++(ms.take k).map (·.s))(hk:k<ms.length)(he:m'.s=ms[k].s):(cs++[m']).map (·.s)=p++(ms.take (k+1)).map (·.s):=by
 rw[dH,h,aj hk,dH,eH];simp[he]
abbrev AdL(w0:jC)(n0:Nat)(p0:List mq)(A:Option jG)(ms:List jZ)(v i:jD)(wr:jC):Prop:=∃(k:Nat)(cs:List jZ),i=(aJ k)∧k≤ms.length∧cs.length=n0+k∧Hid (cs.map (·.s)=p0++(ms.take k).map (·.s))∧Hid (lF wr w0 v cs)∧Hid (∀m∈cs,mr w0 m)∧Hid (oq wr v A ms)∧(bB w0 wr)
theorem II(A:Option jG)(ms:List jZ)(cap:Nat)(hl:ms.length≤20)(hf:∀m∈ms,n_ m.s)(w0:jC):
 (∀(v0:jD)(cs0:List jZ),cs0.length≤30→∀w:jC,Below w0 w0 w→lF w w0 v0 cs0→(∀m∈cs0,mr w0 m)→oq w v0 A ms→jE Tryz.prog 139 #[v0,jN A ms cap] w fun e w'=>(∃v cs,e=.returned v∧cs.map (·.s)=cs0.map (·.s)++ms.map (·.s)∧lF w' w0 v cs∧∀m∈cs,mr w0 m)∧Below w0 w0 w')∧(Tab w0 w0 A ms→jE Tryz.prog 167 #[jN A ms cap] w0 fun e w'=>(∃v cs,e=.returned v∧cs.map (·.s)=ms.map (·.s)∧lF w' w0 v cs∧∀m∈cs,mr w0 m)∧Below w0 w0 w'):=by
 have HF:=ah hf
 obtain⟨i0,hi0,hz0',hz1',hz2'⟩:=bi5 Tryz.zo
 clear hf
 refine⟨fun v0 cs0 hn0 w hB hO hlo hS=>?a,fun hS=>?b⟩
 case' a=>
  have O7:=ah hS;have HB0:=ah hB;have Fj:=ah hO;have HL0:=ah hlo;obtain⟨p0,hp0⟩:∃p,cs0.map (·.s)=p:=⟨_,rfl⟩;obtain⟨n0,hn⟩:∃n,cs0.length=n:=⟨_,rfl⟩;have HP0:=ah hp0;rw[hp0];clear hS hB hO hlo hp0;go_in;go_wp2_with fail;go_loopw[0,9] (fun v i wr=>AdL w0 n0 p0 A ms v i wr) (fun _ i _=>(lI 34 ms i))
  case atStart=>exact⟨0,cs0,rfl,be _,hn,by show _=_;rw[HP0];simp,Fj,HL0,O7,HB0⟩
  clear HB0 Fj HL0 O7;obtain⟨uv,huv⟩:∃uv,uv=u0:=⟨_,rfl⟩;subst huv
 case' b=>
  obtain⟨p0,hp0⟩:∃p:List mq,p=[]:=⟨_,rfl⟩;obtain⟨n0,hn⟩:∃n:Nat,n=0:=⟨_,rfl⟩;have HP0:=ah hp0;obtain⟨W0,hmk,hown0,hg0⟩:=bk8 (P:=Tryz.prog) w0 w0 108 197 i0 _ 12 Tryz.underlying108 hi0 hz0' hz1' .i64 .i64 ms.length jS (by rw[hz2'];omega) O0 aa;have HB0:(bB w0 W0):=(Below.refl _ w0).grown hg0 aa (fun q e=>LS);have Fj:=ah hown0;have O7:=ah (hS.later HB0);have SJ:=ah hS;clear hS hown0 hg0 hp0;go_in;go_wp2_with fail;clear hmk;go_loopw[3,11] (fun v i wr=>AdL w0 n0 p0 A ms v i wr) (fun _ i _=>(lI 34 ms i))
  case atStart=>exact⟨0,[],rfl,be _,by rw[hn];rfl,by show _=_;rw[HP0];simp,⟨Fj,fun m hm=>(by simp at hm),fun m hm=>(by simp at hm)⟩,fun m hm=>(by simp at hm),⟨O7,nL SJ.rd Fj,fun m hm=>⟨nL (SJ.ok m hm).l Fj,nL (SJ.ok m hm).k.e Fj,nL (SJ.ok m hm).k.c Fj,nL (SJ.ok m hm).k.g Fj⟩⟩,HB0⟩
  clear HB0 Fj O7 SJ;obtain⟨uv,huv⟩:∃uv,uv=u3:=⟨_,rfl⟩;subst huv
 all_goals
  obtain⟨k,cs,rfl,hk,hcl,HE,HO,BG,Lr,HB⟩:=hrel;by_cases h1:k<ms.length
  ·have d1:decide ((k:Int)<ms.length)=true:=ae;obtain⟨b,off,rfl,hb,hc⟩:=Lr.1.at_ jS;obtain⟨Y_,i1,i2,i3,i4,i5,i6,i7,i8,i9,i10,i11⟩:=hc k h1;have hi1:(0:Int)≤k:=jS;have hi2:(k:Int)<ms.length:=jS;have oH:=ah (Lr.1.ok _ (ar h1));have BH:=ah (HF _ (ar h1));have IU:Hid (∀m':jZ,m'.s=ms[k].s→(cs++[m']).map (·.s)=p0++(ms.take (k+1)).map (·.s)):=fun m' he=>J4 HE h1 he;have hw0:=HB.size;clear hc HE;generalize ms[k]=m at*
   go_wp2_with fail;refine kf (fun _=>True) ((Hold.nil wr).alloc wr 197 (lz 3 m)) trivial (fun V0 H0 _=>?_);clear Y_ i1 i2 i3 i4 i5 i6 i7 i8 i9 i10 i11;have hz0:wr.heap.size<V0.heap.size:=(H0.blk _ ab).2.lt;refine(Bi _ m.s.l _ (by have:=BH.l;omega) _ (oH.later H0.below).l).mono ?_;rintro e w1⟨⟨A1,c1,rfl,hs0,ha0⟩,hb0⟩;replace H0:=ah (H0.call hb0);have L0:∀ad,A1=some ad→wr.heap.size+1≤ad.block:=fun ad e=>by have:=ha0 ad e;omega
   clear ha0 hb0;have x:=fk (H0.facts);go_wp2_with fail;have HR:=aT (H0.put 0 0 (.slice A1 m.s.l.length c1));have q0:=mi (g:=wr.heap.size) (o:=0) (u:=.slice A1 m.s.l.length c1) hs0 (fun ad e=>by have:=L0 ad e;omega);refine kf (fun V=>Lb V V A1 m.s.l) HR q0 (fun V1 H1 hT=>?_);have T0:=hT;clear x HR H0 hs0 q0;have hz1:wr.heap.size<V1.heap.size:=(H1.blk _ ab).2.lt;refine(pq _ m.m.s.e _ (by have:=BH.k.e;rw[←m.hk]at this;omega) _ (oH.later H1.below).k.e).mono ?_;rintro e w2⟨⟨A2,c2,rfl,hs1,ha1⟩,hb1⟩;replace H1:=ah (H1.call hb1);have L1:∀ad,A2=some ad→wr.heap.size+1≤ad.block:=fun ad e=>by have:=ha1 ad e;omega
   replace T0:=(Rd.below T0 hb1).more hb1.size;clear ha1 hb1;have x:=fk (H1.facts);go_wp2_with fail;have HR:=aT (H1.put 0 3 (.slice A2 m.m.s.e.length c2));have q0:=mi (g:=wr.heap.size) (o:=3) (u:=.slice A2 m.m.s.e.length c2) T0 (fun ad e=>by have:=L0 ad e;omega);have q1:=mi (g:=wr.heap.size) (o:=3) (u:=.slice A2 m.m.s.e.length c2) hs1 (fun ad e=>by have:=L1 ad e;omega);refine kf (fun V=>Lb V V A1 m.s.l∧Sl V V A2 m.m.s.e) HR ⟨q0,q1⟩ (fun V2 H2 hT=>?_);obtain⟨T0,T1⟩:=hT;clear x HR H1 hs1 q0 q1;have hz2:wr.heap.size<V2.heap.size:=(H2.blk _ ab).2.lt;refine(pq _ m.m.s.c _ (by have:=BH.k.c;rw[←m.hk]at this;omega) _ (oH.later H2.below).k.c).mono ?_;rintro e w3⟨⟨A3,c3,rfl,hs2,ha2⟩,hb2⟩;replace H2:=ah (H2.call hb2);have L2:∀ad,A3=some ad→wr.heap.size+1≤ad.block:=fun ad e=>by have:=ha2 ad e;omega
   replace T0:=(Rd.below T0 hb2).more hb2.size;replace T1:=(Rd.below T1 hb2).more hb2.size;clear ha2 hb2;have x:=fk (H2.facts);go_wp2_with fail;have HR:=aT (H2.put 0 8 (.slice A3 m.m.s.c.length c3));have q0:=mi (g:=wr.heap.size) (o:=8) (u:=.slice A3 m.m.s.c.length c3) T0 (fun ad e=>by have:=L0 ad e;omega);have q1:=mi (g:=wr.heap.size) (o:=8) (u:=.slice A3 m.m.s.c.length c3) T1 (fun ad e=>by have:=L1 ad e;omega);have q2:=mi (g:=wr.heap.size) (o:=8) (u:=.slice A3 m.m.s.c.length c3) hs2 (fun ad e=>by have:=L2 ad e;omega);refine kf (fun V=>Lb V V A1 m.s.l∧Sl V V A2 m.m.s.e∧Sl V V A3 m.m.s.c) HR ⟨q0,q1,q2⟩ (fun V3 H3 hT=>?_);obtain⟨T0,T1,T2⟩:=hT;clear x HR H2 hs2 q0 q1 q2;have hz3:wr.heap.size<V3.heap.size:=(H3.blk _ ab).2.lt;refine(vI _ m.m.s.g _ (by have:=BH.k.g;rw[←m.hk]at this;omega) _ (oH.later H3.below).k.g).mono ?_;rintro e w4⟨⟨A4,c4,rfl,hs3,S8⟩,hb3⟩;replace H3:=ah (H3.call hb3);have L3:∀ad,A4=some ad→wr.heap.size+1≤ad.block:=fun ad e=>by have:=S8 ad e;omega
   replace T0:=(Rd.below T0 hb3).more hb3.size;replace T1:=(Rd.below T1 hb3).more hb3.size;replace T2:=(Rd.below T2 hb3).more hb3.size;clear S8 hb3;have x:=fk (H3.facts);have HR:=aT (H3.put 0 10 (.slice A4 m.m.s.g.length c4));have q0:=mi (g:=wr.heap.size) (o:=10) (u:=.slice A4 m.m.s.g.length c4) T0 (fun ad e=>by have:=L0 ad e;omega);have q1:=mi (g:=wr.heap.size) (o:=10) (u:=.slice A4 m.m.s.g.length c4) T1 (fun ad e=>by have:=L1 ad e;omega);have q2:=mi (g:=wr.heap.size) (o:=10) (u:=.slice A4 m.m.s.g.length c4) T2 (fun ad e=>by have:=L2 ad e;omega);have q3:=mi (g:=wr.heap.size) (o:=10) (u:=.slice A4 m.m.s.g.length c4) hs3 (fun ad e=>by have:=L3 ad e;omega);have H5:=ah (HR.alloc w4 197 [jN A1 m.s.l c1,jJ m.m.s.kind,jJ m.m.s.level,jN A2 m.m.s.e c2,jJ m.m.s.bits,jL m.m.s.regs,jJ m.m.s.rows,jJ m.m.s.cols,jN A3 m.m.s.c c3,jJ m.m.s.fine,jN A4 m.m.s.g c4,jK m.s.seen]);have SOK:=my.later (m:=(XM 24 m A2 c2 A3 c3 A4 c4 A1 c1)) ⟨q0,⟨q1,q2,q3⟩⟩ (jP (jQ _) (.cells #[jN A1 m.s.l c1,jJ m.m.s.kind,jJ m.m.s.level,jN A2 m.m.s.e c2,jJ m.m.s.bits,jL m.m.s.regs,jJ m.m.s.rows,jJ m.m.s.cols,jN A3 m.m.s.c c3,jJ m.m.s.fine,jN A4 m.m.s.g c4,jK m.s.seen] 197));clear HR hs3 T0 T1 T2 q0 q1 q2 q3;have SAP:=OI (b:=wr.heap.size+1) (v:=(uv:jD).ownBlock) (m:=(XM 24 m A2 c2 A3 c3 A4 c4 A1 c1)) L0 L1 L2 L3 (fun q e=>by have:=(pf HO.own q e).2;omega);have SO:Hid (mr w0 (XM 24 m A2 c2 A3 c3 A4 c4 A1 c1)):=⟨fun ad e=>by have:=L0 ad e;omega,⟨fun ad e=>by have:=L1 ad e;omega,fun ad e=>by have:=L2 ad e;omega,fun ad e=>by have:=L3 ad e;omega⟩⟩;have rdN:=P1 (m:=(XM 24 m A2 c2 A3 c3 A4 c4 A1 c1)) (H5.blk _ ab).2;have BC:=ah (HO.later H5.below);have ai1:=ah (Lr.later H5.below);have hww:=HB.size;have hcs:cs.length≤1000:=jS;have y_:=ah (HB.trans (H5.below.mono hww));have hsz5:=y_.size;clear HO Lr HB;go_wp2_with(at_builtin;refine kr _ rfl _ _ 108 rfl w0 197 i0 _ 12 168 Tryz.underlying108 hi0 hz0' hz1' hz2' rfl B8 _ cs.length _ rfl BC.own (dE w4) (aM w4) 1 1 (ng (XM 24 m A2 c2 A3 c3 A4 c4 A1 c1)) rfl (by rw[l7]) rdN (FV _) O0 jS jS ?_;intro v' W6 hown6 Wc hv6);have Td:=ah (BC.snoc hown6 Wc hv6 SOK SAP);have aA8:=ah (ai1.grow Wc hv6);have VA:(bB w0 W6):=y_.grown Wc y_.size (fun q e=>(pf BC.own q e).1);have HM6:=ah (IU (XM 24 m A2 c2 A3 c3 A4 c4 A1 c1) rfl);have HL6:Hid (∀x∈cs++[(⟨m.s,⟨m.m.s,A2,c2,A3,c3,A4,c4⟩,A1,c1,m.hk⟩:jZ)],mr w0 x):=fun x hx=>by
    rcases ed.1 hx with hx|hx
    ·exact BG x hx
    simp at hx;rw[hx];exact SO
   clear hown6 Wc hv6 BC ai1 y_ SOK SAP rdN IU BG SO x H5 hsz5;go_wp2;go_roundw
   case rel=>exact⟨k+1,_,CJ,jS,by rw[cd,fT];omega,HM6,Td,HL6,aA8,VA⟩
   exact No
  have hkk:k=ms.length:=jS;subst hkk;have d1:decide ((ms.length:Int)<ms.length)=false:=lV;rw[dP]at HE;go_wp2;go_ret;first|exact⟨⟨_,rfl,cs,HE,HO,BG⟩,HB⟩|exact⟨⟨_,rfl,cs,by rw[HE,HP0];rfl,HO,BG⟩,HB⟩
theorem PQ(w0:jC)(v0:jD)(cs0:List jZ)(hn0:cs0.length≤30)(A:Option jG)(ms:List jZ)(cap:Nat)(hl:ms.length≤20)(hf:∀m∈ms,n_ m.s)(w:jC)(hB:Below w0 w0 w)(hO:lF w w0 v0 cs0)(hlo:∀m∈cs0,mr w0 m)(hS:oq w v0 A ms):
 jE Tryz.prog 139 #[v0,jN A ms cap] w fun e w'=>(∃v cs,e=.returned v∧cs.map (·.s)=cs0.map (·.s)++ms.map (·.s)∧lF w' w0 v cs∧∀m∈cs,mr w0 m)∧Below w0 w0 w':=(II A ms cap hl hf w0).1 v0 cs0 hn0 w hB hO hlo hS
theorem K5(A:Option jG)(ms:List jZ)(cap:Nat)(hl:ms.length≤20)(hf:∀m∈ms,n_ m.s)(w0:jC)(hS:Tab w0 w0 A ms):
 jE Tryz.prog 167 #[jN A ms cap] w0 fun e w'=>(∃v cs,e=.returned v∧cs.map (·.s)=ms.map (·.s)∧lF w' w0 v cs∧∀m∈cs,mr w0 m)∧Below w0 w0 w':=(II A ms cap hl hf w0).2 hS
structure ScU(x0:Option jG)(x1:List jZ)(x2:Nat) where
def cU(x0:Option jG)(x1:List jZ)(x2:Nat):ScU x0 x1 x2:=⟨⟩
instance aY2(x0:Option jG)(x1:List jZ)(x2:Nat):CoeOut (ScU x0 x1 x2) jD:=⟨fun _=>.slice x0 x1.length x2⟩
def we(t:List mq)(s:mq):Option (List mq):=if Dm t s.l=true then none else some (CL t s)
def rz(w:jC)(r:Option (List mq))(e:bi6)(w':jC):Prop:=Below w w w'∧match r with
 |none=>e=.returned (.tuple #[jM,jJ 120])
 |some t=>∃A c cs,e=.returned (.tuple #[jN A cs c,jJ 0])∧cs.map (·.s)=t∧lF w' w (cU A cs c) cs∧∀m∈cs,mr w m
theorem mr.mono{B C:Nat}{m:jZ}(h:mr B m)(hc:C≤B):mr C m:=⟨fun a e=>a_ hc (h.l a e),h.k.mono hc⟩
theorem lF.base{C:Nat}(h:lF w B v cs)(hc:C≤B):lF w C v cs:=⟨own_base h.own hc,h.ok,h.ap⟩
variable{r:Option (List mq)}
theorem rz.no(h:r=none)(hb:Below w w w'):rz w r (.returned (.tuple #[jM,jJ 120])) w':=⟨hb,by rw[h]⟩
theorem rz.yes(h:r=some (cs.map (·.s)))(hb:Below w w w')(hB:w.heap.size≤B)(ho:lF w' B v cs)(hl:∀m∈cs,mr B m):rz w r (.returned (.tuple #[v,jJ 0])) w':=by
 refine⟨hb,?_⟩;rw[h];obtain⟨A,c,rfl,hc,_⟩:=lB ho.own;exact⟨A,c,cs,rfl,rfl,ho.base hB,fun m hm=>(hl m hm).mono hB⟩
theorem Tab.take{w:jC}{B:Nat}{A:Option jG}{ms:List jZ}(h:Tab w B A ms)(k:Nat):Tab w B A (ms.take k):=⟨by rw[←Cw];exact Rd.take h.rd _,fun m hm=>h.ok m (dy hm)⟩
theorem Cy:∀(ms:List jZ)(k:Nat),(lS ms).drop (k*12)=lS (ms.drop k)
 |[],k=>by simp[lS]
 |m::ms,0=>lV
 |m::ms,k+1=>by
  rw[jc,←Cy ms k];show(ng m++lS ms).drop _=_;rw[show(k+1)*12=(ng m).length+k*12 by rw[l7];omega,←gp,List.drop_left]
theorem Tab.drop{w:jC}{B cap:Nat}{A:Option jG}{ms:List jZ}(h:Tab w B A ms)(k:Nat)(hc:ms.length≤cap):Tab w B (pU A k cap) (ms.drop k):=by
 refine⟨?_,fun m hm=>h.ok m (eJ hm)⟩;rw[←Cy];unfold pU;have:=Rd.cut h.rd (k*12) (cap*12) (by rw[vS];omega);by_cases e:cap=k
 ·subst e;rw[if_pos rfl]at this⊢;exact this
 rw[if_neg e];rwa[if_neg jS]at this
theorem oq.old(h:Tab w B A ms)(ho:lF W B v cs)(hb:Tab W W A ms):oq W v A ms:=
 ⟨hb,nL h.rd ho.own,fun m hm=>⟨nL (h.ok m hm).l ho.own,nL (h.ok m hm).k.e ho.own,nL (h.ok m hm).k.c ho.own,nL (h.ok m hm).k.g ho.own⟩⟩
theorem oq.one(h:my w B m)(ho:lF W B v cs)(hb:my W W m):
 oq (W.alloc (.cells (tn m) 197)) v (aM W) [m]:=by
 have nb:=jR.new W 197 (tn m)
 have ok:=hb.later (jP (jQ W) (.cells (tn m) 197))
 refine⟨⟨?_,fun x hx=>by simp at hx;rw[hx];exact ok⟩,fun _ ad e e2=>?_,fun x hx=>?_⟩
 ·have:=(P1 nb).more (B':=(W.alloc (.cells (tn m) 197)).heap.size) lV;simpa[lS]using this
 ·cases e
  have:=(pf ho.own _ e2.symm).2;simp at this
 simp at hx;rw[hx]
 exact⟨nL h.l ho.own,nL h.k.e ho.own,nL h.k.c ho.own,nL h.k.g ho.own⟩
theorem xp(w0:jC)(v0:jD)(cs0:List jZ)(hn0:cs0.length≤30)(A:Option jG)(ms:List jZ)(cap n:Nat)(hn:n=ms.length)(hl:ms.length≤20)(hf:∀m∈ms,n_ m.s)(w:jC)(hB:Below w0 w0 w)(hO:lF w w0 v0 cs0)(hlo:∀m∈cs0,mr w0 m)(hS:oq w v0 A ms):
 jE Tryz.prog 139 #[v0,.slice A n cap] w fun e w'=>(∃v cs,e=.returned v∧cs.map (·.s)=cs0.map (·.s)++ms.map (·.s)∧lF w' w0 v cs∧∀m∈cs,mr w0 m)∧Below w0 w0 w':=by
 subst hn;exact PQ w0 v0 cs0 hn0 A ms cap hl hf w hB hO hlo hS
theorem FL(A:Option jG)(ms:List jZ)(cap:Nat)(hcap:ms.length≤cap)(m:jZ)(hG:GS m.s)(w:jC)(hT:Tb w)(hS:oI w A ms)(hm:my w w m):
 jE Tryz.prog 96 #[jN A ms cap,yV m] w (rz w (we (ms.map (·.s)) m.s)):=by
 have h20:=hS.len
 obtain⟨i0,hi0,hz0',hz1',hz2'⟩:=bi5 Tryz.zo
 have HS:=ah hS
 have HM:=ah hm
 have HG:=ah hG
 have HF:Hid (∀x∈ms,n_ x.s):=fun x hx=>(hS.g.all _ (dq.2 ⟨x,hx,rfl⟩)).fit
 have QR:Hid (∀w',Below w w w'→jE Tryz.prog 98 #[jN A ms cap] w' fun e w''=>e=.returned (.bool true)∧Below w' w' w''):=fun w' h=>ql A ms cap w' (hT.later h) (hS.later h)
 have QS:Hid (∀w',Below w w w'→jE Tryz.prog 138 #[.agg (lz 13 m)] w' fun e w''=>e=.returned (.bool true)∧Below w' w' w''):=fun w' h=>Aa m hG w' (hT.later h) (hm.later h)
 have QF:Hid (∀w',Below w w w'→jE Tryz.prog 94 #[jN A ms cap,jN m.la m.s.l m.lc] w' fun e w''=>e=.returned (.tuple #[jJ (o_ (ms.map (·.s)) m.s.l:Nat),.bool (mQ (ms.map (·.s)) m.s.l)])∧Below w' w' w''):=fun w' h=>RQ A ms cap _ _ _ (by have:=(mt hG.set).1;omega) w' (hT.later h) (hS.later h) (hm.later h).l
 have hat:o_ (ms.map (·.s)) m.s.l≤ms.length:=by have:=Lk (ms.map (·.s)) m.s.l;rwa[ax]at this
 have hth:mQ (ms.map (·.s)) m.s.l=true→o_ (ms.map (·.s)) m.s.l<ms.length:=fun h=>by obtain⟨hk,_⟩:=zN h;rwa[ax]at hk
 have HP:Hid (we (ms.map (·.s)) m.s=if(!mQ (ms.map (·.s)) m.s.l&&decide (ms.length=20))=true then none else some (if mQ (ms.map (·.s)) m.s.l=true then(ms.map (·.s)).take (o_ (ms.map (·.s)) m.s.l)++m.s::(ms.map (·.s)).drop (o_ (ms.map (·.s)) m.s.l+1)else(ms.map (·.s)).take (o_ (ms.map (·.s)) m.s.l)++m.s::(ms.map (·.s)).drop (o_ (ms.map (·.s)) m.s.l))):=by unfold Hid we Dm CL;rw[ax]
 generalize we (ms.map (·.s)) m.s=r at*
 generalize mQ (ms.map (·.s)) m.s.l=th at*
 generalize o_ (ms.map (·.s)) m.s.l=k at*
 clear hT hS hm hG
 go_in
 unfold yV
 go_wp2_with fail
 refine kf (fun _=>True) ((Hold.nil w).alloc w 197 (lz 3 m)) trivial (fun V HV _=>?_)
 have hz:w.heap.size<V.heap.size:=(HV.blk _ ab).2.lt
 refine(QR V HV.below).mono ?_
 rintro e w1⟨rfl,hb1⟩
 replace HV:=ah (HV.call hb1)
 replace hz:=cn hz hb1.size
 clear hb1 QR
 have x:=fk (HV.facts)
 go_wp2_with fail
 refine(QS _ HV.below).mono ?_
 rintro e w2⟨rfl,hb2⟩
 replace HV:=ah (HV.call hb2)
 replace hz:=cn hz hb2.size
 clear hb2 QS x
 have x:=fk (HV.facts)
 go_wp2_with fail
 refine(QF _ HV.below).mono ?_
 rintro e w3⟨rfl,hb3⟩
 replace HV:=ah (HV.call hb3)
 replace hz:=cn hz hb3.size
 clear hb3 QF x
 cases th with
 |true=>
  have hk1:=hth rfl;have DF:Hid (r=some ((ms.map (·.s)).take k++m.s::(ms.map (·.s)).drop (k+1))):=by show _=_;rw[HP];simp
  have hk2:k+1≤ms.length:=hk1;clear HP;have HS2:=ah HV.below;obtain⟨W0,hmk,hown0,hg0⟩:=bk8 (P:=Tryz.prog) w3 w3 108 197 i0 _ 12 Tryz.underlying108 hi0 hz0' hz1' .i64 .i64 (ms.length+1) jS (by rw[hz2'];omega) O0 aa;rw[show((ms.length+1:Nat):Int)=(ms.length:Int)+1 by omega]at hmk;have HB0:(bB w3 W0):=(Below.refl _ w3).grown hg0 aa (fun q e=>LS);have Fj:Hid (lF W0 w3 (.slice (aM w3) 0 (ms.length+1)) []):=⟨hown0,fun m hm=>(by simp at hm),fun m hm=>(by simp at hm)⟩;have hto:=fun w=>Jt A ms.length cap k jS w;have hfr:=fun w=>zT A ms.length cap (k+1) jS w;rw[show((k+1:Nat):Int)=(k:Int)+1 by omega]at hfr;have HT3:=ah (HS.tab.later HV.below);have Fk:=ah (HM.later HV.below);have QA1:=ah (xp w3 _ [] lV A (ms.take k) cap k qlt qlt (fun x hx=>HF x (dy hx)) W0 HB0 Fj (fun x hx=>(by simp at hx)) (oq.old (HT3.take k) Fj ((HT3.take k).later HB0)));clear hown0 hg0;go_wp2_with fail;refine QA1.mono ?_;rintro e w4⟨⟨v1,cs1,rfl,hc1,ho1,hl1⟩,hb4⟩;have HB4:=ah hb4;have yT:=ah hc1;have xe:=ah ho1;have Yz:=ah hl1;have hn1:cs1.length=k:=by have:=congrArg ez hc1;simp at this;omega
  replace HV:=ah (HV.call hb4);clear QA1 hmk Fj HB0 hb4 hc1 ho1 hl1;have x:=fk (HV.facts);go_wp2_with fail;have HA:Hid (Below w4 w4 (w4.alloc (.cells (tn m) 197))):=jP (jQ w4) _;have Yk:=ah (xp w3 v1 cs1 jS (aM w4) [m] 1 1 rfl lV (fun y hy=>by simp at hy;rw[hy];exact HG.fit) _ (HB4.trans (HA.mono HB4.size)) (xe.later HA) Yz (oq.one Fk xe (Fk.later HB4)));unfold tn at Yk;refine Yk.mono ?_;rintro e w5⟨⟨v2,cs2,rfl,hc2,ho2,hl2⟩,hb5⟩;have y_:=ah hb5;have HC2:=ah hc2;have xd:=ah ho2;have HL2:=ah hl2;have hn2:cs2.length=k+1:=by have:=congrArg ez hc2;simp at this;omega
  clear Yk xe HB4 Yz hb5 hc2 ho2 hl2 x HA;go_wp2_with fail;have QA3:=ah (xp w3 v2 cs2 jS (pU A (k+1) cap) (ms.drop (k+1)) (cap-(k+1)) (ms.length-(k+1)) (by rw[dr]) (by rw[dr];omega) (fun x hx=>HF x (eJ hx)) w5 y_ xd HL2 (oq.old (HT3.drop (k+1) hcap) xd ((HT3.drop (k+1) hcap).later y_)));refine QA3.mono ?_;rintro e w6⟨⟨v3,XV,rfl,hc3,ho3,hl3⟩,hb6⟩;have VA:=ah hb6;have Lw:=ah hc3;have w_:=ah ho3;have SS:=ah hl3;clear QA3 xd y_ HL2 hb6 hc3 ho3 hl3;go_wp2;go_ret2;refine rz.yes ?_ ((HS2).trans (VA.mono jS)) jS w_ SS;rw[DF,Lw,HC2,yT];simp[iR,List.map_drop]
 |false=>
  clear hth;by_cases h9:ms.length=20
  ·have DF:Hid (r=none):=by show _=_;rw[HP];simp[h9]
   have d1:decide ((ms.length:Int)=20)=true:=ae;clear HP;go_wp2;go_ret2;exact rz.no DF HV.below
  have DF:Hid (r=some ((ms.map (·.s)).take k++m.s::(ms.map (·.s)).drop k)):=by show _=_;rw[HP];simp[h9]
  have d1:decide ((ms.length:Int)=20)=false:=ag;have hk2:k≤ms.length:=hat;clear HP;have HS2:=ah HV.below;obtain⟨W0,hmk,hown0,hg0⟩:=bk8 (P:=Tryz.prog) w3 w3 108 197 i0 _ 12 Tryz.underlying108 hi0 hz0' hz1' .i64 .i64 (ms.length+1) jS (by rw[hz2'];omega) O0 aa;rw[show((ms.length+1:Nat):Int)=(ms.length:Int)+1 by omega]at hmk;have HB0:(bB w3 W0):=(Below.refl _ w3).grown hg0 aa (fun q e=>LS);have Fj:Hid (lF W0 w3 (.slice (aM w3) 0 (ms.length+1)) []):=⟨hown0,fun m hm=>(by simp at hm),fun m hm=>(by simp at hm)⟩;have hto:=fun w=>Jt A ms.length cap k jS w;have hfr:=fun w=>zT A ms.length cap (k) jS w;rw[show((k:Nat):Int)=(k:Int) by omega]at hfr;have HT3:=ah (HS.tab.later HV.below);have Fk:=ah (HM.later HV.below);have QA1:=ah (xp w3 _ [] lV A (ms.take k) cap k qlt qlt (fun x hx=>HF x (dy hx)) W0 HB0 Fj (fun x hx=>(by simp at hx)) (oq.old (HT3.take k) Fj ((HT3.take k).later HB0)));clear hown0 hg0;go_wp2_with fail;refine QA1.mono ?_;rintro e w4⟨⟨v1,cs1,rfl,hc1,ho1,hl1⟩,hb4⟩;have HB4:=ah hb4;have yT:=ah hc1;have xe:=ah ho1;have Yz:=ah hl1;have hn1:cs1.length=k:=by have:=congrArg ez hc1;simp at this;omega
  replace HV:=ah (HV.call hb4);clear QA1 hmk Fj HB0 hb4 hc1 ho1 hl1;have x:=fk (HV.facts);go_wp2_with fail;have HA:Hid (Below w4 w4 (w4.alloc (.cells (tn m) 197))):=jP (jQ w4) _;have Yk:=ah (xp w3 v1 cs1 jS (aM w4) [m] 1 1 rfl lV (fun y hy=>by simp at hy;rw[hy];exact HG.fit) _ (HB4.trans (HA.mono HB4.size)) (xe.later HA) Yz (oq.one Fk xe (Fk.later HB4)));unfold tn at Yk;refine Yk.mono ?_;rintro e w5⟨⟨v2,cs2,rfl,hc2,ho2,hl2⟩,hb5⟩;have y_:=ah hb5;have HC2:=ah hc2;have xd:=ah ho2;have HL2:=ah hl2;have hn2:cs2.length=k+1:=by have:=congrArg ez hc2;simp at this;omega
  clear Yk xe HB4 Yz hb5 hc2 ho2 hl2 x HA;go_wp2_with fail;have QA3:=ah (xp w3 v2 cs2 jS (pU A (k) cap) (ms.drop (k)) (cap-(k)) (ms.length-(k)) (by rw[dr]) (by rw[dr];omega) (fun x hx=>HF x (eJ hx)) w5 y_ xd HL2 (oq.old (HT3.drop (k) hcap) xd ((HT3.drop (k) hcap).later y_)));refine QA3.mono ?_;rintro e w6⟨⟨v3,XV,rfl,hc3,ho3,hl3⟩,hb6⟩;have VA:=ah hb6;have Lw:=ah hc3;have w_:=ah ho3;have SS:=ah hl3;clear QA3 xd y_ HL2 hb6 hc3 ho3 hl3;go_wp2;go_ret2;refine rz.yes ?_ ((HS2).trans (VA.mono jS)) jS w_ SS;rw[DF,Lw,HC2,yT];simp[iR,List.map_drop]
theorem Pq:∀u∈lS ms,u.oneCell'=true:=fun u hu=>by
 unfold lS at hu;obtain⟨m,_,h⟩:=ir.1 hu;exact FV m u h
theorem Cx:∀(ms:List jZ)(i c:Nat)(m':jZ)(u:jD)(h:i<ms.length),c<12→ng m'=(ng ms[i]).set c u→(lS ms).set (i*12+c) u=lS (ms.set i m')
 |[],i,_,_,_,h,_,_=>WY
 |y::ms,0,c,m',u,_,hc,he=>by
  simp only[dQ]at he;rw[ak];show(ng y++lS ms).set _ u=ng m'++lS ms;rw[fh,au,List.set_append_left _ _ (by rw[l7];exact hc),he]
 |y::ms,i+1,c,m',u,h,hc,he=>by
  have ih:=Cx ms i c m' u S6 hc (by simpa using he);rw[am];show(ng y++lS ms).set _ u=ng y++lS (ms.set i m');rw[iN _ _ (by rw[l7];omega),l7,←ih];congr 2;omega
theorem lF.as2{cap:Nat}(h:lF w B (.slice (aC g) n cap) cs)(hn:n=cs.length)(i c:Nat)(hi:i<cs.length)(hc:c<12)(u:jD)(m':jZ)(he:ng m'=(ng cs[i]).set c u)(hok:my w w m')(hap:Apart (some g) m'):
 lF (w.setCell ⟨g,i*12+c,none⟩ u) B (.slice (aC g) n cap) (cs.set i m')∧w.grownBy (w.setCell ⟨g,i*12+c,none⟩ u) (some g):=by
 subst hn
 obtain⟨h1,h2⟩:=h.own.stored (i*12+c) u
 rw[Cx cs i c m' u hi hc he]at h1
 have mem:∀x∈cs.set i m',my w w x∧Apart (some g) x:=fun x hx=>by
  rcases dO hx with hx|hx
  ·exact⟨h.ok x hx,h.ap x hx⟩
  rw[hx];exact⟨hok,hap⟩
 exact⟨⟨by rw[eq];exact h1,fun x hx=>(mem x hx).1.grown h2 (mem x hx).2,fun x hx=>(mem x hx).2⟩,h2⟩
theorem lF.PL{cap:Nat}(h:lF w B (.slice (aC g) n cap) cs)(i:Nat)(hi:i<cs.length):wV w g (i*12) cs[i]:=by
 obtain⟨b,off,e,hb,hc⟩:=(lF.tab h).at_ jS
 cases e
 exact Ju (hc i hi)
theorem K9(A:Option jG)(ms:List jZ)(cap:Nat)(hl:ms.length≤1000)(w:jC)(hS:Tab w w A ms):
 jE Tryz.prog 185 #[jN A ms cap] w fun e w'=>(∃v,e=.returned v∧lF w' w v ms∧(ms=[]∨∃g c,v=.slice (aC g) ms.length c))∧Below w w w':=by
 obtain⟨i0,hi0,hz0,hz1,hz2⟩:=bi5 Tryz.zo
 have q22:∀(w:jC)(a:Option jG)(n c n' c':Nat),(binOp .eql 108 (.slice a n c) (.slice none n' c')).run Tryz.prog w=.ok (.bool a.isNone) w:=fun w a n c n' c'=>fR w _ _ a n c n' c' Tryz.underlying108
 have HS:=ah hS
 have HN:Hid (A=none→ms=[]):=fun e=>by
  subst e
  cases ms with
  |nil=>rfl
  |cons x r=>
   obtain⟨_,_,h,_⟩:=hS.rd (by intro e;have:=congrArg ez e;rw[vS]at this;simp at this)
   cases h
 clear hS
 cases A with
 |none=>
  obtain rfl:=HN rfl;go_in;go_wp2_with fail;have HO:Hid (lF w w aO []):=⟨dY _ _ _ _,fun m hm=>(by simp at hm),fun m hm=>(by simp at hm)⟩;go_ret;exact⟨⟨_,rfl,HO⟩,jQ _⟩
 |some ad=>
  go_in;go_wp2_with(at_builtin;refine kr _ rfl _ _ 108 rfl w 197 i0 _ 12 168 Tryz.underlying108 hi0 hz0 hz1 hz2 rfl B8 _ 0 _ rfl (gO w #[] 0 aa (be _) lV) _ _ ms.length cap (lS ms) rfl (by rw[vS];omega) (Rd.below HS.rd (jP (jQ w) _)) Pq O0 jS lV ?_;intro v' w1 hown hgrow hnil);have hB:Below w w w1:=((Below.refl _ w).alloc aa _).grown hgrow lV (by intro k hk;cases hk;exact ay _);rw[au]at hown;simp only[fO,gP,iT,dz,fh]at hown;have HO:Hid (lF w1 w v' ms):=⟨hown,fun m hm=>(HS.ok m hm).later hB,fun m hm=>⟨nL (HS.ok m hm).l hown,nL (HS.ok m hm).k.e hown,nL (HS.ok m hm).k.c hown,nL (HS.ok m hm).k.g hown⟩⟩;have HV:Hid (ms=[]∨∃g c,v'=.slice (aC g) ms.length c):=by
   rcases fM ms.length with h|h
   ·exact .inl (da h)
   obtain⟨g,c,arr,e,_⟩:=se hown h;exact .inr ⟨g,c,e⟩
  have HB:=ah hB;clear hown hgrow hnil hB;go_wp2;go_ret;exact⟨⟨_,rfl,HO,HV⟩,HB⟩
theorem MH(h:∀ad,A=some ad→B≤ad.block)(hg:g<B):Ap A xs (some g):=fun _ ad e e2=>by
 have:=h ad e;cases e2;omega
def QI(w:jC)(g c:Nat)(ms:List jZ)(k:Nat)(m:jZ)(W:jC):Prop:=
 ∃cs:List jZ,cs.length=ms.length∧cs.map (·.s)=ms.map (·.s)∧cs[k]? =some m∧lF W w (.slice (aC g) ms.length c) cs∧(∀(j:Nat)(h:j<cs.length),j<k→mr w cs[j])∧Below w w W
section
variable{w W W':jC}{g c k:Nat}{ms:List jZ}{m:jZ}
theorem QI.call(h:QI w g c ms k m W)(hb:Below W W W'):QI w g c ms k m W':=by
 obtain⟨cs,h1,h2,h3,h4,h5,h6⟩:=h;exact⟨cs,h1,h2,h3,h4.later hb,h5,h6.trans (hb.mono h6.size)⟩
theorem QI.at_(h:QI w g c ms k m W):wV W g (k*12) m∧(∀j,W.frozen? ⟨g,j,none⟩=false)∧my W W m∧Apart (some g) m∧g<W.heap.size∧w.heap.size≤g:=by
 obtain⟨cs,h1,h2,h3,h4,h5,h6⟩:=h;obtain⟨hk,e⟩:=ci.1 h3;obtain⟨g',cap',arr,e2,hb,hl,hblk,_⟩:=se h4.own jS;injection e2 with e3 e4 e5
 cases e3
 have:=h4.PL k hk;rw[e]at this;exact⟨this,hblk.frozen,e▸h4.ok _ (ar hk),e▸h4.ap _ (ar hk),hl,hb⟩
theorem QI.put(h:QI w g c ms k m W)(j:Nat)(hj:j<12)(u:jD)(m':jZ)(he:ng m'=(ng m).set j u)(hs:m'.s=m.s)(hok:my W W m')(hap:Apart (some g) m'):QI w g c ms k m' (W.setCell ⟨g,k*12+j,none⟩ u):=by
 have hg:=h.at_.2.2.2.2.2;obtain⟨cs,h1,h2,h3,h4,h5,h6⟩:=h;obtain⟨hk,e⟩:=ci.1 h3;obtain⟨p1,p2⟩:=h4.as2 h1.symm k j hk hj u m' (by rw[e];exact he) hok hap;refine⟨cs.set k m',by rw[eq];exact h1,?_,by rw[gM hk],p1,fun i hi hik=>?_,h6.setCell (p:=⟨g,k*12+j,none⟩) hg u⟩
 ·rw[iJ,hs,←e,←h2];have:(cs[k]).s=(cs.map (·.s))[k]'(by simpa using hk):=by rw[gD]
  rw[this,ie]
 rw[List.getElem_set_ne jS];exact h5 i (by simpa using hi) hik
theorem QI.fit(h:QI w g c ms k m W)(hf:∀m∈ms,n_ m.s):n_ m.s:=by
 obtain⟨cs,h1,h2,h3,_⟩:=h;exact RO h2 hf _ (cm h3)
theorem zi{P:bi3}{f:bl9}{args:Array jD}{R:bi6→jC→Prop}(F:jC→Prop)(h:F W)(k:∀V,F V→jE P f args V R):jE P f args W R:=k W h
theorem Ql{P:bi3}{a:Act}{c:bk9}{Q:bk7→Act→jC→Prop}(F:jC→Prop)(h:F W)(k:∀V,F V→c.wp P Q a V):c.wp P Q a W:=k W h
end
theorem Gh(A:Option jG)(ms:List jZ)(cap:Nat)(hl:ms.length≤20)(hf:∀m∈ms,n_ m.s)(w:jC)(hS:Tab w w A ms):
 jE Tryz.prog 141 #[jN A ms cap] w fun e w'=>(∃v cs,e=.returned v∧cs.map (·.s)=ms.map (·.s)∧lF w' w v cs∧∀m∈cs,mr w m)∧Below w w w':=by
 have HF:=ah hf
 have QC:=ah (K9 A ms cap jS w hS)
 clear hS hf
 go_in
 go_wp2_with fail
 refine QC.mono ?_
 rintro e w1⟨⟨v,rfl,ho,hv⟩,hb1⟩
 have xe:=ah ho
 have HB1:=ah hb1
 clear QC ho hb1
 rcases hv with rfl|⟨g,c,rfl⟩
 ·obtain⟨A1,c1,rfl,hc1,_⟩:=lB xe.own;go_wp2_with fail;go_loopw[10] (fun i wr=>i=.int .i64 0∧(bB w wr)∧Hid (lF wr w (.slice A1 0 c1) [])) (fun i _=>0)
  case atStart=>exact⟨rfl,HB1,xe⟩
  obtain⟨rfl,HB,HO⟩:=hrel;go_wp2;go_ret;exact⟨⟨_,[],rfl,rfl,HO,fun m hm=>(by simp at hm)⟩,HB⟩
 have hgl:=pf xe.own g rfl
 go_wp2_with fail
 go_loopw[10] (fun i wr=>∃(k:Nat)(cs:List jZ),i=(aJ k)∧k≤ms.length∧cs.length=ms.length∧Hid (cs.map (·.s)=ms.map (·.s))∧Hid (lF wr w (.slice (aC g) ms.length c) cs)∧Hid (∀j(h:j<cs.length),j<k→mr w cs[j])∧(bB w wr)) (fun i _=>(lI 34 ms i))
 case atStart=>exact⟨0,ms,rfl,be _,rfl,rfl,xe,fun j _ h=>jS,HB1⟩
 clear xe HB1
 obtain⟨k,cs,rfl,hk,hcl,HE,HO,BG,HB⟩:=hrel
 have hgw:=(pf HO.own g rfl).2
 by_cases h1:k<ms.length
 ·have d1:decide ((k:Int)<ms.length)=true:=ae;have h1c:k<cs.length:=jS;have hi1:(0:Int)≤k:=jS;have hi2:(k:Int)<ms.length:=jS;obtain⟨m0,hm0⟩:∃m,cs[k]? =some m:=⟨_,an h1c⟩;have H0:Hid (QI w g c ms k m0 wr):=⟨cs,hcl,HE,hm0,HO,BG,HB⟩;have BH:=ah (H0.fit HF);obtain⟨⟨z0,_,_,z3,_,_,_,_,z8,_,z10,_⟩,fz,ok,ap,hg,_⟩:=H0.at_;have oH:=ah ok;have xa:=ah ap;clear hm0 HE HO BG HB ok ap;go_wp2_with fail;refine(Bi _ m0.s.l _ (by have:=BH.l;omega) _ oH.l).mono ?_;rintro e w1⟨⟨A1,c1,rfl,hs1,ha1⟩,hb1⟩;have Yz:Hid (aX A1 w):=fun ad e=>by have:=ha1 ad e;omega
  have q:=H0.call hb1;have H1:=ah (q.put 0 B8 (.slice A1 m0.s.l.length c1) ⟨m0.s,m0.m,A1,c1,m0.hk⟩ rfl rfl ⟨hs1,(oH.later hb1).k⟩ ⟨MH ha1 hg,xa.2⟩);obtain⟨⟨z0',_,_,z3',_,_,_,_,YP,_,MV,_⟩,fz,_,_,hg,hgl⟩:=q.at_;clear hs1 ha1 hb1 oH xa q z0 z3 z8 z10;go_wp2_with fail;refine zi _ H1 (fun V1 HV=>?_);clear H1 H0 z0' z3' YP MV fz hg hgl;have H1:=ah HV;obtain⟨⟨z0,_,_,z3,_,_,_,_,z8,_,z10,_⟩,fz,ok,ap,hg,hgl⟩:=HV.at_;have oH:=ah ok;have xa:=ah ap;clear HV ok ap;refine(pq _ m0.m.s.e _ (by have:=BH.k.e;rw[←m0.hk]at this;omega) _ oH.k.e).mono ?_;rintro e w2⟨⟨A2,c2,rfl,hs2,ha2⟩,hb2⟩;have HL2:Hid (aX A2 w):=fun ad e=>by have:=ha2 ad e;omega
  have q:=H1.call hb2;have H2:=ah (q.put 3 B8 (.slice A2 m0.m.s.e.length c2) ⟨m0.s,⟨m0.m.s,A2,c2,m0.m.ca,m0.m.cc,m0.m.ga,m0.m.gc⟩,A1,c1,m0.hk⟩ rfl rfl ⟨(oH.later hb2).l,⟨hs2,(oH.later hb2).k.c,(oH.later hb2).k.g⟩⟩ ⟨xa.1,MH ha2 hg,xa.2.2⟩);obtain⟨⟨z0',_,_,z3',_,_,_,_,YP,_,MV,_⟩,fz,_,_,hg,hgl⟩:=q.at_;clear hs2 ha2 hb2 oH xa q z0 z3 z8 z10;go_wp2_with fail;refine zi _ H2 (fun V2 HV=>?_);clear H2 H1 z0' z3' YP MV fz hg hgl;have H2:=ah HV;obtain⟨⟨z0,_,_,z3,_,_,_,_,z8,_,z10,_⟩,fz,ok,ap,hg,hgl⟩:=HV.at_;have oH:=ah ok;have xa:=ah ap;clear HV ok ap;refine(pq _ m0.m.s.c _ (by have:=BH.k.c;rw[←m0.hk]at this;omega) _ oH.k.c).mono ?_;rintro e w3⟨⟨A3,c3,rfl,hs3,S8⟩,hb3⟩;have SS:Hid (aX A3 w):=fun ad e=>by have:=S8 ad e;omega
  have q:=H2.call hb3;have H3:=ah (q.put 8 B8 (.slice A3 m0.m.s.c.length c3) ⟨m0.s,⟨m0.m.s,A2,c2,A3,c3,m0.m.ga,m0.m.gc⟩,A1,c1,m0.hk⟩ rfl rfl ⟨(oH.later hb3).l,⟨(oH.later hb3).k.e,hs3,(oH.later hb3).k.g⟩⟩ ⟨xa.1,xa.2.1,MH S8 hg,xa.2.2.2⟩);obtain⟨⟨z0',_,_,z3',_,_,_,_,YP,_,MV,_⟩,fz,_,_,hg,hgl⟩:=q.at_;clear hs3 S8 hb3 oH xa q z0 z3 z8 z10;go_wp2_with fail;refine zi _ H3 (fun V3 HV=>?_);clear H3 H2 z0' z3' YP MV fz hg hgl;have H3:=ah HV;obtain⟨⟨z0,_,_,z3,_,_,_,_,z8,_,z10,_⟩,fz,ok,ap,hg,hgl⟩:=HV.at_;have oH:=ah ok;have xa:=ah ap;clear HV ok ap;refine(vI _ m0.m.s.g _ (by have:=BH.k.g;rw[←m0.hk]at this;omega) _ oH.k.g).mono ?_;rintro e w4⟨⟨A4,c4,rfl,hs4,XD⟩,hb4⟩;have Lu:Hid (aX A4 w):=fun ad e=>by have:=XD ad e;omega
  have q:=H3.call hb4;have H4:=ah (q.put 10 B8 (.slice A4 m0.m.s.g.length c4) ⟨m0.s,⟨m0.m.s,A2,c2,A3,c3,A4,c4⟩,A1,c1,m0.hk⟩ rfl rfl ⟨(oH.later hb4).l,⟨(oH.later hb4).k.e,(oH.later hb4).k.c,hs4⟩⟩ ⟨xa.1,xa.2.1,xa.2.2.1,MH XD hg⟩);obtain⟨⟨z0',_,_,z3',_,_,_,_,YP,_,MV,_⟩,fz,_,_,hg,hgl⟩:=q.at_;clear hs4 XD hb4 oH xa q z0 z3 z8 z10;go_wp2_with fail;have SO:Hid (mr w (XM 24 m0 A2 c2 A3 c3 A4 c4 A1 c1)):=⟨Yz,⟨HL2,SS,Lu⟩⟩;go_roundw
  case rel=>
   obtain⟨cs',q1,q2,q3,q4,q5,q6⟩:=H4;refine⟨k+1,cs',CJ,jS,q1,q2,q4,fun j hj hjk=>?_,q6⟩;rcases iE (Nat.le_of_lt_succ hjk)with h|h
   ·exact q5 j hj h
   subst h;have:=ci.1 q3;rw[this.2];exact SO
  exact No
 have hkk:k=ms.length:=jS
 subst hkk
 have d1:decide ((ms.length:Int)<ms.length)=false:=lV
 go_wp2
 go_ret
 exact⟨⟨_,rfl,cs,HE,HO,fun m hm=>by obtain⟨j,hj,rfl⟩:=dR hm;exact BG j hj jS⟩,HB⟩
def vO(t:List mq)(a:Nat×Int×Bool)(k:Nat):Nat×Int×Bool:=
 match t[k]? with
 |none=>a
 |some s=>if kn s.k.kind≤s.k.level then a else if a.2.2=false∨a.2.1<nF s then(k,nF s,true)else a
def nM(t:List mq)(n:Nat):Nat×Int×Bool:=(bu n).foldl (vO t) (0,0,false)
theorem zJ(t:List mq)(n:Nat):nM t (n+1)=vO t (nM t n) n:=by simp[nM,fV]
def rC(t:List mq):Nat×Bool:=((nM t t.length).1,(nM t t.length).2.2)
theorem DL(t:List mq):∀n,n≤t.length→(nM t n).2.2=true→∃h:(nM t n).1<t.length,t[(nM t n).1].k.level<kn t[(nM t n).1].k.kind
 |0,_,h=>by simp[nM]at h
 |n+1,hn,h=>by
  have ih:=DL t n jS;rw[zJ]at h⊢;generalize nM t n=a at*
  have e:t[n]? =some t[n]:=an jS;simp only[vO,e]at h⊢;split at h
  ·rename_i h1;simp only[if_pos h1];exact ih h
  rename_i h1;simp only[if_neg h1];by_cases h2:a.2.2=false∨a.2.1<nF t[n]
  ·simp only[if_pos h2];exact⟨jS,jS⟩
  rw[if_neg h2]at h;simp only[if_neg h2];exact ih h
def Aw(t:List mq)(k:Nat):List mq:=match t[k]? with|none=>t|some s=>t.set k {s with k:=mG s.k}
theorem En(h:k<t.length):Aw t k=t.set k {t[k]with k:=mG t[k].k}:=by simp[Aw,h]
theorem Qw(h:GT t)(hk:k<t.length)(hl:t[k].k.level<kn t[k].k.kind):GT (Aw t k):=by
 rw[En hk];exact h.kY k hk (uW (h.all _ (ar hk)).k hl).1
def pI(budget:Int):Nat→List mq→List Nat→Option (List mq×List Nat)
 |0,_,_=>none
 |n+1,t,ps=>if kJ t≤budget then some (t,ps)else if(rC t).2=true then pI budget n (Aw t (rC t).1) (ps++[(rC t).1])else none
def C8(s:mq):Nat:=(kn s.k.kind-s.k.level).toNat
def pg(t:List mq):Nat:=(t.map C8).sum
theorem GE:∀(t:List mq)(k:Nat)(hk:k<t.length)(s:mq),C8 s+1=C8 t[k]→pg (t.set k s)+1=pg t
 |x::t,0,_,s,h=>by simp[pg]at h⊢;omega
 |x::t,k+1,hk,s,h=>by
  have:=GE t k (by simpa using hk) s S6;simp[pg]at this⊢;omega
theorem GF(h:GT t)(hk:k<t.length)(hl:t[k].k.level<kn t[k].k.kind):pg (Aw t k)+1=pg t:=by
 rw[En hk];obtain⟨_,g2,g3⟩:=uW (h.all _ (ar hk)).k hl;refine GE t k hk _ ?_;simp only[C8,g2,g3];omega
theorem left_le(h:GS s):C8 s≤4:=by
 obtain⟨l1,l2,k1,k2⟩:=sI h.k;unfold C8;have:kn s.k.kind≤4:=by unfold kn;split;omega;split<;>omega
 omega
theorem GH:∀(t:List mq),(∀s∈t,GS s)→pg t≤4*t.length
 |[],_=>by simp[pg]
 |x::t,h=>by
  have h1:=left_le (h x lV);have h2:=GH t fun s hs=>h s (by simp[hs]);simp[pg]at h2⊢;omega
theorem Qy(h:GT t):pg t≤80:=by have:=GH t h.all;have:=h.len;omega
theorem Wf(budget:Int):∀(n:Nat)(t:List mq)(ps:List Nat){r:List mq×List Nat},GT t→pI budget n t ps=some r→GT r.1∧kJ r.1≤budget
 |0,_,_,_,_,h=>by simp[pI]at h
 |n+1,t,ps,r,hg,h=>by
  rw[pI]at h;split at h
  ·rename_i hc
   cases h
   exact⟨hg,hc⟩
  split at h
  ·rename_i hv;obtain⟨hk,hb⟩:=DL t t.length aa hv;exact Wf budget n _ _ (Qw hg hk hb) h
  cases h
end Go.Proofs.YtfcnedcahoifoaaGreatDoor

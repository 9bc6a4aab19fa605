import Derived.Deep.RegionLaw
import Derived.Test.YtfcnedcahoifoaaGreatDoorOR
namespace Go.Proofs.YtfcnedcahoifoaaGreatDoor
open Go.RowKit
open _root_.Array renaming getElem?_eq_some_iff→aw,toList_empty→gP
open _root_.Bool renaming false_and→eO,true_and→eF
open _root_.Go renaming Addr→jG,Calls→jE,Ending→bi6,FuncId→bl9,Oper→bk0,TypeId→jH,Value→jD,World→jC,bodyPost_ret→jF,info_parts→bi5,ownsRow_setCell_other→bj0,run_makeSlice_owned→bk8,run_underlying→bi8,wpList_append_own→bk3,wpQuiet_nil→bl0
open _root_.Go.Act renaming put→gL
open _root_.Go.Addr renaming add→iU
open _root_.Go.Builtin renaming clear_→gE,zeroCells→d8
open _root_.Go.Code renaming region→jo
open _root_.Go.Instr renaming slice→gI
open _root_.Go.IntWalk renaming i64_in→dv,u64_in→gC
open _root_.Go.Lib renaming hid→ai,run_eql_slice_nil→fR
open _root_.Go.Oper renaming wp→je
open _root_.Go.Program renaming elem→gR
open _root_.Go.Region renaming free→iV,noSelect→gS,ready→eE,wanted→eQ
open _root_.Go.Result renaming andThen→dw
open _root_.Go.RowKit renaming intOf→av
open _root_.Go.Sem renaming run_bind→eT
open _root_.Go.Value renaming int→br,ownBlock→gy
open _root_.Go.World renaming block_lt_of_cell?→b8,cell?_alloc_lt→dt,ownsRow_made→gO,ownsRow_nil→dY,ownsRow→gX
open _root_.Int renaming not_lt→iP
open _root_.List renaming append_assoc→eH,append_nil→eB,drop_drop→gp,drop_succ_cons→jc,filter_append→gQ,filter_cons→eC,findIdx?_eq_none_iff→fU,findIdx?_eq_some_iff_getElem→eP,flatMap_append→eZ,flatMap_cons→dg,getElem?_drop→fL,getElem?_eq_getElem→an,getElem?_eq_some_iff→ci,getElem?_map→eD,getElem_cons_succ→ej,getElem_cons_zero→dQ,getElem_mem→ar,getElem_of_mem→dR,getElem_set_self→fP,getElem_toArray→eK,length_append→cd,length_cons→c_,length_drop→dr,length_filter_le→fe,length_map→ax,length_set→eq,length_take→cv,mem_filter→eN,mem_flatMap→ir,mem_map→dq,nil_append→dz,pairwise_iff_getElem→cj,setIfInBounds_toArray→bd,set_cons_succ→am,set_cons_zero→ak,take_length→dP,take_nil→iT,take_of_length_le→cl,take_set_of_le→gm,take_succ_cons→iz,take_succ_eq_append_getElem→aj,take_zero→fO
open _root_.Nat renaming add_zero→ip,le_refl→ay,le_trans→a_,mod_lt→jj,reduceAdd→ao,zero_add→au,zero_le→be,zero_mul→fh
open _root_.Or renaming inl→ge
set_option maxRecDepth 100000
set_option maxHeartbeats 16000000
set_option linter.unusedVariables false
set_option linter.unusedSimpArgs false
variable{w w':jC}{B:Nat}
theorem VD.below{b o:Nat}{x:Gr}(h:VD w b o x)(hb:Below B w w')(hl:b<B):VD w' b o x:=by
 have q:∀(i:Nat)(v:jD),w.cell? ⟨b,i,none⟩=some v→w'.cell? ⟨b,i,none⟩=some v:=fun i v hv=>(hb.cell (p:=⟨b,i,none⟩) hl).trans hv;exact⟨q _ _ h.c0,q _ _ h.c1,q _ _ h.c2⟩
theorem Uz(x:Gr):∀u∈uZ x,u.oneCell'=true:=fun u hu=>by
 simp[uZ]at hu;rcases hu with rfl|rfl|rfl<;>rfl
theorem AS(l:List Gr):∀u∈l.flatMap uZ,u.oneCell'=true:=fun u hu=>by
 obtain⟨x,_,h⟩:=ir.1 hu;exact Uz x u h
theorem Tryz.Ey:(Tryz.prog.info? 238).map (fun i=>(i.zero,i.size,i.bytes))=some (some (.agg #[jK 0,jK 0,aF]),3,32):=oo
theorem sx(n:Int)(A:Option jG)(l:List Gr)(cap:Nat)(hG:GG n l)(w:jC)(hT:Tb w)(hS:Gb w w A l):
 jE Tryz.prog 115 #[.agg #[jK n,jN A l cap]] w fun e w'=>e=.returned (.bool true)∧Below w w w':=by
 have hlen:=hG.len
 have dn:decide (n<1)=false:=decide_eq_false (by have:=hG.n1;omega)
 have dl:decide (10<(l.length:Int))=false:=ag
 have HS:=ah hS
 have HG:=ah hG
 have QS:Hid (∀(s:ByteArray) w',s.size≤1000→mw s=true→Below w w w'→jE Tryz.prog 56 #[jL s] w' fun e w''=>e=.returned (.bool true)∧Below w' w' w''):=fun s w' h1 h2 h=>by have:=uk s jS w' (hT.later h);rwa[h2]at this
 clear hS hG hT
 go_in
 go_wp2_with fail
 refine oN (fun _=>True) ((Hold.nil w).alloc w 111 [jK n,jN A l cap]) trivial (fun V HV _=>?_)
 have x:=fk (HV.facts)
 go_wp2_with fail
 clear x
 go_loopw[3,18] (fun v i wr=>∃(k:Nat)(u:Int),i=(aJ k)∧k≤l.length∧v=.int .u64 u∧Hid (∀h:k<l.length,u<l[k].id)∧Hid (Hold w wr [(w,111,[jK n,jN A l cap])])) (fun _ i _=>l.length-(av i).toNat)
 case atStart=>exact⟨0,0,rfl,be _,rfl,fun h=>by have:=(HG.all _ (ar h)).1;omega,HV⟩
 clear HV
 obtain⟨k,u,rfl,hk,rfl,HU,HH⟩:=hrel
 by_cases h1:k<l.length
 ·have d1:decide ((k:Int)<l.length)=true:=ae;obtain⟨b,off,rfl,hb,hc⟩:=HS.at_ jS;obtain⟨i0,i1,i2⟩:=(hc k h1).below HH.below hb;have hbw:b<wr.heap.size:=by have:=HH.size;omega
  have hi1:(0:Int)≤k:=jS;have hi2:(k:Int)<l.length:=jS;obtain⟨a1,a2,a3,a4,a5⟩:=HG.all _ (ar h1);have Yu:Hid (∀h:k+1<l.length,l[k].id<l[k+1].id):=fun h=>cj.1 HG.up _ _ h1 h jS;have e1:decide (l[k].id≤u)=false:=decide_eq_false (by have:=HU h1;omega);have e2:decide (n≤l[k].id)=false:=ag;have Q:=ah (fun w'=>QS l[k].scope w' a5 a4);have y:=fk (HH.facts);clear hc HU a1 a2 a3 a4 a5;generalize l[k]=x at*
  go_wp2_with fail;refine kf (fun _=>True) (HH.alloc wr 238 [jK x.id,jK x.to,jL x.scope]) trivial (fun V2 H2 _=>?_);clear y i0 i1 i2;refine(Q V2 H2.below).mono ?_;rintro e w2⟨rfl,hb2⟩;replace H2:=ah (H2.call hb2);clear hb2 Q;have y:=fk (H2.facts);go_wp2;go_roundw
  case rel=>exact⟨k+1,x.id,CJ,jS,rfl,Yu,H2.tail⟩
  exact No
 have hkk:k=l.length:=jS
 subst hkk
 have d1:decide ((l.length:Int)<l.length)=false:=lV
 have HB:=ah HH.below
 go_wp2
 go_ret
 exact⟨rfl,HB⟩
def rA(w:jC)(r:Except Int (Int×List Gr×Int))(e:bi6)(w':jC):Prop:=Below w w w'∧match r with
 |.error n=>e=.returned (.tuple #[.agg #[jK 0,jM],jK 0,jJ n])
 |.ok (n,l,id)=>∃A c,e=.returned (.tuple #[.agg #[jK n,jN A l c],jK id,jJ 0])∧l.length≤c∧Gb w' w' A l∧(aX A w)
variable{r:Except Int (Int×List Gr×Int)}{n:Int}
theorem rA.no(h:r=.error n)(hb:Below w w w'):rA w r (.returned (.tuple #[.agg #[jK 0,jM],jK 0,jJ n])) w':=⟨hb,by rw[h]⟩
variable{l:List Gr}{A:Option jG}{k c:Nat}
theorem rA.yes{id:Int}(h:r=.ok (n,l,id))(hk:k=l.length)(hb:Below w w w')(ho:w'.ownsRow w 238 3 (.slice A k c) k (l.flatMap uZ)):
 rA w r (.returned (.tuple #[.agg #[jK n,.slice A k c],jK id,jJ 0])) w':=by
 subst hk
 refine⟨hb,?_⟩
 rw[h]
 obtain⟨A',c',e,hc,hr,hl⟩:=li ho
 cases e
 exact⟨A,c,rfl,hc,hr,hl⟩
theorem NP(n:Int)(A:Option jG)(l:List Gr)(cap:Nat)(to:Int)(sc:ByteArray)(hG:GG n l)(hs:sc.size≤1000)(w:jC)(hT:Tb w)(hS:Gb w w A l):
 jE Tryz.prog 81 #[.agg #[jK n,jN A l cap],jK to,jL sc] w (rA w (lW n l to sc)):=by
 have hlen:=hG.len
 have hn1:=hG.n1
 obtain⟨hn2,hn3⟩:=hG.nU
 obtain⟨i0,hi0,hz0,hz1,hz2⟩:=bi5 Tryz.Ey
 have HS:=ah hS
 have QG:Hid (∀w',Below w w w'→jE Tryz.prog 115 #[.agg #[jK n,jN A l cap]] w' fun e w''=>e=.returned (.bool true)∧Below w' w' w''):=fun w' h=>sx n A l cap hG w' (hT.later h) (hS.later h)
 have QS:Hid (∀w',Below w w w'→jE Tryz.prog 56 #[jL sc] w' fun e w''=>e=.returned (.bool (mw sc))∧Below w' w' w''):=fun w' h=>uk sc jS w' (hT.later h)
 have HR:Hid (lW n l to sc=if mw sc=true then(if l.length=10∨n=18446744073709551615 then .error 151 else .ok (n+1,l++[⟨n,to,sc⟩],n))else .error 50):=rfl
 generalize lW n l to sc=r at*
 generalize mw sc=sb at*
 clear hG hT hS
 go_in
 go_wp2_with fail
 refine kf (fun _=>True) (((Hold.nil w).alloc w 111 [jK n,jN A l cap]).alloc (w.heap.size+1) 111 [jK 0,jM]) trivial (fun V HV _=>?_)
 refine(QG V HV.below).mono ?_
 rintro e w1⟨rfl,hb1⟩
 replace HV:=ah (HV.call hb1)
 clear hb1 QG
 have x:=fk (HV.facts)
 go_wp2_with fail
 refine(QS _ HV.below).mono ?_
 rintro e w2⟨rfl,hb2⟩
 replace HV:=ah (HV.call hb2)
 clear hb2 QS x
 have x:=fk (HV.facts)
 cases sb with
 |false=>
  have HR2:Hid (r=.error 50):=by show _=_;rw[HR];rfl
  clear HR;have HRR:=aS (HV.all 0 [jK 0,jM]);go_wp2_with fail;refine kw (fun _=>True) HRR trivial (fun V9 H9 _=>?_);have hq:=fk (H9.at_ 0);clear x HRR;refine jF (v:=.tuple #[.agg #[jK 0,jM],jK 0,jJ 50]) (by simp[results,Tryz.results81,go_sem,hq]) rfl ?_;exact rA.no HR2 H9.below
 |true=>
  by_cases hf:l.length=10∨n=18446744073709551615
  ·have HR2:Hid (r=.error 151):=by show _=_;rw[HR,if_pos rfl,if_pos hf]
   clear HR;have HRR:=aS (HV.all 0 [jK 0,jM]);by_cases hl:l.length=10
   ·have d1:((l.length:Int)==10)=true:=beq_iff_eq.2 jS;have d1':decide ((l.length:Int)=10)=true:=ae;go_wp2_with fail;refine kw (fun _=>True) HRR trivial (fun V9 H9 _=>?_);have hq:=fk (H9.at_ 0);clear x HRR;refine jF (v:=.tuple #[.agg #[jK 0,jM],jK 0,jJ 151]) (by simp[results,Tryz.results81,go_sem,hq]) rfl ?_;exact rA.no HR2 H9.below
   obtain rfl:n=18446744073709551615:=by rcases hf with h|h<;>omega
   have d1:((l.length:Int)==10)=false:=beq_false_of_ne jS;have d1':decide ((l.length:Int)=10)=false:=ag;go_wp2_with fail;refine kw (fun _=>True) HRR trivial (fun V9 H9 _=>?_);have hq:=fk (H9.at_ 0);clear x HRR;refine jF (v:=.tuple #[.agg #[jK 0,jM],jK 0,jJ 151]) (by simp[results,Tryz.results81,go_sem,hq]) rfl ?_;exact rA.no HR2 H9.below
  have HR2:Hid (r=.ok (n+1,l++[⟨n,to,sc⟩],n)):=by show _=_;rw[HR,if_pos rfl,if_neg hf]
  have d1:((l.length:Int)==10)=false:=beq_false_of_ne jS;have d1':decide ((l.length:Int)=10)=false:=ag;have d2:(n==18446744073709551615)=false:=beq_false_of_ne jS;have d2':decide (n=18446744073709551615)=false:=ag;clear HR;obtain⟨cN,hcN⟩:∃c:Nat,c=l.length+1:=⟨_,rfl⟩;obtain⟨w3,hmk,ho0,hg0⟩:=bk8 (P:=Tryz.prog) w2 w2 109 238 i0 _ 3 Tryz.underlying109 hi0 hz0 hz1 .i64 .i64 cN jS (by rw[hz2];omega) O0 aa;rw[show(cN:Int)=(l.length:Int)+1 by omega]at hmk;have hz2':w.heap.size+1<w2.heap.size:=x.1;have MO:=ah (HV.grown hg0 (fun g e=>LS));have HO:=ah ho0;have hs3:=hg0.size;have hlb:∀b∈[(w.heap.size+1,111,[br .u64 0,jM]),(w,111,[jK n,jN A l cap])],b.1<w2.heap.size:=fun b hb=>by simp at hb;rcases hb with rfl|rfl<;>simp only<;>omega
  have x3:=fk (MO.facts);have Vm:=ah (Rd.below HS MO.below);have hnn:n<18446744073709551615:=jS;clear ho0 hg0 HV hf HS hcN;generalize hbz:w2.heap.size=bz at*
  go_wp2_with(first
   |(at_builtin;refine kr _ rfl (.tmp 33) (.tmp 35) 109 rfl bz 238 i0 _ 3 32 Tryz.underlying109 hi0 hz0 hz1 hz2 rfl B8 _ 0 _ rfl HO _ _ l.length cap (l.flatMap uZ) rfl (by rw[qA sA];omega) Vm (AS _) O0 jS jS ?_;intro v1 w4 ho1 hg1 _;replace MO:=ah (MO.grown hg1 (fun g e=>by have:=qp HO _ e;exact⟨jS,fun b hb=>by have:=hlb b hb;omega⟩));have hs4:=hg1.size;replace HO:=ah ho1;clear ho1 hg1 Vm x x3;have x3:=MO.facts;simp only[Facts,kz,au,ao,and_true]at x3)
   |(at_builtin;refine kr _ rfl (.tmp 37) (.tmp 43) 109 rfl bz 238 i0 _ 3 32 Tryz.underlying109 hi0 hz0 hz1 hz2 rfl B8 v1 _ _ rfl (HO.alloc _) _ _ 1 1 [jK n,jK to,jL sc] rfl rfl (tY (jR.new w4 _ #[jK n,jK to,jL sc])) (fun u hu=>by simp at hu;rcases hu with rfl|rfl|rfl<;>rfl) O0 jS mO ?_;intro v2 w5 ho2 hg2 _;replace MO:=ah ((MO.al (.cells #[jK n,jK to,jL sc] 238)).grown hg2 (fun g e=>by have:=qp HO _ e;exact⟨jS,fun b hb=>by have:=hlb b hb;omega⟩));have hs5:=hg2.size;replace HO:=ah ho2;clear ho2 hg2 x3;have x3:=MO.facts;simp only[Facts,kz,au,ao,and_true]at x3;obtain⟨A2,c2,e2,-⟩:=lB HO;subst e2)
   |fail)
  have hw:IntKind.u64.wrap (n+1)=n+1:=gC _ jS;have y:=fk (MO.at_ 1);have HRR:=aS (MO.all 0 [jK (n+1),.slice A2 (l.length+1) c2]);have HOF:=ah (bj0 (bj0 HO (a:=(aE w)) (by have:=qp HO;intro e;have:=this _ e;simp at this;omega) (.int .u64 (n+1))) (a:=(bS w)) (by have:=qp HO;intro e;have:=this _ e;simp at this;omega) (.slice A2 (l.length+1) c2));go_region_held(fun w'=>w'.cell? ⟨w,0,none⟩=some (.int .u64 n)) (first|assumption|exact y.1|go_keep) (fail);go_wp2_with fail;refine kw (fun V=>V.ownsRow bz 238 3 (.slice A2 (0+l.length+1) c2) (0+l.length+1) (([]++l.flatMap uZ)++[br .u64 n,br .u64 to,Value.string sc])) HRR.drew HOF (fun V9 H9 hO9=>?_);have hq:=fk (H9.at_ 0);clear x3 HRR y;refine jF (v:=.tuple #[.agg #[jK (n+1),.slice A2 (l.length+1) c2],jK n,jJ 0]) (by simp[results,Tryz.results81,go_sem,hq]) rfl ?_;refine rA.yes HR2 lV H9.below (own_base (B:=w.heap.size) (show V9.ownsRow bz 238 3 (.slice A2 (l.length+1) c2) (l.length+1) ((l++[(⟨n,to,sc⟩:Gr)]).flatMap uZ)from ?_) jS);have e0:0+l.length+1=l.length+1:=jS;rw[e0]at hO9;simpa[eZ,uZ]using hO9
def rM(p:Gr→Bool)(l:List Gr):Int:=match l.findIdx? p with
 |none=> -1
 |some k=>k
variable{p:Gr→Bool}
theorem Rf(h:∀x∈l,p x=false):rM p l= -1:=by
 unfold rM;rw[fU.2 h]
theorem Re(hk:k<l.length)(h1:p l[k]=true)(h2:∀j(hj:j<k),p (l[j]'(by omega))=false):rM p l=k:=by
 unfold rM;have:l.findIdx? p=some k:=eP.2 ⟨hk,h1,fun j hj=>by rw[h2 j hj];simp⟩;rw[this]
theorem AT(f:bl9)(hfn:f=233∨f=117)(caps:Array jD)(p:Gr→Bool)(A:Option jG)(l:List Gr)(cap:Nat)(hl:l.length≤1000)(w:jC)(hS:Gb w w A l)
 (hf:∀x∈l,∀W,Below w w W→jE Tryz.prog f (#[.agg #[jK x.id,jK x.to,jL x.scope]]++caps) W fun e w'=>e=.returned (.bool (p x))∧Below W W w'):
 jE Tryz.prog 116 #[jN A l cap,.func (.func f) #[] caps] w fun e w'=>e=.returned (.int .i64 (rM p l))∧Below w w w':=by
 have HS:=ah hS
 have HF:=ah hf
 clear hS hf
 rcases hfn with rfl|rfl
 all_goals
  go_in;go_wp2_with fail;go_loopw[8] (fun i wr=>∃k:Nat,i=(aJ k)∧∃hk:k≤l.length,Hid (∀j(hj:j<k),p (l[j]'jS)=false)∧(bB w wr)) (fun i _=>l.length-(av i).toNat)
  case atStart=>exact⟨0,rfl,be _,fun j hj=>absurd hj jS,jQ _⟩
  obtain⟨k,rfl,hk,HE,HB⟩:=hrel;by_cases h1:k<l.length
  ·have d1:decide ((k:Int)<l.length)=true:=ae;obtain⟨b,off,rfl,hb,hc⟩:=HS.at_ jS;obtain⟨i0,i1,i2⟩:=(hc k h1).below HB hb;have hi1:(0:Int)≤k:=jS;have hi2:(k:Int)<l.length:=jS;have QS:=ah (HF _ (ar h1) wr HB)
   cases hr:p l[k]with
   |true=>
    have HR:Hid (rM p l=k):=Re h1 hr HE;rw[hr]at QS;clear hc hr HE;generalize l[k]=x at*
    go_wp2_with fail;refine QS.mono ?_;rintro r w1⟨rfl,hb2⟩;have HB2:=ah (Below.two HB hb2);clear hb2 QS;go_wp2;go_ret;exact⟨mL HR.symm,HB2⟩
   |false=>
    have Yu:Hid (∀j(hj:j<k+1),p (l[j]'jS)=false):=fun j hj=>by
     by_cases e2:j=k
     ·subst e2;exact hr
     exact HE j jS
    rw[hr]at QS;clear hc hr;generalize l[k]=x at*
    go_wp2_with fail;refine QS.mono ?_;rintro r w1⟨rfl,hb2⟩;have HB2:=ah (Below.two HB hb2);clear hb2 QS;go_wp2;go_roundw
    case rel=>exact⟨k+1,CJ,h1,Yu,HB2⟩
    exact No
  have hkk:k=l.length:=jS;subst hkk;have d1:decide ((l.length:Int)<l.length)=false:=lV;have HR:Hid (rM p l= -1):=Rf fun x hx=>by
   obtain⟨j,hj,rfl⟩:=dR hx;exact HE j hj
  go_wp2;go_ret;exact⟨mL HR.symm,HB⟩
theorem Uo(p:Gr→Bool)(l:List Gr):decide (0≤rM p l)=l.any p:=by
 unfold rM
 cases h:l.findIdx? p with
 |none=>
  have:=fU.1 h;have e:l.any p=false:=by rw[List.any_eq_false];intro x hx;rw[this x hx];simp
  rw[e];rfl
 |some k=>
  obtain⟨hk,h1,_⟩:=eP.1 h;have e:l.any p=true:=List.any_eq_true.2 ⟨l[k],ar hk,h1⟩;rw[e];exact decide_eq_true (show(0:Int)≤k by omega)
theorem Ci(caps:Array jD)(p:Gr→Bool)(A:Option jG)(l:List Gr)(cap:Nat)(hl:l.length≤1000)(w:jC)(hS:Gb w w A l)
 (hf:∀x∈l,∀W,Below w w W→jE Tryz.prog 233 (#[.agg #[jK x.id,jK x.to,jL x.scope]]++caps) W fun e w'=>e=.returned (.bool (p x))∧Below W W w'):
 jE Tryz.prog 232 #[jN A l cap,.func (.func 233) #[] caps] w fun e w'=>e=.returned (.bool (l.any p))∧Below w w w':=by
 have Q:=ah (AT 233 (.inl rfl) caps p A l cap hl w hS hf)
 have HA:=ah (Uo p l)
 generalize rM p l=n at*
 clear hS hf
 go_in
 go_wp2_with fail
 refine Q.mono ?_
 rintro e w1⟨rfl,hb1⟩
 go_wp2
 go_ret
 exact⟨jU HA,hb1⟩
theorem N_(x:Gr)(hx:mw x.scope=true)(hxs:x.scope.size≤1000)(to:Int)(bt bl:Nat)(A:Option jG)(l:List kI)(lc:Nat)(hset:setB l=true)(w:jC)(hT:Tb w)(ht:(bI w bt to))(hl:w.cell? ⟨bl,0,none⟩=some (.slice A l.length lc))(hL:Lb w w A l):
 jE Tryz.prog 233 #[.agg #[jK x.id,jK x.to,jL x.scope],jO bt,jO bl] w fun e w'=>e=.returned (.bool (x.to==to&&nX x.scope l))∧Below w w w':=by
 have QM:Hid (∀w',Below w w w'→jE Tryz.prog 190 #[jL x.scope,jN A l lc] w' fun e w''=>e=.returned (.tuple #[.bool (nX x.scope l),jJ 0])∧Below w' w' w''):=fun w' h=>CE x.scope jS hx A l lc hset w' (hT.later h) (hL.later h)
 have hbt:=b8 _ _ ht
 have hbl:=b8 _ _ hl
 simp only at hbt hbl
 generalize nX x.scope l=mb at*
 clear hT hL hset hx hxs
 by_cases hto:x.to=to
 ·have HE:Hid ((x.to==to&&mb)=mb):=by show _=_;rw[beq_iff_eq.2 hto,eF]
  rw[←hto]at ht;clear hto;go_in;go_wp2_with fail;refine kf (fun _=>True) ((Hold.nil w).alloc w 238 [jK x.id,jK x.to,jL x.scope]) trivial (fun V HV _=>?_);refine(QM V HV.below).mono ?_;rintro e w1⟨rfl,hb1⟩;have HB:=ah (HV.call hb1).below;clear hb1 QM HV ht hl
  cases mb with
  |false=>
   go_wp2;go_ret;exact⟨jU HE.symm,HB⟩
  |true=>
   go_wp2;go_ret;exact⟨jU HE.symm,HB⟩
 have HE:Hid ((x.to==to&&mb)=false):=by show _=_;rw[beq_eq_false_iff_ne.2 hto,eO]
 have n1:(x.to==to)=false:=beq_eq_false_iff_ne.2 hto
 have n2:(x.to !=to)=true:=by simp[hto]
 have n3:decide (x.to=to)=false:=by simp[hto]
 go_in
 go_wp2
 go_ret
 exact⟨jU HE.symm,jP (jQ w) _⟩
theorem Rz(n:Int)(GA:Option jG)(l:List Gr)(gc:Nat)(to:Int)(A:Option jG)(ls:List kI)(lc:Nat)(hG:GG n l)(hset:setB ls=true)(w:jC)(hT:Tb w)(hS:Gb w w GA l)(hL:Lb w w A ls):
 jE Tryz.prog 196 #[.agg #[jK n,jN GA l gc],jK to,jN A ls lc] w fun e w'=>e=.returned (.bool (ND l to ls))∧Below w w w':=by
 have hlen:=hG.len
 have HS:=ah hS
 have HG:=ah hG
 have HT:=ah hT
 have HL:=ah hL
 have QG:Hid (∀w',Below w w w'→jE Tryz.prog 115 #[.agg #[jK n,jN GA l gc]] w' fun e w''=>e=.returned (.bool true)∧Below w' w' w''):=fun w' h=>sx n GA l gc hG w' (hT.later h) (hS.later h)
 clear hT hS hL hG
 go_in
 go_wp2_with fail
 refine kf (fun _=>True) ((((Hold.nil w).alloc w 111 [jK n,jN GA l gc]).alloc (w.heap.size+1) 22 [jK to]).alloc (aN w) 72 [jN A ls lc]) trivial (fun V HV _=>?_)
 refine(QG V HV.below).mono ?_
 rintro e w1⟨rfl,hb1⟩
 replace HV:=ah (HV.call hb1)
 clear hb1 QG
 have x:=fk (HV.facts)
 have QC:=ah (Ci #[.pointer (some (aE w)),.pointer (some (aG w))] (fun x=>x.to==to&&nX x.scope ls) GA l gc jS w1 (HS.later HV.below) (fun y hy W hW=>by
  obtain⟨_,_,_,a4,a5⟩:=HG.all y hy;have hx:=fk ((HV.call hW).facts);have hbw:=(HV.call hW).below;exact N_ y a4 a5 to _ _ A ls lc hset W (HT.later hbw) hx.2.2.2.2.2.1 hx.2.2.1 (HL.later hbw)))
 clear HS HG HT HL
 go_wp2_with fail
 refine QC.mono ?_
 rintro e w2⟨rfl,hb2⟩
 have HB:=ah (HV.call hb2).below
 clear hb2 QC x HV
 go_wp2
 go_ret
 exact⟨rfl,HB⟩
theorem NG{p:Nat→Bool}{ks:List Nat}(h:k<ks.length):(ks.take (k+1)).filter p=(ks.take k).filter p++if p ks[k]=true then[ks[k]]else[]:=by
 rw[aj h,gQ];congr 1;rw[eC];simp
theorem Oa(n:Int)(GA:Option jG)(l:List Gr)(gc:Nat)(to:Int)(A:Option jG)(ms:List jZ)(cap:Nat)(sc:ByteArray)(hG:GG n l)(hs:sc.size≤100000)(w:jC)(hT:Tb w)(hL:Gb w w GA l)(hS:oI w A ms):
 jE Tryz.prog 153 #[.agg #[jK n,jN GA l gc],jK to,jN A ms cap,jL sc] w (pA w (Ay l to (ms.map (·.s)) sc)):=by
 have h20:=hS.len
 obtain⟨i0,hi0,hz0,hz1,hz2⟩:=bi5 Tryz.Ew
 have HS:=ah hS
 have QG:Hid (∀w',Below w w w'→jE Tryz.prog 115 #[.agg #[jK n,jN GA l gc]] w' fun e w''=>e=.returned (.bool true)∧Below w' w' w''):=fun w' h=>sx n GA l gc hG w' (hT.later h) (hL.later h)
 have QM:Hid (∀w',Below w w w'→jE Tryz.prog 148 #[jN A ms cap,jL sc] w' (pA w' (nj sc (ms.map (·.s))))):=fun w' h=>L7 A ms cap sc hs w' (hT.later h) (hS.later h)
 have QY:Hid (∀(a:Nat)(ha:a<ms.length) w',Below w w w'→jE Tryz.prog 196 #[.agg #[jK n,jN GA l gc],jK to,.slice ms[a].la ms[a].s.l.length ms[a].lc] w' fun e w''=>e=.returned (.bool (ND l to ms[a].s.l))∧Below w' w' w''):=fun a ha w' h=>Rz n GA l gc to _ _ _ hG (hS.gs ha).set w' (hT.later h) (hL.later h) ((hS.ok ha).later h).l
 have HML:Hid (∀ks,nj sc (ms.map (·.s))=some ks→ks.length≤20∧∀k∈ks,k<ms.length):=fun ks h=>by
  unfold nj at h;split at h
  ·cases h
   exact⟨a_ (qU sc _ _) qlm,fun k hk=>by have:=qw hk;rwa[ax]at this⟩
  cases h
 have Vy:Hid (Ay l to (ms.map (·.s)) sc=(nj sc (ms.map (·.s))).map fun ks=>ks.filter (rJ l to (ms.map (·.s)))):=rfl
 generalize Ay l to (ms.map (·.s)) sc=rr at*
 clear hT hL hS hG
 go_in
 go_wp2_with fail
 refine kf (fun _=>True) ((Hold.nil w).alloc w 111 [jK n,jN GA l gc]) trivial (fun V HV _=>?_)
 refine(QG V HV.below).mono ?_
 rintro e w0⟨rfl,hb0⟩
 replace HV:=ah (HV.call hb0)
 clear hb0 QG
 have x:=fk (HV.facts)
 go_wp2_with fail
 refine(QM _ HV.below).mono ?_
 rintro e w1⟨hb1,h⟩
 replace HV:=ah (HV.call hb1)
 clear hb1 QM x
 cases hm:nj sc (ms.map (·.s))with
 |none=>
  rw[hm]at h;subst h;have HF:Hid (rr=none):=by show _=_;rw[Vy,hm];rfl
  clear Vy HML;go_wp2;go_ret2;exact pA.no HF HV.below
 |some ks=>
  rw[hm]at h;obtain⟨A1,c1,rfl,hrd,hlo⟩:=h;have wZ:=ah hrd;have HF:Hid (rr=some (ks.filter (rJ l to (ms.map (·.s))))):=by show _=_;rw[Vy,hm];rfl
  obtain⟨aS7,hkl⟩:=HML ks hm;have Fl:=ah hkl;have x:=fk (HV.facts);clear Vy HML hrd hlo hm hkl;go_wp2_with fail;go_loopw[12,29] (fun v i wr=>∃k:Nat,i=(aJ k)∧k≤ks.length∧Hid (wr.ownsRow w1 3 1 v ((ks.take k).filter (rJ l to (ms.map (·.s)))).length (lC ((ks.take k).filter (rJ l to (ms.map (·.s))))))∧(bB w1 wr)) (fun _ i _=>ks.length-(av i).toNat)
  case atStart=>exact⟨0,rfl,be _,dY _ _ _ _,jQ _⟩
  obtain⟨k,rfl,hk,HO,HB⟩:=hrel;by_cases h1:k<ks.length
  ·have d1:decide ((k:Int)<ks.length)=true:=ae;obtain⟨b1,off1,rfl,hb1,hc1⟩:=za wZ jS;have Y_:=(HB.cell (p:=⟨b1,off1+k,none⟩) hb1).trans (hc1 k h1);have ab7:b1<wr.heap.size:=qes;have ha:=Fl _ (ar h1);have xO:(0:Int)≤k:=jS;have xN:(k:Int)<ks.length:=jS;have HU:=ah (NG (p:=rJ l to (ms.map (·.s))) h1);have hln:((ks.take k).filter (rJ l to (ms.map (·.s)))).length≤20:=a_ (fe _ _) qlt;have hat:rJ l to (ms.map (·.s)) ks[k]=ND l to ms[ks[k]].s.l:=by unfold rJ;rw[eD,an ha];rfl
   rw[hat]at HU;have HWW:(bB w wr):=HV.below.trans (HB.mono HV.below.size);obtain⟨b,off,rfl,hb,hc⟩:=HS.tab.at_ jS;have j0:=((hc _ ha).below HWW hb).c0;have hbw:b<wr.heap.size:=by have:=HWW.size;omega
   have ha1:(0:Int)≤(ks[k]:Int):=jS;have ha2:(ks[k]:Int)<(ms.length:Int):=jS;have g0:=(HB.cell (p:=⟨w,0,none⟩) x.1).trans x.2.2.1;have g1:=(HB.cell (p:=⟨w,1,none⟩) x.1).trans x.2.2.2;have hgw:w.heap.size<wr.heap.size:=by have:=HB.size;have:=x.1;omega
   haveI hAW:=After.some wr;have F0:=After.cell g0 hgw;have F1:=After.cell g1 hgw;have F2:=After.cell j0 hbw;have QL:Hid (∀y:After wr,jE Tryz.prog 196 #[.agg #[jK n,jN GA l gc],jK to,.slice ms[ks[k]].la ms[ks[k]].s.l.length ms[ks[k]].lc] y.at_ fun e w'=>e=.returned (.bool (ND l to ms[ks[k]].s.l))∧Below y.at_.heap.size y.at_ w'):=fun y=>QY _ ha y.at_ (HWW.trans (y.is.mono HWW.size));clear hc hc1 hat g0 g1 j0;generalize hae:ks[k]=a at*
   clear hae;generalize ms[a]=m at*
   generalize w.heap.size=bg at*
   generalize(ks.take k).filter (rJ l to (ms.map (·.s)))=fl at*
   obtain⟨A2,c2,rfl,hnc,-,-⟩:=li HO;go_wp2_with fail;refine rgb ?_;repeat(go_big_quiet_step (first|with_reducible exact na (QL.out _)))
   refine bl0 ?_;rintro w9⟨y9,Dd⟩;have hB9:Below wr wr w9:=by rw[Dd];exact y9.is
   have BI:(bB w1 w9):=HB.trans (hB9.mono HB.size);have SM:=ah (lf HO hB9);clear Dd y9 hB9 HO HB HWW F0 F1 F2 hAW QL Y_
   cases hv:ND l to m.s.l with
   |false=>
    rw[hv,if_neg lV,eB]at HU;go_wp2;go_roundw
    case rel=>exact⟨k+1,CJ,jS,by rw[HU];exact SM,BI⟩
    exact No
   |true=>
    rw[hv,if_pos rfl]at HU;have hw3:=BI.size;go_wp2_with(at_builtin;refine bk3 _ rfl _ _ 52 rfl w1 3 i0 (.int .i64 0) 1 8 Tryz.underlying52 hi0 hz0 hz1 hz2 rfl B8 (.slice A2 fl.length c2) fl.length _ rfl (SM.alloc _) ⟨w9,0,none⟩ 1 1 [_] rfl rfl (m7 _ _ _ _ rfl) ZO O0 jS mO ?_;intro v' W hown hgrow _);have HB4:=ah (Sc.ol BI SM hw3 hgrow);have IS:Hid (W.ownsRow w1 3 1 v' ((ks.take (k+1)).filter (rJ l to (ms.map (·.s)))).length (lC ((ks.take (k+1)).filter (rJ l to (ms.map (·.s)))))):=by
     show gX _ _ _ _ _ _ _;rw[HU,cd];simpa[lC]using hown
    clear hown hgrow SM BI;go_wp2;go_roundw
    case rel=>exact⟨k+1,CJ,jS,IS,HB4⟩
    exact No
  have hkk:k=ks.length:=jS;subst hkk;have d1:decide ((ks.length:Int)<ks.length)=false:=lV;obtain⟨A2,c2,rfl,-,hrd,hlo⟩:=li HO;have hsz:=HV.below.size;have HR:Hid (Rd wr wr A2 (lC (ks.filter (rJ l to (ms.map (·.s)))))∧(aX A2 w)):=⟨by rwa[dP]at hrd,fun ad e=>by have:=hlo ad e;omega⟩;have Ct:(bB w wr):=HV.below.trans (HB.mono HV.below.size);rw[dP];clear hrd hlo HO;go_wp2;go_ret2;exact pA.yes HF Ct HR.1 HR.2
theorem N8(n:Int)(GA:Option jG)(l:List Gr)(gc:Nat)(to:Int)(hG:GG n l)(A:Option jG)(ms:List jZ)(cap:Nat)(sc:ByteArray)(kind:Int)(hs:sc.size≤100000)(w:jC)(hT:Tb w)(hE:Er w)(hGb:Gb w w GA l)(hS:oI w A ms):
 jE Tryz.prog 108 #[.agg #[jK n,jN GA l gc],jK to,jN A ms cap,jL sc,jJ kind] w (mU w (qT l to (ms.map (·.s)) sc kind)):=by
 have hk:∀ks,Ay l to (ms.map (·.s)) sc=some ks→ks.length≤20∧∀k∈ks,k<ms.length:=fun ks h=>by
  have:=hS.len;unfold Ay nj at h;split at h
  ·cases h;exact⟨a_ (fe _ _) (a_ (qU sc _ _) qlm),fun k hk=>by have:=qw (eN.1 hk).1;rwa[ax]at this⟩
  cases h
 exact(FG A ms cap sc kind _ hk w hE hS).2 n GA l gc to fun w' h=>Oa n GA l gc to A ms cap sc hG hs w' (hT.later h) (hGb.later h) (hS.later h)
variable{xs:List jD}
theorem Ah{n:Nat}{v:jD}(h:w.ownsRow B 238 3 v n xs)(hn:0<n):∃g cap arr,v=.slice (aC g) n cap∧B≤g∧g<w.heap.size∧jR w g 238 arr∧n≤cap∧cap≤9223372036854775807:=by
 rcases h with⟨_,⟨_,h2⟩|⟨g,cap,cur,hv,hb,hh,hnc,hcm,_⟩⟩
 ·omega
 exact⟨g,cap,cur,hv,hb,(aw.1 hh).1,hh,hnc,by unfold maxLen at hcm;omega⟩
variable{g:Nat}
theorem B9{n cap sz:Nat}{t:jH}:∀(vs:List jD)(o:Nat)(w:jC)(xs:List jD),w.ownsRow B t sz (.slice (aC g) n cap) n xs→∃xs',(w.setCells g o vs).ownsRow B t sz (.slice (aC g) n cap) n xs'∧xs'.take o=xs.take o∧w.grownBy (w.setCells g o vs) (some g):=sd
theorem LU{B n g cap sz:Nat}{t:jH}:∀(vs:List jD)(o:Nat)(w:jC)(xs:List jD),o+vs.length≤xs.length→w.ownsRow B t sz (.slice (aC g) n cap) n xs→(w.setCells g o vs).ownsRow B t sz (.slice (aC g) n cap) n (xs.take o++vs++xs.drop (o+vs.length))∧w.grownBy (w.setCells g o vs) (some g)
 |[],o,w,xs,_,h=>⟨by rw[show w.setCells g o []=w from rfl];simpa using h,World.grownBy.refl w _⟩
 |v::r,o,w,xs,hl,h=>by
  simp only[c_]at hl;obtain⟨h1,h2⟩:=h.stored o v;obtain⟨k1,k2⟩:=LU r (o+1) _ _ (by rw[eq];omega) h1;refine⟨?_,jW h2 k2⟩;have e1:(xs.set o v).take (o+1)=xs.take o++[v]:=by
   rw[aj (by rw[eq];omega),fP,gm aa]
  have e2:(xs.set o v).drop (o+1+r.length)=xs.drop (o+(r.length+1)):=by
   rw[List.drop_set_of_lt jS];congr 1;omega
  rw[e1,e2]at k1;simp only[c_];rw[eH (xs.take o)]at k1;exact k1
theorem Tryz.DT(w:jC):(Go.sizeOf (Tryz.prog.elem 109)).run Tryz.prog w=.ok 3 w:=by
 have he:Tryz.prog.elem 109=238:=by simp[gR,Tryz.underlying109]
 obtain⟨i0,hi0,hz0,hz1,hz2⟩:=bi5 Tryz.Ey;rw[he];simp[Go.sizeOf,typeInfo,hi0,hz1]
theorem ad5(A:Option jG)(n cap k:Nat)(hk:k≤cap)(w:jC):
 (gI 109 (.slice A n cap) none (some (aJ k)) none).run Tryz.prog w=.ok (.slice A k cap) w:=by
 have ht:Tryz.prog.underlying 109=some (.slice (Tryz.prog.elem 109)):=by
  have he:Tryz.prog.elem 109=238:=by simp[gR,Tryz.underlying109]
  rw[he];exact Tryz.underlying109
 rw[run_slice_h (P:=Tryz.prog) w 109 A n cap ht .i64 (k:Int) jS jS,Tryz.DT]
 have e:Option.map (fun x:jG=>x.add 0) A=A:=by cases A<;>simp[Addr.add_zero']
 simp[dw,sliced,e]
def sP(A:Option jG)(k cap:Nat):Option jG:=if cap=k then A else A.map (·.add (k*3))
theorem Uy(A:Option jG)(n cap k:Nat)(hk:k≤n)(w:jC):
 (gI 109 (.slice A n cap) (some (aJ k)) none none).run Tryz.prog w=.ok (.slice (sP A k cap) (n-k) (cap-k)) w:=by
 have ht:Tryz.prog.underlying 109=some (.slice (Tryz.prog.elem 109)):=by
  have he:Tryz.prog.elem 109=238:=by simp[gR,Tryz.underlying109]
  rw[he];exact Tryz.underlying109
 rw[run_slice_l (P:=Tryz.prog) w 109 A n cap ht .i64 (k:Int) jS jS,Tryz.DT]
 simp[dw,sliced,sP]
def rV:Array jD:=#[jK 0,jK 0,aF]
theorem I5{n:Nat}:∀v∈(d8 rV n).toList,v.oneCell'=true:=fun v hv=>by
 have h12:∀k,k<3→(rV[k]!).oneCell'=true:=B8;unfold d8 at hv;rw[Array.toList_map]at hv;obtain⟨i,_,rfl⟩:=dq.1 hv;exact h12 _ (jj _ B8)
theorem I6(n:Nat):(d8 rV n).toList.length=n*3:=by
 unfold d8;simp;rfl
theorem DZ{n cap:Nat}(h:w.ownsRow B 238 3 (.slice (aC g) n cap) n xs)(hk:k≤n)(ty:jH):
 ∃W,(gE #[109] ty #[.slice (sP (aC g) k cap) (n-k) (cap-k)]).run Tryz.prog w=.ok (.tuple #[]) W∧W.ownsRow B 238 3 (.slice (aC g) k cap) k (xs.take (k*3))∧(bY w W g):=by
 by_cases e:k=n
 ·subst e;refine⟨w,?_,r_ h aa,World.grownBy.refl w _⟩;rw[Nat.sub_self];simp only[gE,eT,bi8 Tryz.underlying109,dw]
  cases sP (aC g) k cap<;>simp[bi8 Tryz.underlying109]
 have hn:0<n:=jS
 obtain⟨g',cap',arr,e1,hB,hg,hblk,hnc,_⟩:=Ah h hn
 cases e1
 have ef:sP (aC g) k cap=some ⟨g,k*3,none⟩:=by
  unfold sP;rw[if_neg jS];show some (iU _ _)=_;unfold iU;split
  ·rename_i h0;rw[h0]
  simp
 rw[ef]
 have hlen:=I6 (n-k)
 have hst:=run_storeCells_cells (P:=Tryz.prog) g (k*3) (d8 rV (n-k)).toList 0 w
  (fun j hj=>by
   rw[hlen]at hj;have hlt:k*3+0+j<n*3:=jS;rw[h.cellAt _ hlt,an (by rw[h.1];exact hlt)];rfl)
  (fun j hj=>hblk.frozen _) (I5)
 obtain⟨xs',k1,k2,k3⟩:=B9 (d8 rV (n-k)).toList (k*3) w xs h
 refine⟨w.setCells g (k*3) (d8 rV (n-k)).toList,?_,?_,k3⟩
 ·obtain⟨m,hm⟩:∃m,n-k=m+1:=⟨n-k-1,jS⟩;rw[hm]at hst⊢;have hz:∀w,(zeroValue 238).run Tryz.prog w=.ok (.agg rV) w:=fun w=>oo;have hcs:(Value.agg rV).cells=rV:=rfl;simp only[ip]at hst;simp[gE,bi8 Tryz.underlying109,hz,hcs,hst]
 rw[←k2];exact r_ k1 hk
theorem K_(A:Option jG)(l:List Gr)(cap:Nat)(hl:l.length≤1000)(w:jC)(hS:Gb w w A l):
 jE Tryz.prog 119 #[jN A l cap] w fun e w'=>(∃v,e=.returned v∧w'.ownsRow w 238 3 v l.length (l.flatMap uZ))∧Below w w w':=by
 obtain⟨i0,hi0,hz0,hz1,hz2⟩:=bi5 Tryz.Ey
 have q22:∀(w:jC)(a:Option jG)(n c n' c':Nat),(binOp .eql 109 (.slice a n c) (.slice none n' c')).run Tryz.prog w=.ok (.bool a.isNone) w:=fun w a n c n' c'=>fR w _ _ a n c n' c' Tryz.underlying109
 have HS:=ah hS
 have HN:Hid (A=none→l=[]):=fun e=>by
  subst e
  cases l with
  |nil=>rfl
  |cons x r=>
   obtain⟨_,_,h,_⟩:=hS (by simp[uZ])
   cases h
 clear hS
 cases A with
 |none=>
  obtain rfl:=HN rfl;go_in;go_wp2_with fail;have HO:Hid (w.ownsRow w 238 3 aO 0 []):=dY _ _ _ _;go_ret;exact⟨⟨_,rfl,HO⟩,jQ _⟩
 |some ad=>
  go_in;go_wp2_with(at_builtin;refine kr _ rfl _ _ 109 rfl w 238 i0 _ 3 32 Tryz.underlying109 hi0 hz0 hz1 hz2 rfl B8 _ 0 _ rfl (gO w #[] 0 aa (be _) lV) _ _ l.length cap (l.flatMap uZ) rfl (by rw[qA sA];omega) (Rd.below HS (jP (jQ w) _)) (AS _) O0 jS lV ?_;intro v' w1 hown hgrow hnil);have HB:(bB w w1):=((Below.refl _ w).alloc aa _).grown hgrow lV (by intro k hk;cases hk;exact ay _);rw[au]at hown;simp only[fO,gP,iT,dz,fh]at hown;have HO:=ah hown;clear hown hgrow hnil;go_wp2;go_ret;exact⟨⟨_,rfl,HO⟩,HB⟩
theorem He(g cap:Nat)(l:List Gr)(n i:Nat)(hn0:n=l.length)(hi:i<n)(hl:n≤1000)(B:Nat)(w:jC)(hO:w.ownsRow B 238 3 (.slice (aC g) n cap) n (l.flatMap uZ)):
 jE Tryz.prog 118 #[.slice (aC g) n cap,jJ (i:Int),jJ ((i:Int)+1)] w fun e w'=>e=.returned (.slice (aC g) (n-1) cap)∧w'.ownsRow B 238 3 (.slice (aC g) (n-1) cap) (n-1) ((l.eraseIdx i).flatMap uZ)∧(bY w w' g):=by
 have hn:=hn0
 obtain⟨i0,hi0,hz0,hz1,hz2⟩:=bi5 Tryz.Ey
 obtain⟨g',cap',arr,e1,hgb,hgw,hblk,hnc,hcm⟩:=Ah hO jS
 cases e1
 have hxl:(l.flatMap uZ).length=3*n:=by rw[qA sA,hn]
 have ht:Tryz.prog.underlying 109=some (.slice (Tryz.prog.elem 109)):=by
  have he:Tryz.prog.elem 109=238:=by simp[gR,Tryz.underlying109]
  rw[he];exact Tryz.underlying109
 obtain⟨v0,hall⟩:∃v,∀w,(gI 109 (.slice (aC g) n cap) (some (aJ i)) (some (.int .i64 ((i:Int)+1))) (some (aJ n))).run Tryz.prog w=.ok v w:=⟨_,fun w=>by rw[run_slice_lhm (P:=Tryz.prog) w 109 _ n cap ht .i64 .i64 .i64 (i:Int) ((i:Int)+1) (n:Int) jS jS jS jS,Tryz.DT];rfl⟩
 have hto:=fun w=>ad5 (aC g) n cap i jS w
 have hfr0:=fun w=>Uy (aC g) n cap (i+1) jS w
 rw[show((i+1:Nat):Int)=(i:Int)+1 by omega]at hfr0
 obtain⟨ad,had⟩:∃ad,sP (aC g) (i+1) cap=some ad:=by unfold sP;split<;>exact⟨_,rfl⟩
 have hfr:=hfr0
 rw[had]at hfr
 have hlast:=fun w=>(show(gI 109 (.slice (aC g) (n-1) cap) (some (.int .i64 ((n-1:Nat):Int))) (some (aJ n)) none).run Tryz.prog w=.ok (.slice (sP (aC g) (n-1) cap) (n-(n-1)) (cap-(n-1))) w by
  rw[run_slice_lh (P:=Tryz.prog) w 109 _ (n-1) cap ht .i64 .i64 ((n-1:Nat):Int) (n:Int) jS jS jS,Tryz.DT];simp[dw,sliced,sP])
 have d1:((i:Int)==(i:Int)+1)=false:=beq_false_of_ne jS
 have d2:decide ((i:Int)=(i:Int)+1)=false:=ag
 obtain⟨news,hnews⟩:∃news,news=(l.drop (i+1)).flatMap uZ:=⟨_,rfl⟩
 have hnl:news.length=(n-(i+1))*3:=by rw[hnews,qA sA,dr,←hn];omega
 have HNL:=ah hnl
 have aj1:Hid (∀u∈news,u.oneCell'=true):=by show∀u∈news,_;rw[hnews];exact AS _
 have HD:Hid (w.drew.ownsRow B 238 3 (.slice (aC g) n cap) n (l.flatMap uZ)):=hO
 have hdrop:(l.flatMap uZ).drop ((i+1)*3)=news:=by
  rw[hnews];have:∀(l:List Gr)(k:Nat),(l.flatMap uZ).drop (k*3)=(l.drop k).flatMap uZ:=fun l=>by
   induction l with
   |nil=>intro k;simp
   |cons x l ih=>
    intro k
    cases k with
    |zero=>simp
    |succ k=>
     rw[jc,←ih k,dg,show(k+1)*3=(uZ x).length+k*3 by rw[sA];omega,←gp,List.drop_left]
  exact this l (i+1)
 have Lr:Hid (∀j u,news[j]? =some u→w.drew.cell? (ad.add j)=some u):=fun j u hj=>by
  have hjl:j<news.length:=(ci.1 hj).1;have hne:¬cap=i+1:=fun e=>by rw[hnl]at hjl;omega
  have ha:ad=⟨g,(i+1)*3,none⟩:=by
   unfold sP at had;rw[if_neg hne]at had;simp[iU]at had;exact had.symm
  rw[ha,addr_add,HD.cellAt _ (by rw[hnl]at hjl;omega),←hj,←hdrop,fL]
 have HSP:Hid (∀j,j<news.length→(w.drew.cell? ⟨g,0+i*3+j,none⟩).isSome=true∧w.drew.frozen? ⟨g,0+i*3+j,none⟩=false):=fun j hj=>by
  rw[au];refine⟨?_,hblk.frozen _⟩;rw[HD.cellAt _ (by rw[hnl]at hj;omega),an (by rw[hxl,];rw[hnl]at hj;omega)];rfl
 obtain⟨hP1,hP2⟩:=LU news (i*3) w.drew _ (by rw[hxl,hnl];omega) HD
 obtain⟨W2,hcl,Mk,hC2⟩:=DZ hP1 (k:=n-1) jS 0
 have Lv:Hid (∀ty,(gE #[109] ty #[.slice (sP (aC g) (n-1) cap) (n-(n-1)) (cap-(n-1))]).run Tryz.prog (w.drew.setCells g (i*3) news)=.ok (.tuple #[]) W2):=fun ty=>hcl
 have HG2:Hid (bY w W2 g):=jW (⟨hP2.os,hP2.tape,hP2.output,hP2.size,hP2.block⟩:w.grownBy _ _) hC2
 have xd:Hid (W2.ownsRow B 238 3 (.slice (aC g) (n-1) cap) (n-1) ((l.eraseIdx i).flatMap uZ)):=by
  show gX _ _ _ _ _ _ _;have e:((l.flatMap uZ).take (i*3)++news++(l.flatMap uZ).drop (i*3+news.length)).take ((n-1)*3)=(l.eraseIdx i).flatMap uZ:=by
   have ht2:∀(l:List Gr)(k:Nat),(l.flatMap uZ).take (k*3)=(l.take k).flatMap uZ:=fun l=>by
    induction l with
    |nil=>intro k;simp
    |cons x l ih=>
     intro k
     cases k with
     |zero=>simp
     |succ k=>
      rw[iz,dg,dg,←ih k,show(k+1)*3=(uZ x).length+k*3 by rw[sA];omega,List.take_length_add_append]
   rw[List.take_append_of_le_length (by rw[cd,cv,hxl,hnl];omega),cl (by rw[cd,cv,hxl,hnl];omega),ht2,hnews,List.eraseIdx_eq_take_drop_succ,eZ]
  rw[←e];exact Mk
 clear hO hblk hcl Mk hC2 hP1 hP2 hnews hnl HD hdrop hfr0 had hxl hz0 hz2 hn hn0 ht
 go_in
 go_wp2
 refine kG (S:=(fun _=>True)) (s:=6) oo ?_
 refine nc (i:=0) (v:=(.slice (aC g) n cap)) rfl oo oo oo B8 (fun _ _ _ h=>h) (ge ⟨by rfl,?_⟩) (fun _=>trivial) ?_
 ·(intro w hSw;have q1:=hto w;have q2:=hfr w;go_simp)
 refine az ?_
 refine nc (i:=1) (v:=(aJ i)) rfl oo oo oo B8 (fun _ _ _ h=>h) (ge ⟨by rfl,?_⟩) (fun _=>trivial) ?_
 ·(intro w hSw;have q1:=hto w;have q2:=hfr w;go_simp)
 refine az ?_
 refine nc (i:=2) (v:=(.slice (aC g) i cap)) rfl oo oo oo B8 (fun _ _ _ h=>h) (ge ⟨by rfl,?_⟩) (fun _=>trivial) ?_
 ·(intro w hSw;have q1:=hto w;have q2:=hfr w;go_simp)
 refine az ?_
 refine nc (i:=3) (v:=(.slice (aC g) n cap)) rfl oo oo oo B8 (fun _ _ _ h=>h) (ge ⟨by rfl,?_⟩) (fun _=>trivial) ?_
 ·(intro w hSw;have q1:=hto w;have q2:=hfr w;go_simp)
 refine az ?_
 refine nc (i:=4) (v:=(.int .i64 ((i:Int)+1))) rfl oo oo oo B8 (fun _ _ _ h=>h) (ge ⟨by rfl,?_⟩) (fun _=>trivial) ?_
 ·(intro w hSw;have q1:=hto w;have q2:=hfr w;go_simp)
 refine az ?_
 refine nc (i:=5) (v:=(.slice (some ad) (n-(i+1)) (cap-(i+1)))) rfl oo oo oo B8 (fun _ _ _ h=>h) (ge ⟨by rfl,?_⟩) (fun _=>trivial) ?_
 ·(intro w hSw;have q1:=hto w;have q2:=hfr w;go_simp)
 refine az ?_
 refine oY 6 fun K hK=>?_
 refine step_append_room rfl (.tmp 22) (.tmp 25) 109 rfl 238 i0 3 Tryz.underlying109 hi0 hz1 g 0 i cap (by simp[Act.eval,gL]) ad (n-(i+1)) (cap-(i+1)) news (by simp[Act.eval,gL]) HNL Lr aj1 jS HSP ?_
 rw[au]
 refine hK.out _ _ (fun h=>by cases h) ?_
 clear hK K
 refine az ?_
 refine MZ ?_
 refine yi ?_
 rw[show i+(n-(i+1))=n-1 by omega]
 have hcl:=Lv.out
 clear Lv HNL Lr aj1 HSP hall hto hfr d1 d2
 generalize w.drew.setCells g (i*3) news=W1 at*
 generalize hk:n-1=k at*
 generalize n-k=q at*
 go_wp2_with fail
 subst hk
 go_ret
 exact⟨rfl,xd,HG2⟩
def ue(w:jC)(n:Int)(r:Except Int (List Gr))(e:bi6)(w':jC):Prop:=Below w w w'∧match r with
 |.error x=>e=.returned (.tuple #[.agg #[jK 0,jM],jJ x])
 |.ok l=>∃A c,e=.returned (.tuple #[.agg #[jK n,jN A l c],jJ 0])∧l.length≤c∧Gb w' w' A l∧(aX A w)
variable{r:Except Int (List Gr)}
theorem ue.no{x:Int}(h:r=.error x)(hb:Below w w w'):ue w n r (.returned (.tuple #[.agg #[jK 0,jM],jJ x])) w':=⟨hb,by rw[h]⟩
theorem ue.yes(h:r=.ok l)(hk:k=l.length)(hb:Below w w w')(ho:w'.ownsRow w 238 3 (.slice A k c) k (l.flatMap uZ)):
 ue w n r (.returned (.tuple #[.agg #[jK n,.slice A k c],jJ 0])) w':=by
 subst hk
 refine⟨hb,?_⟩
 rw[h]
 obtain⟨A',c',e,hc,hr,hl⟩:=li ho
 cases e
 exact⟨A,c,rfl,hc,hr,hl⟩
theorem N9(x:Gr)(id:Int)(bt:Nat)(w:jC)(ht:(bI w bt id)):
 jE Tryz.prog 117 #[.agg #[jK x.id,jK x.to,jL x.scope],jO bt] w fun e w'=>e=.returned (.bool (x.id==id))∧Below w w w':=by
 have hbt:=b8 _ _ ht
 simp only at hbt
 go_in
 go_wp2
 go_ret
 exact⟨rfl,jP (jQ w) _⟩
theorem Ga{id:Int}(h:rM (fun x=>x.id==id) l=k):lr l id=.ok (l.eraseIdx k)∧k<l.length:=by
 unfold rM at h;unfold lr
 cases e:l.findIdx? (fun x=>x.id==id)with
 |none=>rw[e]at h;simp only at h;omega
 |some j=>
  rw[e]at h;simp only at h;obtain rfl:j=k:=jS;exact⟨rfl,(eP.1 e).1⟩
theorem Gc{id:Int}(h:rM (fun x=>x.id==id) l= -1):lr l id=.error 121:=by
 unfold rM at h;unfold lr
 cases e:l.findIdx? (fun x=>x.id==id)with
 |none=>rfl
 |some j=>rw[e]at h;simp only at h;omega
theorem Xo(p:Gr→Bool)(l:List Gr):rM p l= -1∨∃k:Nat,rM p l=k:=by
 unfold rM;split
 ·exact .inl rfl
 exact .inr ⟨_,rfl⟩
theorem Hb(n:Int)(GA:Option jG)(l:List Gr)(gc:Nat)(id:Int)(hG:GG n l)(w:jC)(hT:Tb w)(hS:Gb w w GA l):
 jE Tryz.prog 83 #[.agg #[jK n,jN GA l gc],jK id] w (ue w n (lr l id)):=by
 have hlen:=hG.len
 have HS:=ah hS
 have QG:Hid (∀w',Below w w w'→jE Tryz.prog 115 #[.agg #[jK n,jN GA l gc]] w' fun e w''=>e=.returned (.bool true)∧Below w' w' w''):=fun w' h=>sx n GA l gc hG w' (hT.later h) (hS.later h)
 have SI:Hid (∀k:Nat,rM (fun x=>x.id==id) l=k→lr l id=.ok (l.eraseIdx k)∧k<l.length):=fun k h=>Ga h
 have SN:Hid (rM (fun x=>x.id==id) l= -1→lr l id=.error 121):=Gc
 have HOR:=ah (Xo (fun x=>x.id==id) l)
 generalize lr l id=r at*
 clear hT hS hG
 go_in
 go_wp2_with fail
 refine kf (fun _=>True) ((((Hold.nil w).alloc w 111 [jK n,jN GA l gc]).alloc (w.heap.size+1) 22 [jK id]).alloc (aN w) 111 [jK 0,jM]) trivial (fun V HV _=>?_)
 refine(QG V HV.below).mono ?_
 rintro e w1⟨rfl,hb1⟩
 replace HV:=ah (HV.call hb1)
 clear hb1 QG
 have x:=fk (HV.facts)
 have QI:=ah (AT 117 (.inr rfl) #[.pointer (some (aE w))] (fun x=>x.id==id) GA l gc jS w1 (HS.later HV.below) (fun y _ W hW=>by
  have hx:=fk ((HV.call hW).facts);exact N9 y id _ W hx.2.2.2.2.2.1))
 generalize rM (fun x=>x.id==id) l=ix at*
 go_wp2_with fail
 refine QI.mono ?_
 rintro e w2⟨rfl,hb2⟩
 replace HV:=ai (HV.out.call hb2)
 clear hb2 QI x
 have x:=fk (HV.out.facts)
 rcases HOR.out with h|⟨k,h⟩
 ·subst h;have HR:Hid (r=.error 121):=SN.out rfl;have HRR:=aS (HV.out.all 0 [.int .u64 0,.slice none 0 0]);clear SN SI HOR;go_wp2_with fail;refine kw (fun _=>True) HRR trivial (fun V9 H9 _=>?_);have hq:=fk (H9.at_ 0);clear x HRR;refine jF (v:=.tuple #[.agg bN,jJ 121]) (by simp[results,Tryz.results83,go_sem,hq]) rfl ?_;exact ue.no HR H9.below
 subst h
 obtain⟨hr,hk⟩:=SI k rfl
 have HR:=ai hr
 have d1:decide ((k:Int)<0)=false:=decide_eq_false (by omega)
 have hz:w.heap.size+1+1<w2.heap.size:=x.1
 have QC:=ai (K_ GA l gc (by omega) w2 (HS.out.later HV.out.below))
 clear SN SI HOR hr
 go_wp2_with fail
 refine QC.mono ?_
 rintro e w3⟨⟨v,rfl,ho3⟩,hb3⟩
 obtain⟨g,cap,arr,rfl,hgb,_⟩:=Ah ho3 jS
 replace HV:=ah (HV.call hb3)
 have QD:=ah (He g cap l l.length k rfl hk jS w2 w3 ho3)
 clear QC hb3 ho3 x
 have hw:IntKind.i64.wrap ((k:Int)+1)=(k:Int)+1:=dv _ jS
 go_wp2_with fail
 refine QD.mono ?_
 rintro e w4⟨rfl,Mg,hg4⟩
 replace HV:=ah (HV.grown hg4 (fun j e=>by cases e;exact⟨jS,fun b hb=>by simp at hb;rcases hb with rfl|rfl|rfl<;>simp only<;>omega⟩))
 have IS:=ah Mg
 have hle:(l.eraseIdx k).length=l.length-1:=List.length_eraseIdx_of_lt hk
 have I3:=ah hle
 clear QD Mg hg4 hw hle
 have x:=fk (HV.facts)
 have HRR:=aS (HV.all 0 [jK n,.slice (aC g) (l.length-1) cap])
 have HOF:=ah (bj0 (bj0 IS (a:=(aG w)) (by simp[gy];omega) (.int .u64 n)) (a:=(bZ w)) (by simp[gy];omega) (.slice (aC g) (l.length-1) cap))
 go_wp2_with fail
 refine kw (fun V=>V.ownsRow w2 238 3 (.slice (aC g) (l.length-1) cap) (l.length-1) ((l.eraseIdx k).flatMap uZ)) HRR HOF (fun V9 H9 hO9=>?_)
 have hq:=fk (H9.at_ 0)
 clear x HRR
 refine jF (v:=.tuple #[.agg #[jK n,.slice (aC g) (l.length-1) cap],jJ 0]) (by simp[results,Tryz.results83,go_sem,hq]) rfl ?_
 exact ue.yes HR I3.symm H9.below (own_base (B:=w.heap.size) hO9 jS)
def xj(c:lO)(T:kM)(A:Option jG)(n cap:Nat)(GA:Option jG)(gc:Nat)(LA:Option jG)(lc:Nat):List jD:=
 [.slice A n cap,jK T.gn,jN GA T.gl gc,jK T.lb,jN LA T.ll lc,jK T.tm,jK c.id,jJ c.budget,jK c.life,jK c.ka,jK c.kb]
structure qP(w:jC)(p:Nat→Prop)(T:kM)(A:Option jG)(cap:Nat)(ms:List jZ)(GA:Option jG)(gc:Nat)(LA:Option jG)(lc:Nat):Prop where
 map:ms.map (·.s)=T.tb
 tab:Tab w w A ms
 OZ:DB p A ms
 cap:ms.length≤cap
 gb:Gb w w GA T.gl
 XK:T.gl≠[]→∀ad,GA=some ad→p ad.block
 eb:Eb w w LA T.ll
 UG:T.ll≠[]→∀ad,LA=some ad→p ad.block
 GJ:T.ll.length≤lc
structure wS(w:jC)(p:Nat→Prop)(g:Nat)(c:lO)(T:kM)(A:Option jG)(cap:Nat)(ms:List jZ)(GA:Option jG)(gc:Nat)(LA:Option jG)(lc:Nat):Prop where
 blk:jR w g 117 (xj c T A ms.length cap GA gc LA lc).toArray
 l:qP w p T A cap ms GA gc LA lc
def kB(w:jC)(p:Nat→Prop)(g:Nat)(c:lO)(T:kM):Prop:=∃A cap ms GA gc LA lc,wS w p g c T A cap ms GA gc LA lc
section
variable{w w':jC}{p q:Nat→Prop}{X:Nat→Prop}{g:Nat}{c:lO}{T:kM}{A GA LA:Option jG}{cap gc lc:Nat}{ms:List jZ}
theorem qP.mono(h:qP w p T A cap ms GA gc LA lc)(hq:∀b,p b→q b):qP w q T A cap ms GA gc LA lc:=⟨h.map,h.tab,h.OZ.mono hq,h.cap,h.gb,fun x a e=>hq _ (h.XK x a e),h.eb,fun x a e=>hq _ (h.UG x a e),h.GJ⟩
theorem flat_nil{α:Type}{f:α→List jD}{l:List α}(h:l.flatMap f≠[]):l≠[]:=fun e=>h (by rw[e];rfl)
theorem qP.out(h:qP w p T A cap ms GA gc LA lc)(ho:Out X w w')(hp:∀b,p b→¬X b):qP w' p T A cap ms GA gc LA lc:=
 ⟨h.map,ho.tab h.tab (h.OZ.mono hp),h.OZ,h.cap,ho.rd h.gb fun x a e=>hp _ (h.XK (flat_nil x) a e),h.XK,ho.rd h.eb fun x a e=>hp _ (h.UG (flat_nil x) a e),h.UG,h.GJ⟩
theorem qP.later(h:qP w p T A cap ms GA gc LA lc)(hb:Below w w w'):qP w' p T A cap ms GA gc LA lc:=⟨h.map,h.tab.later hb,h.OZ,h.cap,h.gb.later hb,h.XK,h.eb.later hb,h.UG,h.GJ⟩
theorem wS.later(h:wS w p g c T A cap ms GA gc LA lc)(hb:Below w w w'):wS w' p g c T A cap ms GA gc LA lc:=⟨h.blk.later hb,h.l.later hb⟩
theorem wS.out(h:wS w p g c T A cap ms GA gc LA lc)(ho:Out X w w')(hp:∀b,p b→¬X b)(hg:¬X g):wS w' p g c T A cap ms GA gc LA lc:=⟨ho.blk h.blk hg,h.l.out ho hp⟩
theorem kB.later(h:kB w p g c T)(hb:Below w w w'):kB w' p g c T:=by
 obtain⟨A,cap,ms,GA,gc,LA,lc,h⟩:=h;exact⟨A,cap,ms,GA,gc,LA,lc,h.later hb⟩
theorem kB.out(h:kB w p g c T)(ho:Out X w w')(hp:∀b,p b→¬X b)(hg:¬X g):kB w' p g c T:=by
 obtain⟨A,cap,ms,GA,gc,LA,lc,h⟩:=h;exact⟨A,cap,ms,GA,gc,LA,lc,h.out ho hp hg⟩
theorem kB.mono(h:kB w p g c T)(hq:∀b,p b→q b):kB w q g c T:=by
 obtain⟨A,cap,ms,GA,gc,LA,lc,h⟩:=h;exact⟨A,cap,ms,GA,gc,LA,lc,h.blk,h.l.mono hq⟩
theorem qP.Ku(h:qP w p T A cap ms GA gc LA lc)(hG:GT T.tb):oI w A ms:=⟨h.tab,by rw[h.map];exact hG⟩
theorem wS.cells(h:wS w p g c T A cap ms GA gc LA lc):w.cell? ⟨g,0,none⟩=some (cU A ms cap)∧w.cell? ⟨g,1,none⟩=some (.int .u64 T.gn)∧w.cell? ⟨g,2,none⟩=some (.slice GA T.gl.length gc)∧w.cell? ⟨g,3,none⟩=some (.int .u64 T.lb)∧w.cell? ⟨g,4,none⟩=some (.slice LA T.ll.length lc)∧w.cell? ⟨g,5,none⟩=some (.int .u64 T.tm)∧w.cell? ⟨g,6,none⟩=some (.int .u64 c.id)∧w.cell? ⟨g,7,none⟩=some (.int .i64 c.budget)∧w.cell? ⟨g,8,none⟩=some (.int .u64 c.life)∧w.cell? ⟨g,9,none⟩=some (.int .u64 c.ka)∧w.cell? ⟨g,10,none⟩=some (.int .u64 c.kb):=
 ⟨h.blk.cell 0,h.blk.cell 1,h.blk.cell 2,h.blk.cell 3,h.blk.cell 4,h.blk.cell 5,h.blk.cell 6,h.blk.cell 7,h.blk.cell 8,h.blk.cell 9,h.blk.cell 10⟩
end
theorem xk(p:Nat→Prop)(g:Nat)(c:lO)(T:kM)(hG:GT T.tb)(w:jC)(hT:Tb w)(h:kB w p g c T):
 jE Tryz.prog 54 #[jO g] w fun e w'=>e=.returned (.int .i64 (kJ T.tb))∧Below w w w':=by
 obtain⟨A,cap,ms,GA,gc,LA,lc,h⟩:=h
 have Q:=ah (DX A ms cap w hT (h.l.Ku hG))
 rw[h.l.map]at Q
 have c0:=h.cells.1
 have hgw:=h.blk.lt
 clear h hT hG
 go_in
 go_wp2_with fail
 refine(qc _ _).mono ?_
 rintro e w1⟨rfl,rfl⟩
 go_wp2_with fail
 refine Q.mono ?_
 rintro e w2⟨rfl,hb⟩
 go_wp2
 go_ret
 exact⟨rfl,hb⟩
theorem Ji(p:Nat→Prop)(g:Nat)(c:lO)(T:kM)(seq:Int)(hl:T.ll.length≤1000)(w:jC)(h:kB w p g c T):
 jE Tryz.prog 63 #[jO g,jK seq] w fun e w'=>(∃A' c,e=.returned (.slice A' (lA T.ll seq).length c)∧w'.ownsRow w 59 4 (.slice A' (lA T.ll seq).length c) (lA T.ll seq).length ((lA T.ll seq).flatMap nE))∧Below w w w':=by
 obtain⟨A,cap,ms,GA,gc,LA,lc,h⟩:=h
 have Q:=ah (OL T.lb LA T.ll lc seq hl w h.l.eb)
 have c3:=h.cells.2.2.2.1
 have c4:=h.cells.2.2.2.2.1
 have hgw:=h.blk.lt
 clear h
 go_in
 go_wp2_with fail
 refine(qc _ _).mono ?_
 rintro e w1⟨rfl,rfl⟩
 go_wp2_with fail
 refine Q.mono ?_
 rintro e w2⟨⟨A',c',rfl,ho⟩,hb⟩
 have HO:=ah ho
 clear ho Q
 go_wp2
 go_ret
 exact⟨⟨A',c',rfl,HO⟩,hb⟩
theorem Fw(p:Nat→Prop)(g:Nat)(c:lO)(T:kM)(sc:ByteArray)(kind:Int)(hG:GT T.tb)(hs:sc.size≤1000)(w:jC)(hT:Tb w)(hE:Er w)(h:kB w p g c T):
 jE Tryz.prog 74 #[jO g,jL sc,jJ kind] w (mU w (kA T.tb sc kind)):=by
 obtain⟨A,cap,ms,GA,gc,LA,lc,h⟩:=h
 have Q:Hid (∀w',Below w w w'→jE Tryz.prog 101 #[jN A ms cap,jL sc,jJ kind] w' (mU w' (kA T.tb sc kind))):=fun w' hb=>by
  have:=FQ A ms cap sc kind jS w' (hT.later hb) (hE.later hb) ((h.l.Ku hG).later hb);rwa[h.l.map]at this
 have c0:=h.cells.1
 have hgw:=h.blk.lt
 generalize kA T.tb sc kind=rr at*
 clear h hT hG hE
 go_in
 go_wp2_with fail
 refine kf (fun V=>V.cell? ⟨g,0,none⟩=some (cU A ms cap)) ((Hold.nil w).alloc w 136 [jJ 0,jJ 0,jM,jJ 0,aF,jJ 0,jJ 0,jM,jJ 0,jM]) (by rw[dt w _ _ hgw];exact c0) (fun V HV hcV=>?_)
 have hz:w.heap.size<V.heap.size:=(HV.blk _ ab).2.lt
 have EG:g<V.heap.size:=jS
 clear c0
 refine(qc _ _).mono ?_
 rintro e w1⟨rfl,rfl⟩
 go_wp2_with fail
 refine(Q w1 HV.below).mono ?_
 rintro e w2⟨hb2,h⟩
 have hs2:=hb2.size
 replace HV:=ah (HV.call hb2)
 clear hb2 Q hcV
 have x:=fk (HV.facts)
 cases hrr:rr with
 |error er=>
  rw[hrr]at h;subst h;have HR:=ah hrr;clear hrr;have HRR:=aS (HV.all 0 [jJ 0,jJ 0,jM,jJ 0,aF,jJ 0,jJ 0,jM,jJ 0,jM]);simp only[xl];go_wp2_with fail;refine kw (fun _=>True) HRR trivial (fun V9 H9 _=>?_);have hq:=fk (H9.at_ 0);clear x HRR;refine jF (v:=.tuple #[cL,jJ er]) (by simp[results,Tryz.results74,go_sem,hq]) rfl ?_;exact mU.no HR H9.below
 |ok s=>
  rw[hrr]at h;obtain⟨m,hm,rfl,hok,hin⟩:=h;have HR:Hid (rr=.ok m.s):=by show _=_;rw[hrr,hm]
  clear hm hrr;have HRR:=aS (HV.all 0 (aA m));have hok2:=aS (jY.lp (g:=w.heap.size) (hin.mono fun b hb=>jS) (aA m) 0 hok);unfold nT;go_wp2_with fail;refine kw (fun V=>jY V V m) HRR hok2 (fun V9 H9 nZ=>?_);have hq:=fk (H9.at_ 0);clear x HRR hok2;refine jF (v:=.tuple #[.agg (aB m),jJ 0]) (by simp[results,Tryz.results74,go_sem,hq]) rfl ?_;exact mU.yes HR H9.below nZ (hin.mono fun b hb=>jS)
variable{X:Nat→Prop}
theorem Tb.rH(h:Tb w)(ho:Out X w w')(hx:∀b,X b→4≤b):Tb w':=
 ⟨fun c hc=>(ho.cell (p:=⟨2,c,none⟩) (b8 w _ (h.1 c hc)) fun e=>by have:=hx _ e;simp at this).trans (h.1 c hc),
  fun i hi=>⟨(ho.cell (p:=⟨3,2*i,none⟩) (b8 w _ (h.2 i hi).1) fun e=>by have:=hx _ e;simp at this).trans (h.2 i hi).1,
   (ho.cell (p:=⟨3,2*i+1,none⟩) (b8 w _ (h.2 i hi).2) fun e=>by have:=hx _ e;simp at this).trans (h.2 i hi).2⟩⟩
theorem Er.rH(h:Er w)(ho:Out X w w')(hx:∀b,X b→4≤b):Er w':=
 (ho.cell (p:=⟨1,0,none⟩) (b8 w _ h) fun e=>by have:=hx _ e;simp at this).trans h
variable{p:Nat→Prop}{T:kM}{GA LA:Option jG}{gc lc:Nat}{ms:List jZ}
theorem oI.rH{c:lO}{cap:Nat}(h:qP w p T A cap ms GA gc LA lc)(hG:GT T.tb)(ho:Out X w w')(hp:∀b,p b→¬X b):oI w' A ms:=(h.out ho hp).Ku hG
def rv(w:jC)(g:Nat)(c:lO):Prop:=∃v0 v1 v2 v3 v4 v5,jR w g 117 #[v0,v1,v2,v3,v4,v5,jK c.id,jJ c.budget,jK c.life,jK c.ka,jK c.kb]
def qb(w:jC)(p:Nat→Prop)(g:Nat)(c:lO)(T:kM)(now:Int)(e:bi6)(w':jC):Prop:=
 Out (·=g) w w'∧(now<T.tm→e=.returned (.int .i64 140)∧rv w' g c)∧(¬now<T.tm→e=.returned (.int .i64 0)∧kB w' (fun b=>p b∨w.heap.size≤b) g c (ko c T now))
variable{now:Int}
theorem qb.no{c:lO}(h:Hid (now<T.tm))(ho:Out (·=g) w w')(hb:rv w' g c):qb w p g c T now (.returned (.int .i64 140)) w':=⟨ho,fun _=>⟨rfl,hb⟩,fun k=>absurd h.out k⟩
theorem qb.yes{c:lO}(h:Hid (¬now<T.tm))(ho:Out (·=g) w w')(hb:kB w' (fun b=>p b∨w.heap.size≤b) g c (ko c T now)):qb w p g c T now (.returned (.int .i64 0)) w':=⟨ho,fun k=>absurd k h.out,fun _=>⟨rfl,hb⟩⟩
variable{cs:List jZ}
theorem lF.OZ(h:lF w B (cU A cs c) cs)(hl:∀m∈cs,mr B m)(hB:∀b,B≤b→p b):DB p A cs:=by
 obtain⟨A',c',e,hc,hr,ha⟩:=li h.own
 cases e
 exact⟨fun _ ad e=>hB _ (ha ad e),fun m hm=>(hl m hm).inn.mono hB⟩
theorem lF.cap(h:lF w B (cU A cs c) cs):cs.length≤c:=by
 obtain⟨A',c',e,hc,hr,ha⟩:=li h.own
 cases e
 exact hc
variable{A2:Option jG}
theorem qP.JY{w2 V9:jC}{q:Nat→Prop}{T2:kM}{cap c2:Nat}(h:qP w p T A cap ms GA gc LA lc)(hp:∀b,p b→¬X b)(ho:Out X w V9)(ho2:Out X w2 V9)
 (hm:cs.map (·.s)=T2.tb) (hg:T2.gl=T.gl) (hll:T2.ll=T.ll) (hot:lF w2 B (cU A2 cs c2) cs) (hlo:∀m∈cs,mr B m) (hX:∀b,X b→b<B) (hpq:∀b,p b→q b) (hq:∀b,B≤b→q b):qP V9 q T2 A2 c2 cs GA gc LA lc:=by
 have h9:=h.out ho hp
 refine⟨hm,ho2.tab hot.tab (hot.OZ hlo fun b hb hx=>by have:=hX b hx;omega),hot.OZ hlo hq,hot.cap,?_,?_,?_,?_,?_⟩
 ·rw[hg];exact h9.gb
 ·rw[hg];exact fun x a e=>hpq _ (h.XK x a e)
 ·rw[hll];exact h9.eb
 ·rw[hll];exact fun x a e=>hpq _ (h.UG x a e)
 rw[hll];exact h.GJ
theorem UO{w2 V9:jC}{c:lO}{cap c2:Nat}(h:qP w p T A cap ms GA gc LA lc)(hp:∀b,p b→b≠g)(ho:Out (·=g) w V9)(ho2:Out (·=g) w2 V9)
 (hm:cs.map (·.s)=T.tb.filter (vD now c.life)) (hot:lF w2 B (cU A2 cs c2) cs) (hlo:∀m∈cs,mr B m) (hB:w.heap.size≤B) (hgB:g<B)
 (hb:jR V9 g 117 (xj c (ko c T now) A2 cs.length c2 GA gc LA lc).toArray):kB V9 (fun b=>p b∨w.heap.size≤b) g c (ko c T now):=
 ⟨A2,c2,cs,GA,gc,LA,lc,hb,h.JY (T2:=ko c T now) hp ho ho2 hm rfl rfl hot hlo (fun b e=>jS) (fun b=>.inl) (fun b hb=>.inr jS)⟩
theorem Ig(p:Nat→Prop)(g:Nat)(c:lO)(T:kM)(now:Int)(hG:GT T.tb)(hu:U now)(h4:4≤g)(w:jC)(hT:Tb w)(h:kB w p g c T)(hp:∀b,p b→b≠g):
 jE Tryz.prog 91 #[jO g,jK now] w (qb w p g c T now):=by
 obtain⟨A,cap,ms,GA,gc,LA,lc,h⟩:=h
 have hgw:=h.blk.lt
 have H0:=ah (kj.one (·=g) (w:=w) rfl h.blk)
 simp only[xj]at H0
 by_cases hn:now<T.tm
 ·have HN:=ah hn;clear h hT hG hu hp hn;have x:=fk (H0.out.facts);go_in;go_wp2_with fail;refine(yR _ _ _).mono ?_;rintro e w1⟨he,rfl⟩;rw[if_pos HN.out]at he;subst he;have HF:=aT (H0.put 0 5 (.int .u64 0));go_wp2_with fail;refine kh (fun _=>True) HF trivial (fun V9 H9 _=>?_);clear x HF H0;go_ret;exact qb.no HN H9.out.out ⟨_,_,_,_,_,_,(H9.blk _ ab).2⟩
 have HN:=ah hn
 have Q:Hid (∀w',Out (·=g) w w'→jE Tryz.prog 124 #[jN A ms cap,jK now,jK c.life] w' (BJ w' (T.tb.filter (vD now c.life)))):=fun w' ho=>by
  have:=RV A ms cap now c.life hu w' (hT.rH ho fun b e=>jS) (oI.rH (c:=c) h.l hG ho fun b hb e=>hp b hb e);rwa[h.l.map]at this
 have HL:=ah h.l
 have HP:=ah hp
 clear h hT hG hu hp hn
 have x:=fk (H0.facts)
 go_in
 go_wp2_with fail
 refine(yR _ _ _).mono ?_
 rintro e w1⟨he,rfl⟩
 rw[if_neg (iP.2 HN)]at he
 subst he
 have HF:=aT (H0.put 0 5 (.int .u64 now))
 go_wp2_with fail
 refine oO (fun _=>True) HF trivial (fun V HV _=>?_)
 clear x HF H0
 have x:=fk (HV.facts)
 replace HV:=ah HV.drew
 have EG:g<V.drew.heap.size:=by have:=HV.size;omega
 have k0:V.drew.cell? ⟨g,0,none⟩=some (cU A ms cap):=x.2.2.1
 have k1:V.drew.cell? ⟨g,5,none⟩=some (.int .u64 now):=x.2.2.2.2.2.2.2.1
 have k2:V.drew.cell? ⟨g,8,none⟩=some (.int .u64 c.life):=x.2.2.2.2.2.2.2.2.2.2.1
 clear x
 refine kG (S:=(fun w'=>w'.cell? ⟨g,0,none⟩=some (cU A ms cap)∧w'.cell? ⟨g,5,none⟩=some (.int .u64 now)∧w'.cell? ⟨g,8,none⟩=some (.int .u64 c.life))) (s:=16) oo ?_
 refine sU ⟨k0,k1,k2⟩ ?_
 generalize V.drew=V2 at*
 refine oY 16 fun K hK=>?_
 go_simp
 refine(Q V2 HV.out.out).mono ?_
 rintro e w2⟨hb2,A2,c2,cs,d,rfl,hmap,hot,hlo⟩
 have hs2:=hb2.size
 have HV0:=HV
 replace HV:=ah (HV.call hb2)
 have HM:=ah hmap
 have HO:=ah hot
 have BG:=ah hlo
 have hz2:=HV0.size
 clear hb2 Q k0 k1 k2 hmap hot hlo HV0
 refine hK.out _ _ (fun h=>qch) ?_
 clear hK K
 refine az ?_
 refine MZ ?_
 have x:=fk (HV.facts)
 refine oY 24 fun K hK=>?_
 go_simp
 refine hK.out _ _ (fun h=>qch) ?_
 clear hK K
 refine az ?_
 refine MZ ?_
 refine yi ?_
 have HF:=aT (HV.put 0 0 (cU A2 cs c2))
 go_wp2_with fail
 refine kh (fun V=>Out (·=g) w2 V) HF ((Out.refl (fun b=>b=g) w2).setCell (p:=⟨g,0,none⟩) (.inl rfl) _) (fun V9 H9 mB=>?_)
 clear x HF HV
 go_ret
 exact qb.yes (ah (iP.2 HN)) H9.out.out (UO HL HP H9.out.out mB HM HO BG hz2 EG (H9.blk _ ab).2)
end Go.Proofs.YtfcnedcahoifoaaGreatDoor

import Derived.Deep.RegionLaw
import Derived.Test.YtfcnedcahoifoaaGreatDoorJ
import Derived.Defers
import Derived.FnLit
open Go.RowKit
open _root_ renaming Array→x?,Bool→z?,ByteArray→v?,Except→K?,Int→I,List→E,Nat→O,Option→w?,UInt8→y?,absurd→H?,and_true→I?,beq_false_of_ne→J?,congrArg→C?,decide_eq_false→E?,decide_eq_true_eq→D?,decide_eq_true→F?,if_neg→A?,if_pos→B?
open _root_.Array renaming getElem?_eq_some_iff→aw,toList_empty→gP
open _root_.Bool renaming and_eq_true→ba,false_and→eO,false→u?,not_eq_true'→jp,true_and→eF,true→t?
open _root_.ByteArray renaming size_extract→fI
open _root_.Go renaming Act→gG,Addr→jG,Calls→jE,Code→bk9,Ending→bi6,Exit→bk7,FuncId→bl9,MapEntry→bk4,Oper→bk0,Program→bi3,TypeId→jH,Value→jD,World→jC,bodyPost_ret→jF,info_parts→bi5,leaves_cons→bl5,ownsRow_setCell_other→bj0,rounds_succ→bi9,run_makeSlice_owned→bk8,run_underlying→bi8,wpList_append_own→bk3,wpQuiet_nil→bl0,wp_loop_rounds→bj8,wp_region_held_drew→bi1
open _root_.Go.Act renaming put→gL
open _root_.Go.Addr renaming add→iU
open _root_.Go.Builtin renaming clear_→gE,zeroCells→d8
open _root_.Go.Code renaming region→jo,wp_mono→jg
open _root_.Go.Ending renaming returned→a?
open _root_.Go.Instr renaming findNow→eI,lookup→eU,makeFunc→gF,slice→gI
open _root_.Go.IntKind renaming i64→o?,u64→n?
open _root_.Go.IntWalk renaming i64_in→dv,u64_in→gC
open _root_.Go.Lib renaming hid→ai,run_eql_slice_nil→fR
open _root_.Go.Obj renaming cells→m?
open _root_.Go.Oper renaming wp→je
open _root_.Go.Program renaming elem→gR
open _root_.Go.Region renaming free→iV,noSelect→gS,ready→eE,wanted→eQ
open _root_.Go.Result renaming andThen→dw
open _root_.Go.RowKit renaming intOf→av
open _root_.Go.Sem renaming run_bind→eT
open _root_.Go.Value renaming agg→g?,bool→h?,func→k?,int→br,ownBlock→gy,pointer→e?,slice→b?,string→f?,tuple→d?
open _root_.Go.World renaming alloc_heap_new→du,block_lt_of_cell?→b8,cell?_alloc_lt→dt,ownsRow_made→gO,ownsRow_nil→dY,ownsRow→gX
open _root_.Int renaming not_lt→iP
open _root_.List renaming append_assoc→eH,append_nil→eB,cons_append→dj,drop_drop→gp,drop_succ_cons→jc,eq_nil_of_length_eq_zero→da,ext_getElem→iO,filter_append→gQ,filter_cons→eC,findIdx?_eq_none_iff→fU,findIdx?_eq_some_iff_getElem→eP,flatMap_append→eZ,flatMap_cons→dg,foldl_append→fE,getElem?_cons_succ→bo,getElem?_cons_zero→bm,getElem?_drop→fL,getElem?_eq_getElem→an,getElem?_eq_some_iff→ci,getElem?_map→eD,getElem?_toArray→bh,getElem_cons_succ→ej,getElem_cons_zero→dQ,getElem_mem→ar,getElem_of_mem→dR,getElem_set_self→fP,getElem_set→eW,getElem_toArray→eK,length_append→cd,length_cons→c_,length_drop→dr,length_filter_le→fe,length_map→ax,length_nil→dp,length_set→eq,length_take→cv,length→ez,map_cons→df,map_map→fY,map_set→iJ,mem_cons_of_mem→dS,mem_cons_self→di,mem_cons→cw,mem_filter→eN,mem_flatMap→ir,mem_map→dq,mem_of_getElem?→cm,mem_of_mem_take→dy,mem_or_eq_of_mem_set→dO,nil_append→dz,pairwise_cons→b6,pairwise_iff_getElem→cj,push_toArray→fW,setIfInBounds_toArray→bd,set_cons_succ→am,set_cons_zero→ak,set_getElem_self→ie,take_length→dP,take_nil→iT,take_of_length_le→cl,take_set_of_le→gm,take_succ_cons→iz,take_succ_eq_append_getElem→aj,take_zero→fO
open _root_.Nat renaming add_zero→ip,le_refl→ay,le_trans→a_,lt_or_gt_of_ne→iD,mod_lt→jj,reduceAdd→ao,zero_add→au,zero_le→be,zero_mul→fh
open _root_.Option renaming none→Z,some→M
open _root_.Or renaming inl→ge,inr→s?
open _root_.Go.Value renaming int→c?
open _root_.Or renaming inl→r?
set_option maxRecDepth 100000
set_option maxHeartbeats 16000000
set_option linter.unusedVariables false
set_option linter.unusedSimpArgs false
set_option linter.defProp false
namespace Go.Proofs.YtfcnedcahoifoaaGreatDoor
variable{w w':jC}{B:O}
def VD.below{b o:O}{x:Gr}(h:VD w b o x)(d:Below B w w')(a:b<B):VD w' b o x:=by
 have q:∀(i:O)(v:jD),w.cell? ⟨b,i,Z⟩=M v->w'.cell? ⟨b,i,Z⟩=M v:=λi v c=>(d.cell (p:=⟨b,i,Z⟩) a).trans c;exact⟨q _ _ h.c0,q _ _ h.c1,q _ _ h.c2⟩
def Uz(x:Gr):∀u∈uZ x,u.oneCell'=t?:=λu a=>by
 simp[uZ]at a;rcases a with rfl|rfl|rfl<;>rfl
def AS(l:E Gr):∀u∈l.flatMap uZ,u.oneCell'=t?:=λu a=>by
 obtain⟨x,_,h⟩:=ir.1 a;exact Uz x u h
def Tryz.Ey:(Tryz.prog.info? 238).map (λi=>(i.zero,i.size,i.bytes))=M (M (g? #[jK 0,jK 0,aF]),3,32):=oo
def sx(n:I)(A:w? jG)(l:E Gr)(cap:O)(j:GG n l)(w:jC)(D:Tb w)(H:Gb w w A l):jE Tryz.prog 115 #[g? #[jK n,jN A l cap]] w λe w'=>e=a? (h? t?)/\Below w w w':=by
 have G:=j.len;have dn:decide (n<1)=u?:=E? (by have:=j.n1;omega);have dl:decide (10<(l:I))=u?:=ag;have T:=ah H;have q:=ah j;have QS:Hid (∀(s:v?) w',s.size<=1000->mw s=t?->Below w w w'->jE Tryz.prog 56 #[jL s] w' λe m=>e=a? (h? t?)/\Below w' w' m):=λs w' c h2 h=>by have:=uk s jS w' (D.later h);rwa[h2]at this
 clear H j D;go_in;go_wp2_with fail;refine oN (λ_=>True) ((Hold.nil w).alloc w 111 [jK n,jN A l cap]) trivial (λV o _=>?_);have x:=fk (o.facts);go_wp2_with fail;clear x;go_loopw[3,18] (λv i wr=>∃(k:O)(u:I),i=(aJ k)/\k<=l/\v=c? n? u/\Hid (∀h:k<l,u<l[k].id)/\Hid (Hold w wr [(w,111,[jK n,jN A l cap])])) (λ_ i _=>l-(av i).toNat)
 case atStart=>exact⟨0,0,rfl,be _,rfl,λh=>by have:=(q.all _ (ar h)).1;omega,o⟩
 clear o;obtain⟨k,u,rfl,hk,rfl,z,d⟩:=hrel;by_cases c:k<l
 .have d1:decide ((k:I)<l)=t?:=ae;obtain⟨b,W,rfl,L,C⟩:=T.at_ jS;obtain⟨i0,i1,i2⟩:=(C k c).below d.below L;have N:b<wr:=by have:=d.size;omega
  have α:(0:I)<=k:=jS;have J:(k:I)<l:=jS;obtain⟨a1,a2,Y,F,t⟩:=q.all _ (ar c);have X:Hid (∀h:k+1<l,l[k].id<l[k+1].id):=λh=>cj.1 q.up _ _ c h jS;have e1:decide (l[k].id<=u)=u?:=E? (by have:=z c;omega);have e2:decide (n<=l[k].id)=u?:=ag;have Q:=ah (λw'=>QS l[k].scope w' t F);have y:=fk (d.facts);clear C z a1 a2 Y F t;generalize l[k]=x at*;go_wp2_with fail;refine kf (λ_=>True) (d.alloc wr 238 [jK x.id,jK x.to,jL x.scope]) trivial (λV2 f _=>?_);clear y i0 i1 i2;refine(Q V2 f.below).mono ?_;rintro e w2⟨rfl,a⟩;replace f:=ah (f.call a);clear a Q;have y:=fk (f.facts);go_wp2;go_roundw
  case rel=>exact⟨k+1,x.id,CJ,jS,rfl,X,f.tail⟩
  exact No
 have r:k=(l:O):=jS;subst r;have d1:decide ((l:I)<l)=u?:=lV;have K:=ah d.below;go_wp2;go_ret;exact⟨rfl,K⟩
def rA(w:jC)(r:K? I (I×E Gr×I))(e:bi6)(w':jC):Prop:=Below w w w'/\match r with
 |.error n=>e=a? (d? #[g? #[jK 0,jM],jK 0,jJ n])
 |.ok (n,l,id)=>∃A c,e=a? (d? #[g? #[jK n,jN A l c],jK id,jJ 0])/\l<=c/\Gb w' w' A l/\(aX A w)
variable{r:K? I (I×E Gr×I)}{n:I}
def rA.no(h:r=.error n)(a:Below w w w'):rA w r (a? (d? #[g? #[jK 0,jM],jK 0,jJ n])) w':=⟨a,by rw[h]⟩
variable{l:E Gr}{A:w? jG}{k c:O}
def rA.yes{id:I}(h:r=.ok (n,l,id))(d:k=(l:O))(g:Below w w w')(f:w'.ownsRow w 238 3 (b? A k c) k (l.flatMap uZ)):rA w r (a? (d? #[g? #[jK n,b? A k c],jK id,jJ 0])) w':=by
 subst d;refine⟨g,?_⟩;rw[h];obtain⟨m,o,e,a,j,b⟩:=li f
 cases e
 exact⟨A,c,rfl,a,j,b⟩
def NP(n:I)(A:w? jG)(l:E Gr)(cap:O)(to:I)(sc:v?)(R:GG n l)(hs:sc.size<=1000)(w:jC)(hT:Tb w)(hS:Gb w w A l):jE Tryz.prog 81 #[g? #[jK n,jN A l cap],jK to,jL sc] w (rA w (lW n l to sc)):=by
 have θ:=R.len;have κ:=R.n1;obtain⟨χ,φ⟩:=R.nU;obtain⟨i0,z,G,q,J⟩:=bi5 Tryz.Ey;have HS:=ah hS;have QG:Hid (∀w',Below w w w'->jE Tryz.prog 115 #[g? #[jK n,jN A l cap]] w' λe D=>e=a? (h? t?)/\Below w' w' D):=λw' h=>sx n A l cap R w' (hT.later h) (hS.later h);have QS:Hid (∀w',Below w w w'->jE Tryz.prog 56 #[jL sc] w' λe D=>e=a? (h? (mw sc))/\Below w' w' D):=λw' h=>uk sc jS w' (hT.later h);have K:Hid (lW n l to sc=if mw sc=t? then(if (l:O)=10\/n=18446744073709551615 then .error 151 else .ok (n+1,l++[⟨n,to,sc⟩],n))else .error 50):=rfl;generalize lW n l to sc=r at*;generalize mw sc=sb at*;clear R hT hS;go_in;go_wp2_with fail;refine kf (λ_=>True) (((Hold.nil w).alloc w 111 [jK n,jN A l cap]).alloc (w+1) 111 [jK 0,jM]) trivial (λV j _=>?_);refine(QG V j.below).mono ?_;rintro e w1⟨rfl,W⟩;replace j:=ah (j.call W);clear W QG;have x:=fk (j.facts);go_wp2_with fail;refine(QS _ j.below).mono ?_;rintro e w2⟨rfl,Q⟩;replace j:=ah (j.call Q);clear Q QS x;have x:=fk (j.facts)
 cases sb with
 |false=>
  have f:Hid (r=.error 50):=by show _=_;rw[K];rfl
  clear K;have d:=aS (j.all 0 [jK 0,jM]);go_wp2_with fail;refine kw (λ_=>True) d trivial (λV9 k _=>?_);have H:=fk (k.at_ 0);clear x d;refine jF (v:=d? #[g? #[jK 0,jM],jK 0,jJ 50]) (by simp[results,Tryz.results81,go_sem,H]) rfl ?_;exact rA.no f k.below
 |true=>
  by_cases hf:(l:O)=10\/n=18446744073709551615
  .have f:Hid (r=.error 151):=by show _=_;rw[K,B? rfl,B? hf]
   clear K;have d:=aS (j.all 0 [jK 0,jM]);by_cases hl:(l:O)=10
   .have d1:((l:I)==10)=t?:=beq_iff_eq.2 jS;have Y:decide ((l:I)=10)=t?:=ae;go_wp2_with fail;refine kw (λ_=>True) d trivial (λV9 k _=>?_);have H:=fk (k.at_ 0);clear x d;refine jF (v:=d? #[g? #[jK 0,jM],jK 0,jJ 151]) (by simp[results,Tryz.results81,go_sem,H]) rfl ?_;exact rA.no f k.below
   obtain rfl:n=18446744073709551615:=by rcases hf with h|h<;>omega
   have d1:((l:I)==10)=u?:=J? jS;have Y:decide ((l:I)=10)=u?:=ag;go_wp2_with fail;refine kw (λ_=>True) d trivial (λV9 k _=>?_);have H:=fk (k.at_ 0);clear x d;refine jF (v:=d? #[g? #[jK 0,jM],jK 0,jJ 151]) (by simp[results,Tryz.results81,go_sem,H]) rfl ?_;exact rA.no f k.below
  have f:Hid (r=.ok (n+1,l++[⟨n,to,sc⟩],n)):=by show _=_;rw[K,B? rfl,A? hf]
  have d1:((l.length:I)==10)=u?:=J? jS;have Y:decide ((l.length:I)=10)=u?:=ag;have d2:(n==18446744073709551615)=u?:=J? jS;have ψ:decide (n=18446744073709551615)=u?:=ag;clear K;obtain⟨cN,ε⟩:∃c:O,c=l.length+1:=⟨_,rfl⟩;obtain⟨w3,γ,β,s⟩:=bk8 (P:=Tryz.prog) w2 w2 109 238 i0 _ 3 Tryz.underlying109 z G q o? o? cN jS (by rw[J];omega) O0 aa;rw[show(cN:I)=(l.length:I)+1 by omega]at γ;have η:w.heap.size+1<w2.heap.size:=x.1;have o:=ah (j.grown s (λg e=>LS));have m:=ah β;have ω:=s.size;have T:∀b∈[(w.heap.size+1,111,[br n? 0,jM]),(w,111,[jK n,jN A l cap])],b.1<w2.heap.size:=λb L=>by simp at L;rcases L with rfl|rfl<;>simp only<;>omega
  have F:=fk (o.facts);have Vm:=ah (Rd.below HS o.below);have ν:n<18446744073709551615:=jS;clear β s j hf HS ε;generalize ξ:(w2:O)=bz at*;go_wp2_with(first
   |(at_builtin;refine kr _ rfl (.tmp 33) (.tmp 35) 109 rfl bz 238 i0 _ 3 32 Tryz.underlying109 z G q J rfl B8 _ 0 _ rfl m _ _ l cap (l.flatMap uZ) rfl (by rw[qA sA];omega) Vm (AS _) O0 jS jS ?_;intro v1 w4 N t _;replace o:=ah (o.grown t (λg e=>by have:=qp m _ e;exact⟨jS,λb L=>by have:=T b L;omega⟩));have ρ:=t.size;replace m:=ah N;clear N t Vm x F;have F:=o.facts;simp only[Facts,kz,au,ao,I?]at F)
   |(at_builtin;refine kr _ rfl (.tmp 37) (.tmp 43) 109 rfl bz 238 i0 _ 3 32 Tryz.underlying109 z G q J rfl B8 v1 _ _ rfl (m.alloc _) _ _ 1 1 [jK n,jK to,jL sc] rfl rfl (tY (jR.new w4 _ #[jK n,jK to,jL sc])) (λu hu=>by simp at hu;rcases hu with rfl|rfl|rfl<;>rfl) O0 jS mO ?_;intro v2 w5 X C _;replace o:=ah ((o.al (m? #[jK n,jK to,jL sc] 238)).grown C (λg e=>by have:=qp m _ e;exact⟨jS,λb L=>by have:=T b L;omega⟩));have μ:=C.size;replace m:=ah X;clear X C F;have F:=o.facts;simp only[Facts,kz,au,ao,I?]at F;obtain⟨A2,c2,e2,-⟩:=lB m;subst e2)
   |fail)
  have hw:IntKind.u64.wrap (n+1)=n+1:=gC _ jS;have y:=fk (o.at_ 1);have d:=aS (o.all 0 [jK (n+1),b? A2 (l.length+1) c2]);have δ:=ah (bj0 (bj0 m (a:=(aE w)) (by have:=qp m;intro e;have:=this _ e;simp at this;omega) (c? n? (n+1))) (a:=(bS w)) (by have:=qp m;intro e;have:=this _ e;simp at this;omega) (b? A2 (l.length+1) c2));go_region_held(λw'=>w'.cell? ⟨w,0,Z⟩=M (c? n? n)) (first|assumption|exact y.1|go_keep) (fail);go_wp2_with fail;refine kw (λV=>V.ownsRow bz 238 3 (b? A2 (0+l.length+1) c2) (0+l.length+1) (([]++l.flatMap uZ)++[br n? n,br n? to,Value.string sc])) d.drew δ (λV9 k α=>?_);have H:=fk (k.at_ 0);clear F d y;refine jF (v:=d? #[g? #[jK (n+1),b? A2 (l.length+1) c2],jK n,jJ 0]) (by simp[results,Tryz.results81,go_sem,H]) rfl ?_;refine rA.yes f lV k.below (own_base (B:=w.heap.size) (show V9.ownsRow bz 238 3 (b? A2 (l.length+1) c2) (l.length+1) ((l++[(⟨n,to,sc⟩:Gr)]).flatMap uZ)from ?_) jS);have e0:0+l.length+1=l.length+1:=jS;rw[e0]at α;simpa[eZ,uZ]using α
def rM(p:Gr->z?)(l:E Gr):I:=match l.findIdx? p with
 |none=> -1
 |some k=>k
variable{p:Gr->z?}
def Rf(h:∀x∈l,p x=u?):rM p l= -1:=by
 unfold rM;rw[fU.2 h]
def Re(b:k<l)(c:p l[k]=t?)(d:∀j(a:j<k),p (l[j]'(by omega))=u?):rM p l=k:=by
 unfold rM;have:l.findIdx? p=M k:=eP.2 ⟨b,c,λj a=>by rw[d j a];simp⟩;rw[this]
def AT(f:bl9)(t:f=233\/f=117)(c:x? jD)(p:Gr->z?)(A:w? jG)(l:E Gr)(cap:O)(X:l.length<=1000)(w:jC)(C:Gb w w A l)(B:∀x∈l,∀W,Below w w W->jE Tryz.prog f (#[g? #[jK x.id,jK x.to,jL x.scope]]++c) W λe w'=>e=a? (.bool (p x))/\Below W W w'):jE Tryz.prog 116 #[jN A l cap,.func (.func f) #[] c] w λe w'=>e=a? (.int o? (rM p l))/\Below w w w':=by
 have K:=ah C;have F:=ah B;clear C B;rcases t with rfl|rfl
 all_goals
  go_in;go_wp2_with fail;go_loopw[8] (λi wr=>∃k:O,i=(aJ k)/\∃J:k<=l,Hid (∀j(g:j<k),p (l[j]'jS)=u?)/\(bB w wr)) (λi _=>l-(av i).toNat)
  case atStart=>exact⟨0,rfl,be _,λj g=>H? g jS,jQ _⟩
  obtain⟨k,rfl,J,s,n⟩:=hrel;by_cases q:k<l
  .have d1:decide ((k:I)<l)=t?:=ae;obtain⟨b,L,rfl,G,v⟩:=K.at_ jS;obtain⟨i0,i1,Y⟩:=(v k q).below n G;have Q:(0:I)<=k:=jS;have D:(k:I)<l:=jS;have m:=ah (F _ (ar q) wr n)
   cases h:p l[k]with
   |true=>
    have y:Hid (rM p l=k):=Re q h s;rw[h]at m;clear v h s;generalize l[k]=x at*;go_wp2_with fail;refine m.mono ?_;rintro r V⟨rfl,a⟩;have d:=ah (Below.two n a);clear a m;go_wp2;go_ret;exact⟨mL y.symm,d⟩
   |false=>
    have N:Hid (∀j(g:j<k+1),p (l[j]'jS)=u?):=λj g=>by
     by_cases R:j=k
     .subst R;exact h
     exact s j jS
    rw[h]at m;clear v h;generalize l[k]=x at*;go_wp2_with fail;refine m.mono ?_;rintro r V⟨rfl,a⟩;have d:=ah (Below.two n a);clear a m;go_wp2;go_roundw
    case rel=>exact⟨k+1,CJ,q,N,d⟩
    exact No
  have z:k=(l:O):=jS;subst z;have d1:decide ((l:I)<l)=u?:=lV;have y:Hid (rM p l= -1):=Rf λx T=>by
   obtain⟨j,g,rfl⟩:=dR T;exact s j g
  go_wp2;go_ret;exact⟨mL y.symm,n⟩
def Uo(p:Gr->z?)(l:E Gr):decide (0<=rM p l)=l.any p:=by
 unfold rM
 cases h:l.findIdx? p with
 |none=>
  have:=fU.1 h;have e:l.any p=u?:=by rw[List.any_eq_false];intro x b;rw[this x b];simp
  rw[e];rfl
 |some k=>
  obtain⟨a,c,_⟩:=eP.1 h;have e:l.any p=t?:=List.any_eq_true.2 ⟨l[k],ar a,c⟩;rw[e];exact F? (show(0:I)<=k by omega)
def Ci(a:x? jD)(p:Gr->z?)(A:w? jG)(l:E Gr)(cap:O)(f:l.length<=1000)(w:jC)(c:Gb w w A l)(d:∀x∈l,∀W,Below w w W->jE Tryz.prog 233 (#[g? #[jK x.id,jK x.to,jL x.scope]]++a) W λe w'=>e=a? (.bool (p x))/\Below W W w'):jE Tryz.prog 232 #[jN A l cap,.func (.func 233) #[] a] w λe w'=>e=a? (.bool (l.any p))/\Below w w w':=by
 have Q:=ah (AT 233 (r? rfl) a p A l cap f w c d);have g:=ah (Uo p l);generalize rM p l=n at*;clear c d;go_in;go_wp2_with fail;refine Q.mono ?_;rintro e h⟨rfl,b⟩;go_wp2;go_ret;exact⟨jU g,b⟩
def N_(x:Gr)(q:mw x.scope=t?)(m:x.scope.size<=1000)(to:I)(bt bl:O)(A:w? jG)(l:E kI)(lc:O)(b:setB l=t?)(w:jC)(v:Tb w)(g:(bI w bt to))(r:w.cell? ⟨bl,0,Z⟩=M (b? A l lc))(t:Lb w w A l):jE Tryz.prog 233 #[g? #[jK x.id,jK x.to,jL x.scope],jO bt,jO bl] w λe w'=>e=a? (h? (x.to==to&&nX x.scope l))/\Below w w w':=by
 have s:Hid (∀w',Below w w w'->jE Tryz.prog 190 #[jL x.scope,jN A l lc] w' λe n=>e=a? (d? #[h? (nX x.scope l),jJ 0])/\Below w' w' n):=λw' h=>CE x.scope jS q A l lc b w' (v.later h) (t.later h);have k:=b8 _ _ g;have j:=b8 _ _ r;simp only at k j;generalize nX x.scope l=d at*;clear v t b q m;by_cases a:x.to=to
 .have f:Hid ((x.to==to&&d)=d):=by show _=_;rw[beq_iff_eq.2 a,eF]
  rw[<-a]at g;clear a;go_in;go_wp2_with fail;refine kf (λ_=>True) ((Hold.nil w).alloc w 238 [jK x.id,jK x.to,jL x.scope]) trivial (λV o _=>?_);refine(s V o.below).mono ?_;rintro e z⟨rfl,c⟩;have p:=ah (o.call c).below;clear c s o g r
  cases d with
  |false=>
   go_wp2;go_ret;exact⟨jU f.symm,p⟩
  |true=>
   go_wp2;go_ret;exact⟨jU f.symm,p⟩
 have f:Hid ((x.to==to&&d)=u?):=by show _=_;rw[beq_eq_false_iff_ne.2 a,eO]
 have y:(x.to==to)=u?:=beq_eq_false_iff_ne.2 a;have B:(x.to !=to)=t?:=by simp[a]
 have C:decide (x.to=to)=u?:=by simp[a]
 go_in;go_wp2;go_ret;exact⟨jU f.symm,jP (jQ w) _⟩
def Rz(n:I)(GA:w? jG)(l:E Gr)(gc:O)(to:I)(A:w? jG)(b:E kI)(lc:O)(j:GG n l)(g:setB b=t?)(w:jC)(k:Tb w)(o:Gb w w GA l)(F:Lb w w A b):jE Tryz.prog 196 #[g? #[jK n,jN GA l gc],jK to,jN A b lc] w λe w'=>e=a? (h? (ND l to b))/\Below w w w':=by
 have v:=j.len;have t:=ah o;have C:=ah j;have p:=ah k;have q:=ah F;have z:Hid (∀w',Below w w w'->jE Tryz.prog 115 #[g? #[jK n,jN GA l gc]] w' λe m=>e=a? (h? t?)/\Below w' w' m):=λw' h=>sx n GA l gc j w' (k.later h) (o.later h);clear k o F j;go_in;go_wp2_with fail;refine kf (λ_=>True) ((((Hold.nil w).alloc w 111 [jK n,jN GA l gc]).alloc (w+1) 22 [jK to]).alloc (aN w) 72 [jN A b lc]) trivial (λV a _=>?_);refine(z V a.below).mono ?_;rintro e K⟨rfl,d⟩;replace a:=ah (a.call d);clear d z;have x:=fk (a.facts);have s:=ah (Ci #[e? (M (aE w)),e? (M (aG w))] (λx=>x.to==to&&nX x.scope b) GA l gc jS K (t.later a.below) (λy L W r=>by
  obtain⟨_,_,_,J,G⟩:=C.all y L;have D:=fk ((a.call r).facts);have f:=(a.call r).below;exact N_ y J G to _ _ A b lc g W (p.later f) D.2.2.2.2.2.1 D.2.2.1 (q.later f)))
 clear t C p q;go_wp2_with fail;refine s.mono ?_;rintro e N⟨rfl,c⟩;have H:=ah (a.call c).below;clear c s x a;go_wp2;go_ret;exact⟨rfl,H⟩
def NG{p:O->z?}{a:E O}(h:k<a):(a.take (k+1)).filter p=(a.take k).filter p++if p a[k]=t? then[a[k]]else[]:=by
 rw[aj h,gQ];congr 1;rw[eC];simp
def Oa(n:I)(GA:w? jG)(l:E Gr)(gc:O)(to:I)(A:w? jG)(ms:E jZ)(cap:O)(sc:v?)(hG:GG n l)(hs:sc.size<=100000)(w:jC)(hT:Tb w)(hL:Gb w w GA l)(G:oI w A ms):jE Tryz.prog 153 #[g? #[jK n,jN GA l gc],jK to,jN A ms cap,jL sc] w (pA w (Ay l to (ms.map (·.s)) sc)):=by
 have Δ:=G.len;obtain⟨i0,η,μ,β,ν⟩:=bi5 Tryz.Ew;have HS:=ah G;have QG:Hid (∀w',Below w w w'->jE Tryz.prog 115 #[g? #[jK n,jN GA l gc]] w' λe C=>e=a? (h? t?)/\Below w' w' C):=λw' h=>sx n GA l gc hG w' (hT.later h) (hL.later h);have QM:Hid (∀w',Below w w w'->jE Tryz.prog 148 #[jN A ms cap,jL sc] w' (pA w' (nj sc (ms.map (·.s))))):=λw' h=>L7 A ms cap sc hs w' (hT.later h) (G.later h);have QY:Hid (∀(a:O)(t:a<ms) w',Below w w w'->jE Tryz.prog 196 #[g? #[jK n,jN GA l gc],jK to,b? ms[a].la ms[a].s.l.length ms[a].lc] w' λe C=>e=a? (h? (ND l to ms[a].s.l))/\Below w' w' C):=λa t w' h=>Rz n GA l gc to _ _ _ hG (G.gs t).set w' (hT.later h) (hL.later h) ((G.ok t).later h).l;have z:Hid (∀c,nj sc (ms.map (·.s))=M c->(c:O)<=20/\∀k∈c,k<(ms:O)):=λc h=>by
  unfold nj at h;split at h
  .cases h
   exact⟨a_ (qU sc _ _) qlm,λk hk=>by have:=qw hk;rwa[ax]at this⟩
  cases h
 have Vy:Hid (Ay l to (ms.map (·.s)) sc=(nj sc (ms.map (·.s))).map λc=>c.filter (rJ l to (ms.map (·.s)))):=rfl;generalize Ay l to (ms.map (·.s)) sc=rr at*;clear hT hL G hG;go_in;go_wp2_with fail;refine kf (λ_=>True) ((Hold.nil w).alloc w 111 [jK n,jN GA l gc]) trivial (λV d _=>?_);refine(QG V d.below).mono ?_;rintro e w0⟨rfl,N⟩;replace d:=ah (d.call N);clear N QG;have x:=fk (d.facts);go_wp2_with fail;refine(QM _ d.below).mono ?_;rintro e K⟨q,h⟩;replace d:=ah (d.call q);clear q QM x
 cases F:nj sc (ms.map (·.s))with
 |none=>
  rw[F]at h;subst h;have HF:Hid (rr=Z):=by show _=_;rw[Vy,F];rfl
  clear Vy z;go_wp2;go_ret2;exact pA.no HF d.below
 |some c=>
  rw[F]at h;obtain⟨A1,c1,rfl,g,o⟩:=h;have wZ:=ah g;have HF:Hid (rr=M (c.filter (rJ l to (ms.map (·.s))))):=by show _=_;rw[Vy,F];rfl
  obtain⟨χ,J⟩:=z c F;have Fl:=ah J;have x:=fk (d.facts);clear Vy z g o F J;go_wp2_with fail;go_loopw[12,29] (λv i wr=>∃k:O,i=(aJ k)/\k<=c/\Hid (wr.ownsRow K 3 1 v ((c.take k).filter (rJ l to (ms.map (·.s)))).length (lC ((c.take k).filter (rJ l to (ms.map (·.s))))))/\(bB K wr)) (λ_ i _=>c-(av i).toNat)
  case atStart=>exact⟨0,rfl,be _,dY _ _ _ _,jQ _⟩
  obtain⟨k,rfl,hk,T,HB⟩:=hrel;by_cases h1:k<c
  .have d1:decide ((k:I)<c)=t?:=ae;obtain⟨b1,H,rfl,q,α⟩:=za wZ jS;have Y_:=(HB.cell (p:=⟨b1,H+k,Z⟩) q).trans (α k h1);have φ:b1<wr:=qes;have t:=Fl _ (ar h1);have xO:(0:I)<=k:=jS;have xN:(k:I)<c:=jS;have R:=ah (NG (p:=rJ l to (ms.map (·.s))) h1);have Θ:((c.take k).filter (rJ l to (ms.map (·.s)))).length<=20:=a_ (fe _ _) qlt;have X:rJ l to (ms.map (·.s)) c[k]=ND l to ms[c[k]].s.l:=by unfold rJ;rw[eD,an t];rfl
   rw[X]at R;have f:(bB w wr):=d.below.trans (HB.mono d.below.size);obtain⟨b,ρ,rfl,hb,hc⟩:=HS.tab.at_ jS;have j0:=((hc _ t).below f hb).c0;have κ:b<wr:=by have:=f.size;omega
   have Γ:(0:I)<=(c[k]:I):=jS;have ω:(c[k]:I)<(ms.length:I):=jS;have g0:=(HB.cell (p:=⟨w,0,Z⟩) x.1).trans x.2.2.1;have g1:=(HB.cell (p:=⟨w,1,Z⟩) x.1).trans x.2.2.2;have Y:w.heap.size<wr.heap.size:=by have:=HB.size;have:=x.1;omega
   haveI hAW:=After.some wr;have F0:=After.cell g0 Y;have F1:=After.cell g1 Y;have F2:=After.cell j0 κ;have QL:Hid (∀y:After wr,jE Tryz.prog 196 #[g? #[jK n,jN GA l gc],jK to,b? ms[c[k]].la ms[c[k]].s.l.length ms[c[k]].lc] y.at_ λe w'=>e=a? (h? (ND l to ms[c[k]].s.l))/\Below y.at_ y.at_ w'):=λy=>QY _ t y.at_ (f.trans (y.is.mono f.size));clear hc α X g0 g1 j0;generalize ξ:c[k]=a at*;clear ξ;generalize ms[a]=m at*;generalize (w:O)=bg at*;generalize(c.take k).filter (rJ l to (ms.map (·.s)))=fl at*;obtain⟨A2,c2,rfl,ψ,-,-⟩:=li T;go_wp2_with fail;refine rgb ?_;repeat(go_big_quiet_step (first|with_reducible exact na (QL.out _)))
   refine bl0 ?_;rintro w9⟨y9,Dd⟩;have D:Below wr wr w9:=by rw[Dd];exact y9.is
   have BI:(bB K w9):=HB.trans (D.mono HB.size);have SM:=ah (lf T D);clear Dd y9 D T HB f F0 F1 F2 hAW QL Y_
   cases hv:ND l to m.s.l with
   |false=>
    rw[hv,A? lV,eB]at R;go_wp2;go_roundw
    case rel=>exact⟨k+1,CJ,jS,by rw[R];exact SM,BI⟩
    exact No
   |true=>
    rw[hv,B? rfl]at R;have ε:=BI.size;go_wp2_with(at_builtin;refine bk3 _ rfl _ _ 52 rfl K 3 i0 (c? o? 0) 1 8 Tryz.underlying52 η μ β ν rfl B8 (b? A2 fl c2) fl _ rfl (SM.alloc _) ⟨w9,0,Z⟩ 1 1 [_] rfl rfl (m7 _ _ _ _ rfl) ZO O0 jS mO ?_;intro v' W r j _);have δ:=ah (Sc.ol BI SM ε j);have IS:Hid (W.ownsRow K 3 1 v' ((c.take (k+1)).filter (rJ l to (ms.map (·.s)))).length (lC ((c.take (k+1)).filter (rJ l to (ms.map (·.s)))))):=by
     show gX _ _ _ _ _ _ _;rw[R,cd];simpa[lC]using r
    clear r j SM BI;go_wp2;go_roundw
    case rel=>exact⟨k+1,CJ,jS,IS,δ⟩
    exact No
  have θ:k=(c:O):=jS;subst θ;have d1:decide ((c:I)<c)=u?:=lV;obtain⟨A2,c2,rfl,-,g,o⟩:=li T;have Ξ:=d.below.size;have HR:Hid (Rd wr wr A2 (lC (c.filter (rJ l to (ms.map (·.s)))))/\(aX A2 w)):=⟨by rwa[dP]at g,λad e=>by have:=o ad e;omega⟩;have Ct:(bB w wr):=d.below.trans (HB.mono d.below.size);rw[dP];clear g o T;go_wp2;go_ret2;exact pA.yes HF Ct HR.1 HR.2
def N8(n:I)(GA:w? jG)(l:E Gr)(gc:O)(to:I)(e:GG n l)(A:w? jG)(ms:E jZ)(cap:O)(sc:v?)(kind:I)(hs:sc.size<=100000)(w:jC)(g:Tb w)(f:Er w)(c:Gb w w GA l)(b:oI w A ms):jE Tryz.prog 108 #[g? #[jK n,jN GA l gc],jK to,jN A ms cap,jL sc,jJ kind] w (mU w (qT l to (ms.map (·.s)) sc kind)):=by
 have d:∀a,Ay l to (ms.map (·.s)) sc=M a->(a:O)<=20/\∀k∈a,k<(ms:O):=λa h=>by
  have:=b.len;unfold Ay nj at h;split at h
  .cases h;exact⟨a_ (fe _ _) (a_ (qU sc _ _) qlm),λk d=>by have:=qw (eN.1 d).1;rwa[ax]at this⟩
  cases h
 exact(FG A ms cap sc kind _ d w f b).2 n GA l gc to λw' h=>Oa n GA l gc to A ms cap sc e hs w' (g.later h) (c.later h) (b.later h)
variable{xs:E jD}
def Ah{n:O}{v:jD}(h:w.ownsRow B 238 3 v n xs)(k:0<n):∃g cap b,v=b? (aC g) n cap/\B<=g/\g<w/\jR w g 238 b/\n<=cap/\cap<=9223372036854775807:=by
 rcases h with⟨_,⟨_,l⟩|⟨g,cap,d,f,j,e,c,a,_⟩⟩
 .omega
 exact⟨g,cap,d,f,j,(aw.1 e).1,e,c,by unfold maxLen at a;omega⟩
variable{g:O}
def B9{n cap sz:O}{t:jH}:∀(b:E jD)(o:O)(w:jC)(xs:E jD),w.ownsRow B t sz (b? (aC g) n cap) n xs->∃a,(w.setCells g o b).ownsRow B t sz (b? (aC g) n cap) n a/\a.take o=xs.take o/\w.grownBy (w.setCells g o b) (M g):=sd
def LU{B n g cap sz:O}{t:jH}:∀(a:E jD)(o:O)(w:jC)(xs:E jD),o+a<=xs->w.ownsRow B t sz (b? (aC g) n cap) n xs->(w.setCells g o a).ownsRow B t sz (b? (aC g) n cap) n (xs.take o++a++xs.drop (o+a))/\w.grownBy (w.setCells g o a) (M g)
 |[],o,w,xs,_,h=>⟨by rw[show w.setCells g o []=w from rfl];simpa using h,World.grownBy.refl w _⟩
 |v::r,o,w,xs,j,h=>by
  simp only[c_]at j;obtain⟨e,k⟩:=h.stored o v;obtain⟨b,f⟩:=LU r (o+1) _ _ (by rw[eq];omega) e;refine⟨?_,jW k f⟩;have c:(xs.set o v).take (o+1)=xs.take o++[v]:=by
   rw[aj (by rw[eq];omega),fP,gm aa]
  have d:(xs.set o v).drop (o+1+r)=xs.drop (o+(r+1)):=by
   rw[List.drop_set_of_lt jS];congr 1;omega
  rw[c,d]at b;simp only[c_];rw[eH (xs.take o)]at b;exact b
def Tryz.DT(w:jC):(Go.sizeOf (Tryz.prog.elem 109)).run Tryz.prog w=.ok 3 w:=by
 have d:Tryz.prog.elem 109=238:=by simp[gR,Tryz.underlying109]
 obtain⟨f,a,c,b,e⟩:=bi5 Tryz.Ey;rw[d];simp[Go.sizeOf,typeInfo,a,b]
def ad5(A:w? jG)(n cap k:O)(c:k<=cap)(w:jC):(gI 109 (.slice A n cap) Z (M (aJ k)) Z).run Tryz.prog w=.ok (.slice A k cap) w:=by
 have a:Tryz.prog.underlying 109=M (.slice (Tryz.prog.elem 109)):=by
  have b:Tryz.prog.elem 109=238:=by simp[gR,Tryz.underlying109]
  rw[b];exact Tryz.underlying109
 rw[run_slice_h (P:=Tryz.prog) w 109 A n cap a o? (k:I) jS jS,Tryz.DT];have e:Option.map (λx:jG=>x.add 0) A=A:=by cases A<;>simp[Addr.add_zero']
 simp[dw,sliced,e]
def sP(A:w? jG)(k cap:O):w? jG:=if cap=k then A else A.map (·.add (k*3))
def Uy(A:w? jG)(n cap k:O)(c:k<=n)(w:jC):(gI 109 (.slice A n cap) (M (aJ k)) Z Z).run Tryz.prog w=.ok (.slice (sP A k cap) (n-k) (cap-k)) w:=by
 have a:Tryz.prog.underlying 109=M (.slice (Tryz.prog.elem 109)):=by
  have b:Tryz.prog.elem 109=238:=by simp[gR,Tryz.underlying109]
  rw[b];exact Tryz.underlying109
 rw[run_slice_l (P:=Tryz.prog) w 109 A n cap a o? (k:I) jS jS,Tryz.DT];simp[dw,sliced,sP]
def rV:x? jD:=#[jK 0,jK 0,aF]
def I5{n:O}:∀v∈(d8 rV n).toList,v.oneCell'=t?:=λv a=>by
 have b:∀k,k<3->(rV[k]!).oneCell'=t?:=B8;unfold d8 at a;rw[Array.toList_map]at a;obtain⟨i,_,rfl⟩:=dq.1 a;exact b _ (jj _ B8)
def I6(n:O):(d8 rV n).toList.length=n*3:=by
 unfold d8;simp;rfl
def DZ{n cap:O}(h:w.ownsRow B 238 3 (b? (aC g) n cap) n xs)(C:k<=n)(F:jH):∃W,(gE #[109] F #[b? (sP (aC g) k cap) (n-k) (cap-k)]).run Tryz.prog w=.ok (d? #[]) W/\W.ownsRow B 238 3 (b? (aC g) k cap) k (xs.take (k*3))/\(bY w W g):=by
 by_cases e:k=n
 .subst e;refine⟨w,?_,r_ h aa,World.grownBy.refl w _⟩;rw[Nat.sub_self];simp only[gE,eT,bi8 Tryz.underlying109,dw]
  cases sP (aC g) k cap<;>simp[bi8 Tryz.underlying109]
 have p:0<n:=jS;obtain⟨J,l,r,s,H,K,b,t,_⟩:=Ah h p
 cases s
 have A:sP (aC g) k cap=M ⟨g,k*3,Z⟩:=by
  unfold sP;rw[A? jS];show M (iU _ _)=_;unfold iU;split
  .rename_i y;rw[y]
  simp
 rw[A];have c:=I6 (n-k);have a:=run_storeCells_cells (P:=Tryz.prog) g (k*3) (d8 rV (n-k)).toList 0 w
  (λj o=>by
   rw[c]at o;have d:k*3+0+j<n*3:=jS;rw[h.cellAt _ d,an (by rw[h.1];exact d)];rfl)
  (λj o=>b.frozen _) (I5)
 obtain⟨x,G,z,v⟩:=B9 (d8 rV (n-k)).toList (k*3) w xs h;refine⟨w.setCells g (k*3) (d8 rV (n-k)).toList,?_,?_,v⟩
 .obtain⟨m,q⟩:∃m,n-k=m+1:=⟨n-k-1,jS⟩;rw[q]at a⊢;have D:∀w,(zeroValue 238).run Tryz.prog w=.ok (g? rV) w:=λw=>oo;have f:(Value.agg rV).cells=rV:=rfl;simp only[ip]at a;simp[gE,bi8 Tryz.underlying109,D,f,a]
 rw[<-z];exact r_ G C
def K_(A:w? jG)(l:E Gr)(cap:O)(J:l.length<=1000)(w:jC)(p:Gb w w A l):jE Tryz.prog 119 #[jN A l cap] w λe w'=>(∃v,e=a? v/\w'.ownsRow w 238 3 v l (l.flatMap uZ))/\Below w w w':=by
 obtain⟨G,s,q,m,t⟩:=bi5 Tryz.Ey;have z:∀(w:jC)(a:w? jG)(n c o j:O),(binOp .eql 109 (b? a n c) (b? Z o j)).run Tryz.prog w=.ok (h? a.isNone) w:=λw a n c o j=>fR w _ _ a n c o j Tryz.underlying109;have C:=ah p;have D:Hid (A=Z->l=[]):=λe=>by
  subst e
  cases l with
  |nil=>rfl
  |cons x r=>
   obtain⟨_,_,h,_⟩:=p (by simp[uZ])
   cases h
 clear p
 cases A with
 |none=>
  obtain rfl:=D rfl;go_in;go_wp2_with fail;have g:Hid (w.ownsRow w 238 3 aO 0 []):=dY _ _ _ _;go_ret;exact⟨⟨_,rfl,g⟩,jQ _⟩
 |some K=>
  go_in;go_wp2_with(at_builtin;refine kr _ rfl _ _ 109 rfl w 238 G _ 3 32 Tryz.underlying109 s q m t rfl B8 _ 0 _ rfl (gO w #[] 0 aa (be _) lV) _ _ l.length cap (l.flatMap uZ) rfl (by rw[qA sA];omega) (Rd.below C (jP (jQ w) _)) (AS _) O0 jS lV ?_;intro H F b d f);have y:(bB w F):=((Below.refl _ w).alloc aa _).grown d lV (by intro k B;cases B;exact ay _);rw[au]at b;simp only[fO,gP,iT,dz,fh]at b;have g:=ah b;clear b d f;go_wp2;go_ret;exact⟨⟨_,rfl,g⟩,y⟩
def He(g cap:O)(l:E Gr)(n i:O)(W:n=(l:O))(hi:i<n)(hl:n<=1000)(B:O)(w:jC)(hO:w.ownsRow B 238 3 (.slice (aC g) n cap) n (l.flatMap uZ)):jE Tryz.prog 118 #[.slice (aC g) n cap,jJ (i:I),jJ ((i:I)+1)] w λe w'=>e=a? (.slice (aC g) (n-1) cap)/\w'.ownsRow B 238 3 (.slice (aC g) (n-1) cap) (n-1) ((l.eraseIdx i).flatMap uZ)/\(bY w w' g):=by
 have hn:=W;obtain⟨i0,δ,θ,γ,μ⟩:=bi5 Tryz.Ey;obtain⟨g',ν,ψ,e1,ρ,χ,D,φ,ξ⟩:=Ah hO jS
 cases e1
 have z:(l.flatMap uZ).length=3*n:=by rw[qA sA,hn]
 have ht:Tryz.prog.underlying 109=M (.slice (Tryz.prog.elem 109)):=by
  have he:Tryz.prog.elem 109=238:=by simp[gR,Tryz.underlying109]
  rw[he];exact Tryz.underlying109
 obtain⟨v0,J⟩:∃v,∀w,(gI 109 (.slice (aC g) n cap) (M (aJ i)) (M (.int o? ((i:I)+1))) (M (aJ n))).run Tryz.prog w=.ok v w:=⟨_,λw=>by rw[run_slice_lhm (P:=Tryz.prog) w 109 _ n cap ht o? o? o? (i:I) ((i:I)+1) (n:I) jS jS jS jS,Tryz.DT];rfl⟩;have m:=λw=>ad5 (aC g) n cap i jS w;have C:=λw=>Uy (aC g) n cap (i+1) jS w;rw[show((i+1:O):I)=(i:I)+1 by omega]at C;obtain⟨G,r⟩:∃G,sP (aC g) (i+1) cap=M G:=by unfold sP;split<;>exact⟨_,rfl⟩
 have f:=C;rw[r]at f;have β:=λw=>(show(gI 109 (.slice (aC g) (n-1) cap) (M (.int o? ((n-1:O):I))) (M (aJ n)) Z).run Tryz.prog w=.ok (.slice (sP (aC g) (n-1) cap) (n-(n-1)) (cap-(n-1))) w by
  rw[run_slice_lh (P:=Tryz.prog) w 109 _ (n-1) cap ht o? o? ((n-1:O):I) (n:I) jS jS jS,Tryz.DT];simp[dw,sliced,sP])
 have d1:((i:I)==(i:I)+1)=u?:=J? jS;have d2:decide ((i:I)=(i:I)+1)=u?:=ag;obtain⟨b,c⟩:∃b,b=(l.drop (i+1)).flatMap uZ:=⟨_,rfl⟩;have d:(b:O)=(n-(i+1))*3:=by rw[c,qA sA,dr,<-hn];omega
 have N:=ah d;have L:Hid (∀u∈b,u.oneCell'=t?):=by show∀u∈b,_;rw[c];exact AS _
 have HD:Hid (w.drew.ownsRow B 238 3 (.slice (aC g) n cap) n (l.flatMap uZ)):=hO;have A:(l.flatMap uZ).drop ((i+1)*3)=b:=by
  rw[c];have:∀(l:E Gr)(k:O),(l.flatMap uZ).drop (k*3)=(l.drop k).flatMap uZ:=λl=>by
   induction l with
   |nil=>intro k;simp
   |cons x l ih=>
    intro k
    cases k with
    |zero=>simp
    |succ k=>
     rw[jc,<-ih k,dg,show(k+1)*3=(uZ x).length+k*3 by rw[sA];omega,<-gp,List.drop_left]
  exact this l (i+1)
 have Lr:Hid (∀j u,b[j]? =M u->w.drew.cell? (G.add j)=M u):=λj u R=>by
  have Y:j<b:=(ci.1 R).1;have κ:¬cap=i+1:=λe=>by rw[d]at Y;omega
  have ha:G=⟨g,(i+1)*3,Z⟩:=by
   unfold sP at r;rw[A? κ]at r;simp[iU]at r;exact r.symm
  rw[ha,addr_add,HD.cellAt _ (by rw[d]at Y;omega),<-R,<-A,fL]
 have X:Hid (∀j,j<(b:O)->(w.drew.cell? ⟨g,0+i*3+j,Z⟩).isSome=t?/\w.drew.frozen? ⟨g,0+i*3+j,Z⟩=u?):=λj R=>by
  rw[au];refine⟨?_,D.frozen _⟩;rw[HD.cellAt _ (by rw[d]at R;omega),an (by rw[z,];rw[d]at R;omega)];rfl
 obtain⟨V,t⟩:=LU b (i*3) w.drew _ (by rw[z,d];omega) HD;obtain⟨W2,F,Mk,α⟩:=DZ V (k:=n-1) jS 0;have Lv:Hid (∀ty,(gE #[109] ty #[.slice (sP (aC g) (n-1) cap) (n-(n-1)) (cap-(n-1))]).run Tryz.prog (w.drew.setCells g (i*3) b)=.ok (.tuple #[]) W2):=λty=>F;have ε:Hid (bY w W2 g):=jW (⟨t.os,t.tape,t.output,t.size,t.block⟩:w.grownBy _ _) α;have xd:Hid (W2.ownsRow B 238 3 (.slice (aC g) (n-1) cap) (n-1) ((l.eraseIdx i).flatMap uZ)):=by
  show gX _ _ _ _ _ _ _;have e:((l.flatMap uZ).take (i*3)++b++(l.flatMap uZ).drop (i*3+b)).take ((n-1)*3)=(l.eraseIdx i).flatMap uZ:=by
   have η:∀(l:E Gr)(k:O),(l.flatMap uZ).take (k*3)=(l.take k).flatMap uZ:=λl=>by
    induction l with
    |nil=>intro k;simp
    |cons x l ih=>
     intro k
     cases k with
     |zero=>simp
     |succ k=>
      rw[iz,dg,dg,<-ih k,show(k+1)*3=(uZ x).length+k*3 by rw[sA];omega,List.take_length_add_append]
   rw[List.take_append_of_le_length (by rw[cd,cv,z,d];omega),cl (by rw[cd,cv,z,d];omega),η,c,List.eraseIdx_eq_take_drop_succ,eZ]
  rw[<-e];exact Mk
 clear hO D F Mk α V t c d HD A C r z θ μ hn W ht;go_in;go_wp2;refine kG (S:=(λ_=>True)) (s:=6) oo ?_;refine nc (i:=0) (v:=(.slice (aC g) n cap)) rfl oo oo oo B8 (λ_ _ _ h=>h) (ge ⟨by rfl,?_⟩) (λ_=>trivial) ?_
 ·(intro w y;have H:=m w;have T:=f w;go_simp)
 refine az ?_;refine nc (i:=1) (v:=(aJ i)) rfl oo oo oo B8 (λ_ _ _ h=>h) (ge ⟨by rfl,?_⟩) (λ_=>trivial) ?_
 ·(intro w y;have H:=m w;have T:=f w;go_simp)
 refine az ?_;refine nc (i:=2) (v:=(.slice (aC g) i cap)) rfl oo oo oo B8 (λ_ _ _ h=>h) (ge ⟨by rfl,?_⟩) (λ_=>trivial) ?_
 ·(intro w y;have H:=m w;have T:=f w;go_simp)
 refine az ?_;refine nc (i:=3) (v:=(.slice (aC g) n cap)) rfl oo oo oo B8 (λ_ _ _ h=>h) (ge ⟨by rfl,?_⟩) (λ_=>trivial) ?_
 ·(intro w y;have H:=m w;have T:=f w;go_simp)
 refine az ?_;refine nc (i:=4) (v:=(.int o? ((i:I)+1))) rfl oo oo oo B8 (λ_ _ _ h=>h) (ge ⟨by rfl,?_⟩) (λ_=>trivial) ?_
 ·(intro w y;have H:=m w;have T:=f w;go_simp)
 refine az ?_;refine nc (i:=5) (v:=(.slice (M G) (n-(i+1)) (cap-(i+1)))) rfl oo oo oo B8 (λ_ _ _ h=>h) (ge ⟨by rfl,?_⟩) (λ_=>trivial) ?_
 ·(intro w y;have H:=m w;have T:=f w;go_simp)
 refine az ?_;refine oY 6 λK hK=>?_;refine step_append_room rfl (.tmp 22) (.tmp 25) 109 rfl 238 i0 3 Tryz.underlying109 δ γ g 0 i cap (by simp[Act.eval,gL]) G (n-(i+1)) (cap-(i+1)) b (by simp[Act.eval,gL]) N Lr L jS X ?_;rw[au];refine hK.out _ _ (λh=>by cases h) ?_;clear hK K;refine az ?_;refine MZ ?_;refine yi ?_;rw[show i+(n-(i+1))=n-1 by omega];have F:=Lv.out;clear Lv N Lr L X J m f d1 d2;generalize w.drew.setCells g (i*3) b=W1 at*;generalize hk:n-1=k at*;generalize n-k=q at*;go_wp2_with fail;subst hk;go_ret;exact⟨rfl,xd,ε⟩
def ue(w:jC)(n:I)(r:K? I (E Gr))(e:bi6)(w':jC):Prop:=Below w w w'/\match r with
 |.error x=>e=a? (d? #[g? #[jK 0,jM],jJ x])
 |.ok l=>∃A c,e=a? (d? #[g? #[jK n,jN A l c],jJ 0])/\l<=c/\Gb w' w' A l/\(aX A w)
variable{r:K? I (E Gr)}
def ue.no{x:I}(h:r=.error x)(a:Below w w w'):ue w n r (a? (d? #[g? #[jK 0,jM],jJ x])) w':=⟨a,by rw[h]⟩
def ue.yes(h:r=.ok l)(d:k=(l:O))(g:Below w w w')(f:w'.ownsRow w 238 3 (b? A k c) k (l.flatMap uZ)):ue w n r (a? (d? #[g? #[jK n,b? A k c],jJ 0])) w':=by
 subst d;refine⟨g,?_⟩;rw[h];obtain⟨m,o,e,a,j,b⟩:=li f
 cases e
 exact⟨A,c,rfl,a,j,b⟩
def N9(x:Gr)(id:I)(bt:O)(w:jC)(b:(bI w bt id)):jE Tryz.prog 117 #[g? #[jK x.id,jK x.to,jL x.scope],jO bt] w λe w'=>e=a? (h? (x.id==id))/\Below w w w':=by
 have a:=b8 _ _ b;simp only at a;go_in;go_wp2;go_ret;exact⟨rfl,jP (jQ w) _⟩
def Ga{id:I}(h:rM (λx=>x.id==id) l=k):lr l id=.ok (l.eraseIdx k)/\k<l:=by
 unfold rM at h;unfold lr
 cases e:l.findIdx? (λx=>x.id==id)with
 |none=>rw[e]at h;simp only at h;omega
 |some j=>
  rw[e]at h;simp only at h;obtain rfl:j=k:=jS;exact⟨rfl,(eP.1 e).1⟩
def Gc{id:I}(h:rM (λx=>x.id==id) l= -1):lr l id=.error 121:=by
 unfold rM at h;unfold lr
 cases e:l.findIdx? (λx=>x.id==id)with
 |none=>rfl
 |some j=>rw[e]at h;simp only at h;omega
def Xo(p:Gr->z?)(l:E Gr):rM p l= -1\/∃k:O,rM p l=k:=by
 unfold rM;split
 .exact r? rfl
 exact s? ⟨_,rfl⟩
def Hb(n:I)(GA:w? jG)(l:E Gr)(gc:O)(id:I)(hG:GG n l)(w:jC)(hT:Tb w)(hS:Gb w w GA l):jE Tryz.prog 83 #[g? #[jK n,jN GA l gc],jK id] w (ue w n (lr l id)):=by
 have hlen:=hG.len;have HS:=ah hS;have QG:Hid (∀w',Below w w w'->jE Tryz.prog 115 #[g? #[jK n,jN GA l gc]] w' λe w''=>e=a? (h? t?)/\Below w' w' w''):=λw' h=>sx n GA l gc hG w' (hT.later h) (hS.later h);have SI:Hid (∀k:O,rM (λx=>x.id==id) l=k->lr l id=.ok (l.eraseIdx k)/\k<l):=λk h=>Ga h;have SN:Hid (rM (λx=>x.id==id) l= -1->lr l id=.error 121):=Gc;have HOR:=ah (Xo (λx=>x.id==id) l);generalize lr l id=r at*;clear hT hS hG;go_in;go_wp2_with fail;refine kf (λ_=>True) ((((Hold.nil w).alloc w 111 [jK n,jN GA l gc]).alloc (w+1) 22 [jK id]).alloc (aN w) 111 [jK 0,jM]) trivial (λV HV _=>?_);refine(QG V HV.below).mono ?_;rintro e w1⟨rfl,hb1⟩;replace HV:=ah (HV.call hb1);clear hb1 QG;have x:=fk (HV.facts);have QI:=ah (AT 117 (s? rfl) #[e? (M (aE w))] (λx=>x.id==id) GA l gc jS w1 (HS.later HV.below) (λy _ W hW=>by
  have hx:=fk ((HV.call hW).facts);exact N9 y id _ W hx.2.2.2.2.2.1))
 generalize rM (λx=>x.id==id) l=ix at*;go_wp2_with fail;refine QI.mono ?_;rintro e w2⟨rfl,hb2⟩;replace HV:=ai (HV.out.call hb2);clear hb2 QI x;have x:=fk (HV.out.facts);rcases HOR.out with h|⟨k,h⟩
 .subst h;have HR:Hid (r=.error 121):=SN.out rfl;have HRR:=aS (HV.out.all 0 [c? n? 0,b? Z 0 0]);clear SN SI HOR;go_wp2_with fail;refine kw (λ_=>True) HRR trivial (λV9 H9 _=>?_);have hq:=fk (H9.at_ 0);clear x HRR;refine jF (v:=d? #[g? bN,jJ 121]) (by simp[results,Tryz.results83,go_sem,hq]) rfl ?_;exact ue.no HR H9.below
 subst h;obtain⟨hr,hk⟩:=SI k rfl;have HR:=ai hr;have d1:decide ((k:I)<0)=u?:=E? (by omega);have hz:w.heap.size+1+1<w2.heap.size:=x.1;have QC:=ai (K_ GA l gc (by omega) w2 (HS.out.later HV.out.below));clear SN SI HOR hr;go_wp2_with fail;refine QC.mono ?_;rintro e w3⟨⟨v,rfl,ho3⟩,hb3⟩;obtain⟨g,cap,arr,rfl,hgb,_⟩:=Ah ho3 jS;replace HV:=ah (HV.call hb3);have QD:=ah (He g cap l l k rfl hk jS w2 w3 ho3);clear QC hb3 ho3 x;have hw:IntKind.i64.wrap ((k:I)+1)=(k:I)+1:=dv _ jS;go_wp2_with fail;refine QD.mono ?_;rintro e w4⟨rfl,Mg,hg4⟩;replace HV:=ah (HV.grown hg4 (λj e=>by cases e;exact⟨jS,λb hb=>by simp at hb;rcases hb with rfl|rfl|rfl<;>simp only<;>omega⟩));have IS:=ah Mg;have hle:(l.eraseIdx k).length=(l:O)-1:=List.length_eraseIdx_of_lt hk;have I3:=ah hle;clear QD Mg hg4 hw hle;have x:=fk (HV.facts);have HRR:=aS (HV.all 0 [jK n,b? (aC g) (l-1) cap]);have HOF:=ah (bj0 (bj0 IS (a:=(aG w)) (by simp[gy];omega) (c? n? n)) (a:=(bZ w)) (by simp[gy];omega) (b? (aC g) (l.length-1) cap));go_wp2_with fail;refine kw (λV=>V.ownsRow w2 238 3 (b? (aC g) (l-1) cap) (l-1) ((l.eraseIdx k).flatMap uZ)) HRR HOF (λV9 H9 hO9=>?_);have hq:=fk (H9.at_ 0);clear x HRR;refine jF (v:=d? #[g? #[jK n,b? (aC g) (l-1) cap],jJ 0]) (by simp[results,Tryz.results83,go_sem,hq]) rfl ?_;exact ue.yes HR I3.symm H9.below (own_base (B:=w.heap.size) hO9 jS)
def xj(c:lO)(T:kM)(A:w? jG)(n cap:O)(GA:w? jG)(gc:O)(LA:w? jG)(lc:O):E jD:=
 [b? A n cap,jK T.gn,jN GA T.gl gc,jK T.lb,jN LA T.ll lc,jK T.tm,jK c.id,jJ c.budget,jK c.life,jK c.ka,jK c.kb]
structure qP(w:jC)(p:O->Prop)(T:kM)(A:w? jG)(cap:O)(ms:E jZ)(GA:w? jG)(gc:O)(LA:w? jG)(lc:O):Prop where
 map:ms.map (·.s)=T.tb
 tab:Tab w w A ms
 OZ:DB p A ms
 cap:ms.length<=cap
 gb:Gb w w GA T.gl
 XK:T.gl≠[]->∀ad,GA=M ad->p ad.block
 eb:Eb w w LA T.ll
 UG:T.ll≠[]->∀ad,LA=M ad->p ad.block
 GJ:T.ll.length<=lc
structure wS(w:jC)(p:O->Prop)(g:O)(c:lO)(T:kM)(A:w? jG)(cap:O)(ms:E jZ)(GA:w? jG)(gc:O)(LA:w? jG)(lc:O):Prop where
 blk:jR w g 117 (xj c T A ms.length cap GA gc LA lc).toArray
 l:qP w p T A cap ms GA gc LA lc
def kB(w:jC)(p:O->Prop)(g:O)(c:lO)(T:kM):Prop:=∃A cap ms GA gc LA lc,wS w p g c T A cap ms GA gc LA lc
section
variable{w w':jC}{p q:O->Prop}{X:O->Prop}{g:O}{c:lO}{T:kM}{A GA LA:w? jG}{cap gc lc:O}{ms:E jZ}
def qP.mono(h:qP w p T A cap ms GA gc LA lc)(c:∀b,p b->q b):qP w q T A cap ms GA gc LA lc:=⟨h.map,h.tab,h.OZ.mono c,h.cap,h.gb,λx a e=>c _ (h.XK x a e),h.eb,λx a e=>c _ (h.UG x a e),h.GJ⟩
def flat_nil{α:Type}{f:α->E jD}{l:E α}(h:l.flatMap f≠[]):l≠[]:=λe=>h (by rw[e];rfl)
def qP.out(h:qP w p T A cap ms GA gc LA lc)(d:Out X w w')(c:∀b,p b->¬X b):qP w' p T A cap ms GA gc LA lc:=
 ⟨h.map,d.tab h.tab (h.OZ.mono c),h.OZ,h.cap,d.rd h.gb λx a e=>c _ (h.XK (flat_nil x) a e),h.XK,d.rd h.eb λx a e=>c _ (h.UG (flat_nil x) a e),h.UG,h.GJ⟩
def qP.later(h:qP w p T A cap ms GA gc LA lc)(a:Below w w w'):qP w' p T A cap ms GA gc LA lc:=⟨h.map,h.tab.later a,h.OZ,h.cap,h.gb.later a,h.XK,h.eb.later a,h.UG,h.GJ⟩
def wS.later(h:wS w p g c T A cap ms GA gc LA lc)(a:Below w w w'):wS w' p g c T A cap ms GA gc LA lc:=⟨h.blk.later a,h.l.later a⟩
def wS.out(h:wS w p g c T A cap ms GA gc LA lc)(a:Out X w w')(d:∀b,p b->¬X b)(e:¬X g):wS w' p g c T A cap ms GA gc LA lc:=⟨a.blk h.blk e,h.l.out a d⟩
def kB.later(h:kB w p g c T)(a:Below w w w'):kB w' p g c T:=by
 obtain⟨A,cap,ms,GA,gc,LA,lc,h⟩:=h;exact⟨A,cap,ms,GA,gc,LA,lc,h.later a⟩
def kB.out(h:kB w p g c T)(d:Out X w w')(a:∀b,p b->¬X b)(e:¬X g):kB w' p g c T:=by
 obtain⟨A,cap,ms,GA,gc,LA,lc,h⟩:=h;exact⟨A,cap,ms,GA,gc,LA,lc,h.out d a e⟩
def kB.mono(h:kB w p g c T)(a:∀b,p b->q b):kB w q g c T:=by
 obtain⟨A,cap,ms,GA,gc,LA,lc,h⟩:=h;exact⟨A,cap,ms,GA,gc,LA,lc,h.blk,h.l.mono a⟩
def qP.Ku(h:qP w p T A cap ms GA gc LA lc)(a:GT T.tb):oI w A ms:=⟨h.tab,by rw[h.map];exact a⟩
def wS.cells(h:wS w p g c T A cap ms GA gc LA lc):w.cell? ⟨g,0,Z⟩=M (cU A ms cap)/\w.cell? ⟨g,1,Z⟩=M (c? n? T.gn)/\w.cell? ⟨g,2,Z⟩=M (b? GA T.gl gc)/\w.cell? ⟨g,3,Z⟩=M (c? n? T.lb)/\w.cell? ⟨g,4,Z⟩=M (b? LA T.ll lc)/\w.cell? ⟨g,5,Z⟩=M (c? n? T.tm)/\w.cell? ⟨g,6,Z⟩=M (c? n? c.id)/\w.cell? ⟨g,7,Z⟩=M (c? o? c.budget)/\w.cell? ⟨g,8,Z⟩=M (c? n? c.life)/\w.cell? ⟨g,9,Z⟩=M (c? n? c.ka)/\w.cell? ⟨g,10,Z⟩=M (c? n? c.kb):=
 ⟨h.blk.cell 0,h.blk.cell 1,h.blk.cell 2,h.blk.cell 3,h.blk.cell 4,h.blk.cell 5,h.blk.cell 6,h.blk.cell 7,h.blk.cell 8,h.blk.cell 9,h.blk.cell 10⟩
end
def xk(p:O->Prop)(g:O)(c:lO)(T:kM)(a:GT T.tb)(w:jC)(b:Tb w)(h:kB w p g c T):jE Tryz.prog 54 #[jO g] w λe w'=>e=a? (c? o? (kJ T.tb))/\Below w w w':=by
 obtain⟨A,cap,ms,GA,gc,LA,lc,h⟩:=h;have Q:=ah (DX A ms cap w b (h.l.Ku a));rw[h.l.map]at Q;have c0:=h.cells.1;have d:=h.blk.lt;clear h b a;go_in;go_wp2_with fail;refine(qc _ _).mono ?_;rintro e k⟨rfl,rfl⟩;go_wp2_with fail;refine Q.mono ?_;rintro e j⟨rfl,f⟩;go_wp2;go_ret;exact⟨rfl,f⟩
def Ji(p:O->Prop)(g:O)(c:lO)(T:kM)(seq:I)(m:T.ll.length<=1000)(w:jC)(h:kB w p g c T):jE Tryz.prog 63 #[jO g,jK seq] w λe w'=>(∃a c,e=a? (b? a (lA T.ll seq).length c)/\w'.ownsRow w 59 4 (b? a (lA T.ll seq).length c) (lA T.ll seq).length ((lA T.ll seq).flatMap nE))/\Below w w w':=by
 obtain⟨A,cap,ms,GA,gc,LA,lc,h⟩:=h;have Q:=ah (OL T.lb LA T.ll lc seq m w h.l.eb);have q:=h.cells.2.2.2.1;have o:=h.cells.2.2.2.2.1;have d:=h.blk.lt;clear h;go_in;go_wp2_with fail;refine(qc _ _).mono ?_;rintro e r⟨rfl,rfl⟩;go_wp2_with fail;refine Q.mono ?_;rintro e n⟨⟨a,j,rfl,b⟩,k⟩;have f:=ah b;clear b Q;go_wp2;go_ret;exact⟨⟨a,j,rfl,f⟩,k⟩
def Fw(p:O->Prop)(g:O)(c:lO)(T:kM)(sc:v?)(kind:I)(H:GT T.tb)(hs:sc.size<=1000)(w:jC)(G:Tb w)(J:Er w)(h:kB w p g c T):jE Tryz.prog 74 #[jO g,jL sc,jJ kind] w (mU w (kA T.tb sc kind)):=by
 obtain⟨A,cap,ms,GA,gc,LA,lc,h⟩:=h;have Q:Hid (∀w',Below w w w'->jE Tryz.prog 101 #[jN A ms cap,jL sc,jJ kind] w' (mU w' (kA T.tb sc kind))):=λw' o=>by
  have:=FQ A ms cap sc kind jS w' (G.later o) (J.later o) ((h.l.Ku H).later o);rwa[h.l.map]at this
 have c0:=h.cells.1;have y:=h.blk.lt;generalize kA T.tb sc kind=F at*;clear h G H J;go_in;go_wp2_with fail;refine kf (λV=>V.cell? ⟨g,0,Z⟩=M (cU A ms cap)) ((Hold.nil w).alloc w 136 [jJ 0,jJ 0,jM,jJ 0,aF,jJ 0,jJ 0,jM,jJ 0,jM]) (by rw[dt w _ _ y];exact c0) (λV k t=>?_);have hz:(w:O)<(V:O):=(k.blk _ ab).2.lt;have X:g<V.heap.size:=jS;clear c0;refine(qc _ _).mono ?_;rintro e W⟨rfl,rfl⟩;go_wp2_with fail;refine(Q W k.below).mono ?_;rintro e Y⟨j,h⟩;have N:=j.size;replace k:=ah (k.call j);clear j Q t;have x:=fk (k.facts)
 cases a:F with
 |error R=>
  rw[a]at h;subst h;have z:=ah a;clear a;have d:=aS (k.all 0 [jJ 0,jJ 0,jM,jJ 0,aF,jJ 0,jJ 0,jM,jJ 0,jM]);simp only[xl];go_wp2_with fail;refine kw (λ_=>True) d trivial (λL q _=>?_);have C:=fk (q.at_ 0);clear x d;refine jF (v:=d? #[cL,jJ R]) (by simp[results,Tryz.results74,go_sem,C]) rfl ?_;exact mU.no z q.below
 |ok s=>
  rw[a]at h;obtain⟨m,D,rfl,r,n⟩:=h;have z:Hid (F=.ok m.s):=by show _=_;rw[a,D]
  clear D a;have d:=aS (k.all 0 (aA m));have f:=aS (jY.lp (g:=w.heap.size) (n.mono λb o=>jS) (aA m) 0 r);unfold nT;go_wp2_with fail;refine kw (λV=>jY V V m) d f (λL q K=>?_);have C:=fk (q.at_ 0);clear x d f;refine jF (v:=d? #[g? (aB m),jJ 0]) (by simp[results,Tryz.results74,go_sem,C]) rfl ?_;exact mU.yes z q.below K (n.mono λb o=>jS)
variable{X:O->Prop}
def Tb.rH(h:Tb w)(d:Out X w w')(f:∀b,X b->4<=b):Tb w':=
 ⟨λc g=>(d.cell (p:=⟨2,c,Z⟩) (b8 w _ (h.1 c g)) λe=>by have:=f _ e;simp at this).trans (h.1 c g),
  λi a=>⟨(d.cell (p:=⟨3,2*i,Z⟩) (b8 w _ (h.2 i a).1) λe=>by have:=f _ e;simp at this).trans (h.2 i a).1,
   (d.cell (p:=⟨3,2*i+1,Z⟩) (b8 w _ (h.2 i a).2) λe=>by have:=f _ e;simp at this).trans (h.2 i a).2⟩⟩
def Er.rH(h:Er w)(a:Out X w w')(c:∀b,X b->4<=b):Er w':=
 (a.cell (p:=⟨1,0,Z⟩) (b8 w _ h) λe=>by have:=c _ e;simp at this).trans h
variable{p:O->Prop}{T:kM}{GA LA:w? jG}{gc lc:O}{ms:E jZ}
def oI.rH{c:lO}{cap:O}(h:qP w p T A cap ms GA gc LA lc)(e:GT T.tb)(d:Out X w w')(a:∀b,p b->¬X b):oI w' A ms:=(h.out d a).Ku e
def rv(w:jC)(g:O)(c:lO):Prop:=∃d h a f e b,jR w g 117 #[d,h,a,f,e,b,jK c.id,jJ c.budget,jK c.life,jK c.ka,jK c.kb]
def qb(w:jC)(p:O->Prop)(g:O)(c:lO)(T:kM)(now:I)(e:bi6)(w':jC):Prop:=
 Out (·=g) w w'/\(now<T.tm->e=a? (c? o? 140)/\rv w' g c)/\(¬now<T.tm->e=a? (c? o? 0)/\kB w' (λb=>p b\/w<=b) g c (ko c T now))
variable{now:I}
def qb.no{c:lO}(h:Hid (now<T.tm))(a:Out (·=g) w w')(b:rv w' g c):qb w p g c T now (a? (c? o? 140)) w':=⟨a,λ_=>⟨rfl,b⟩,λk=>H? h.out k⟩
def qb.yes{c:lO}(h:Hid (¬now<T.tm))(a:Out (·=g) w w')(d:kB w' (λb=>p b\/w<=b) g c (ko c T now)):qb w p g c T now (a? (c? o? 0)) w':=⟨a,λk=>H? k h.out,λ_=>⟨rfl,d⟩⟩
variable{cs:E jZ}
def lF.OZ(h:lF w B (cU A cs c) cs)(d:∀m∈cs,mr B m)(a:∀b,B<=b->p b):DB p A cs:=by
 obtain⟨l,n,e,k,o,j⟩:=li h.own
 cases e
 exact⟨λ_ g e=>a _ (j g e),λm f=>(d m f).inn.mono a⟩
def lF.cap(h:lF w B (cU A cs c) cs):cs<=c:=by
 obtain⟨b,d,e,a,f,g⟩:=li h.own
 cases e
 exact a
variable{A2:w? jG}
def qP.JY{n j:jC}{q:O->Prop}{T2:kM}{cap c2:O}(h:qP w p T A cap ms GA gc LA lc)(r:∀b,p b->¬X b)(C:Out X w j)(k:Out X n j)(t:cs.map (·.s)=T2.tb) (o:T2.gl=T.gl) (d:T2.ll=T.ll) (c:lF n B (cU A2 cs c2) cs) (f:∀m∈cs,mr B m) (y:∀b,X b->b<B) (g:∀b,p b->q b) (z:∀b,B<=b->q b):qP j q T2 A2 c2 cs GA gc LA lc:=by
 have l:=h.out C r;refine⟨t,k.tab c.tab (c.OZ f λb D v=>by have:=y b v;omega),c.OZ f z,c.cap,?_,?_,?_,?_,?_⟩
 .rw[o];exact l.gb
 .rw[o];exact λx a e=>g _ (h.XK x a e)
 .rw[d];exact l.eb
 .rw[d];exact λx a e=>g _ (h.UG x a e)
 rw[d];exact h.GJ
def UO{k a:jC}{c:lO}{cap c2:O}(h:qP w p T A cap ms GA gc LA lc)(n:∀b,p b->b≠g)(r:Out (·=g) w a)(d:Out (·=g) k a)(o:cs.map (·.s)=T.tb.filter (vD now c.life)) (j:lF k B (cU A2 cs c2) cs) (f:∀m∈cs,mr B m) (t:w<=B) (q:g<B)(l:jR a g 117 (xj c (ko c T now) A2 cs c2 GA gc LA lc).toArray):kB a (λb=>p b\/w<=b) g c (ko c T now):=
 ⟨A2,c2,cs,GA,gc,LA,lc,l,h.JY (T2:=ko c T now) n r d o rfl rfl j f (λb e=>jS) (λb=>r?) (λb l=>s? jS)⟩
def Ig(p:O->Prop)(g:O)(c:lO)(T:kM)(now:I)(J:GT T.tb)(G:U now)(h4:4<=g)(w:jC)(H:Tb w)(h:kB w p g c T)(F:∀b,p b->b≠g):jE Tryz.prog 91 #[jO g,jK now] w (qb w p g c T now):=by
 obtain⟨A,cap,ms,GA,gc,LA,lc,h⟩:=h;have β:=h.blk.lt;have n:=ah (kj.one (·=g) (w:=w) rfl h.blk);simp only[xj]at n;by_cases D:now<T.tm
 .have C:=ah D;clear h H J G F D;have x:=fk (n.out.facts);go_in;go_wp2_with fail;refine(yR _ _ _).mono ?_;rintro e w1⟨y,rfl⟩;rw[B? C.out]at y;subst y;have j:=aT (n.put 0 5 (c? n? 0));go_wp2_with fail;refine kh (λ_=>True) j trivial (λY q _=>?_);clear x j n;go_ret;exact qb.no C q.out.out ⟨_,_,_,_,_,_,(q.blk _ ab).2⟩
 have C:=ah D;have Q:Hid (∀w',Out (·=g) w w'->jE Tryz.prog 124 #[jN A ms cap,jK now,jK c.life] w' (BJ w' (T.tb.filter (vD now c.life)))):=λw' ho=>by
  have:=RV A ms cap now c.life G w' (H.rH ho λb e=>jS) (oI.rH (c:=c) h.l J ho λb hb e=>F b hb e);rwa[h.l.map]at this
 have HL:=ah h.l;have HP:=ah F;clear h H J G F D;have x:=fk (n.facts);go_in;go_wp2_with fail;refine(yR _ _ _).mono ?_;rintro e w1⟨y,rfl⟩;rw[A? (iP.2 C)]at y;subst y;have j:=aT (n.put 0 5 (c? n? now));go_wp2_with fail;refine oO (λ_=>True) j trivial (λV f _=>?_);clear x j n;have x:=fk (f.facts);replace f:=ah f.drew;have EG:g<V.drew:=by have:=f.size;omega
 have N:V.drew.cell? ⟨g,0,Z⟩=M (cU A ms cap):=x.2.2.1;have W:V.drew.cell? ⟨g,5,Z⟩=M (c? n? now):=x.2.2.2.2.2.2.2.1;have R:V.drew.cell? ⟨g,8,Z⟩=M (c? n? c.life):=x.2.2.2.2.2.2.2.2.2.2.1;clear x;refine kG (S:=(λw'=>w'.cell? ⟨g,0,Z⟩=M (cU A ms cap)/\w'.cell? ⟨g,5,Z⟩=M (c? n? now)/\w'.cell? ⟨g,8,Z⟩=M (c? n? c.life))) (s:=16) oo ?_;refine sU ⟨N,W,R⟩ ?_;generalize V.drew=V2 at*;refine oY 16 λK r=>?_;go_simp;refine(Q V2 f.out.out).mono ?_;rintro e X⟨m,A2,c2,cs,d,rfl,k,z,v⟩;have α:=m.size;have t:=f;replace f:=ah (f.call m);have HM:=ah k;have HO:=ah z;have BG:=ah v;have L:=t.size;clear m Q N W R k z v t;refine r.out _ _ (λh=>qch) ?_;clear r K;refine az ?_;refine MZ ?_;have x:=fk (f.facts);refine oY 24 λK r=>?_;go_simp;refine r.out _ _ (λh=>qch) ?_;clear r K;refine az ?_;refine MZ ?_;refine yi ?_;have j:=aT (f.put 0 0 (cU A2 cs c2));go_wp2_with fail;refine kh (λV=>Out (·=g) X V) j ((Out.refl (λb=>b=g) X).setCell (p:=⟨g,0,Z⟩) (r? rfl) _) (λY q mB=>?_);clear x j f;go_ret;exact qb.yes (ah (iP.2 C)) q.out.out (UO HL HP q.out.out mB HM HO BG L EG (q.blk _ ab).2)
end Go.Proofs.YtfcnedcahoifoaaGreatDoor
namespace Go.Proofs.YtfcnedcahoifoaaGreatDoor
structure SbF(x0:jC) where
def bF(a:jC):SbF a:=⟨⟩
instance(x0:jC):CoeOut (SbF x0) jD:=⟨λ_=>e? (M ⟨x0.heap.size+2,0,Z⟩)⟩
structure ScF(x0:jC)(x1:jC) where
def cF(b:jC)(a:jC):ScF b a:=⟨⟩
instance(x0:jC)(x1:jC):CoeOut (ScF x0 x1) Prop:=⟨λ_=>Out (λ_=>False) x0 x1⟩
instance(x0:jC)(x1:jC):CoeSort (ScF x0 x1) Prop:=⟨λ_=>Out (λ_=>False) x0 x1⟩
def LF(e:I)(c:lO)(f h k l a g j o b n m d:jD):E jD:=if e=0 then[j,o,b,n,m,d,jK c.id,jJ c.budget,jK c.life,jK c.ka,jK c.kb]else[f,h,k,l,a,g,jK c.id,jJ c.budget,jK c.life,jK c.ka,jK c.kb]
variable{X:O->Prop}{w0:jC}
def qi(o p m g:O)(e:I)(c:lO)(A GA LA:w? jG)(n cap f d b a:O)(j lb k:I)(t r z y v s:jD)(u:FrameMode)(w:jC)(H:kj X w0 w [(o,115,[b? A n cap,jK j,b? GA f d,jK lb,b? LA b a,jK k]),(p,49,[jJ e]),(m,82,[jO g]),(g,117,[t,r,z,y,v,s,jK c.id,jJ c.budget,jK c.life,jK c.ka,jK c.kb])]):CallsD Tryz.prog 90 #[jO p,jO o,jO m] u w λD C w'=>C=u/\(D=a? (d? #[])/\kj X w0 w' [(o,115,[b? A n cap,jK j,b? GA f d,jK lb,b? LA b a,jK k]),(p,49,[jJ e]),(m,82,[jO g]),(g,117,LF e c (b? A n cap) (c? n? j) (b? GA f d) (c? n? lb) (b? LA b a) (c? n? k) t r z y v s)]/\(e=0->w'=w)):=by
 have x:=fk (H.facts);by_cases q:e=0
 .have F:=ah H;have h:=ah q;go_enter_d Tryz.func90,Tryz.ntmps90;go_wp2_with fail;go_end0;refine⟨rfl,?_,λ_=>rfl⟩;rw[LF,B? h.out];exact F
 have l:=aT ((((((H.put 3 0 (b? A n cap)).put 3 1 (c? n? j)).put 3 2 (b? GA f d)).put 3 3 (c? n? lb)).put 3 4 (b? LA b a)).put 3 5 (c? n? k));have h:=ah q;replace l:=ah l;go_enter_d Tryz.func90,Tryz.ntmps90;go_wp2;go_end0;refine⟨rfl,?_,λe=>H? e h⟩;rw[LF,A? h];exact l
variable{w:jC}
def kj.LZ{Y:O->Prop}{bs:E (O×jH×E jD)}(h:kj X w0 w bs)(a:∀b,X b->Y b):kj Y w0 w bs:=⟨h.out.mono λb _=>a b,λb c=>⟨(h.blk b c).1.imp (a _) id,(h.blk b c).2⟩,h.apart⟩
def VW(Q:bk7->Act->jC->Prop):bk7->Act->jC->Prop
 |.panic _,_,_=>False
 |e,a,w=>Q e a w
variable{Q:bk7->Act->jC->Prop}{a:Act}
def Gm{P:bi3}{c:bk9}(h:c.wp P (VW Q) a w):c.wp P Q a w:=jg (λe a w h=>by cases e<;>first|exact h|exact h.elim) h
def zh(h:Q .normal a w):VW Q .normal a w:=h
def mM(C:O->Prop)(K:jC->Prop)(q:O->Prop)(g:O)(c:lO)(r:K? I kM)(W:jC)(e:bi6)(a:jC):Prop:=
 Out (λb=>b=g\/C b) W a/\match r with
 |.error er=>e=a? (c? o? er)/\er≠0/\rv a g c
 |.ok T2=>e=a? (c? o? 0)/\kB a q g c T2/\K a
noncomputable def I2(c:lO)(T:kM)(now:I)(text:v?)(r:K? I kM):K? I kM:=
 if now<T.tm then .error 140 else match r with
  |.error e=>.error e
  |.ok T2=>match ru c.ka c.kb T2.lb T2.ll T2.tm text with
   |none=>.error 160
   |some (b,l)=>.ok {T2 with lb:=b,ll:=l}
def rb(w:jC)(C:O->Prop)(K:jC->Prop)(p:O->Prop)(g:O)(c:lO)(T:kM)(d:K? I kM)(e:bi6)(w':jC):Prop:=
 Out (λb=>b=g\/C b) w w'/\
 match d with
 |.error er=>e=a? (c? o? er)/\er≠0/\kB w' p g c T
 |.ok T3=>e=a? (c? o? 0)/\kB w' (λb=>p b\/w.heap.size+3<=b) g c T3/\∃a,K a/\Out (λb=>b=g\/(w.heap.size<=b/\b<w.heap.size+3)) a w'
variable{c:lO}{T:kM}{now:I}{text:v?}{r:K? I kM}
def HJ(h:now<T.tm):Hid (I2 c T now text r=.error 140):=by show _=_;unfold I2;rw[B? h]
def UI{e:I}(h:¬now<T.tm)(a:r=.error e):Hid (I2 c T now text r=.error e):=by show _=_;unfold I2;rw[A? h,a]
variable{T2:kM}
def H_(h:¬now<T.tm)(b:r=.ok T2)(a:ru c.ka c.kb T2.lb T2.ll T2.tm text=Z):Hid (I2 c T now text r=.error 160):=by show _=_;unfold I2;rw[A? h,b];simp only[a]
variable{b:I}{l:E mV}
def R0(h:¬now<T.tm)(d:r=.ok T2)(a:ru c.ka c.kb T2.lb T2.ll T2.tm text=M (b,l)):Hid (I2 c T now text r=.ok {T2 with lb:=b,ll:=l}):=by show _=_;unfold I2;rw[A? h,d];simp only[a]
variable{C p:O->Prop}{K:jC->Prop}{g:O}{d:K? I kM}{er:I}{A GA LA:w? jG}{ms:E jZ}
def rb.no{w':jC}{cap f a:O}(h:Hid (d=.error er))(n:er≠0)(m:qP w p T A cap ms GA f LA a)(l:∀b,p b->b≠g/\¬C b/\b<w.heap.size)(k:Out (λb=>b=g\/C b) w w')(j:jR w' g 117 (xj c T A ms.length cap GA f LA a).toArray):rb w C K p g c T d (a? (c? o? er)) w':=by
 refine⟨k,?_⟩;rw[h.out];exact⟨rfl,n,A,cap,ms,GA,f,LA,a,j,m.out k λb j=>by have:=l b j;rintro(e|e);exact this.1 e;exact this.2.1 e⟩
def rb.yes{q A n:jC}{B:O}{z f Q t:w? jG}{a j J x:O}{r:E jZ}(h:Hid (d=.ok {T2 with lb:=b,ll:=l})) (H:K q) (R:Out (λb=>b=g\/C b) w n) (D:Out (λb=>b=g\/(w.heap.size<=b/\b<w.heap.size+3)) q n) (y:Out (λb=>b=g\/(w.heap.size<=b/\b<w.heap.size+3)) A n)(v:qP q (λb=>p b\/w.heap.size+3<=b) T2 z a r f j Q J) (G:∀b,p b->b≠g/\¬C b/\b<w.heap.size) (P:g<w.heap.size)(o:A.ownsRow B 59 4 (b? t l.length x) l.length (l.flatMap nE)) (V:w.heap.size+3<=B) (m:jR n g 117 (xj c {T2 with lb:=b,ll:=l} z r.length a f j t x).toArray):rb w C K p g c T d (a? (c? o? 0)) n:=by
 refine⟨R,?_⟩;rw[h.out];have k:=v.out D λb m e=>by
  rcases m with m|m
  .have:=G b m;omega
  omega
 obtain⟨W,X,e,N,L,F⟩:=li o
 cases e
 refine⟨rfl,⟨z,a,r,f,j,t,x,m,k.map,k.tab,k.OZ,k.cap,k.gb,k.XK,y.rd L λ_ s e Y=>?_,λ_ s e=>s? (by have:=F s e;omega),N⟩,q,H,D⟩;have:=F s e;omega
variable{W:jC}
def oB{bs:E (O×jH×E jD)}{P:bi3}{b:Func}{R:bi6->jC->Prop}{x:bk7}(F:jC->Prop)(H:kj X w0 W bs)(h:F W)(k:∀V,Hid (kj X w0 V bs)->F V->bodyPostD P b R x a V):bodyPostD P b R x a W:=k W (ah H) h
def zt(C:O->Prop)(K:jC->Prop)(p:O->Prop)(g:O)(c:lO)(T:kM)(now:I)(text:v?)(SA:w? jG)(sc:O)(f:bl9)(cap:x? jD)(r:K? I kM)(Δ:∀W,(callFunc f cap).run Tryz.prog W=.ok (.enter f cap) W)(hc:GC c) (hG:GT T.tb) (H:T.ll.length<=1000) (J:∀x∈T.ll,qL x/\x.text.size<=1000) (ρ:U T.lb) (hu:U now) (ht:text.size<=1000) (h4:4<=g)(φ:∀T2,r=.ok T2->T2.ll=T.ll/\T2.lb=T.lb/\T2.tm=now) (w:jC) (hT:Tb w) (h:kB w p g c T) (hp:∀b,p b->b≠g/\¬C b/\b<w.heap.size) (hC:∀b,C b->b<w.heap.size/\b≠g)(hS:Rd w w.heap.size SA [.func (.func f) #[] cap]) (γ:∀ad,SA=M ad->ad.block≠g)(hQ:∀W,Out (·=g) w W->w.heap.size+3<=W.heap.size->kB W (λb=>p b\/w.heap.size+3<=b) g c (ko c T now)->jE Tryz.prog f cap W (mM C K (λb=>p b\/w.heap.size+3<=b) g c r W)):jE Tryz.prog 68 #[.pointer (aC g),.int n? now,.string text,.slice SA 1 sc] w (rb w C K p g c T (I2 c T now text r)):=by
 have HQ:=ah hQ;have HRR:=ah φ;have HC:=ah hC;have HP:=ah hp;have ov:=ah h;have QC:Hid (∀W q,Out (·=g) w W->kB W q g c T->(∀b,q b->b≠g)->jE Tryz.prog 91 #[.pointer (aC g),jK now] W (qb W q g c T now)):=λW q ho h hq=>Ig q g c T now hG hu h4 W (hT.rH ho λb e=>jS) h hq;obtain⟨A,ξ,ms,GA,gc,LA,lc,h⟩:=h;have Ω:=h.blk.lt;have HL:=ah h.l;have H0:=ah (kj.one (·=g) (w:=w) rfl h.blk);obtain⟨sb,so,rfl,Γ,δ⟩:=hS lV;have Ξ:=γ _ rfl;have s0:=δ 0 _ rfl;clear δ h hQ φ hC hp hT hG γ;have HH:=ah (((H0.alloc w 82 [.pointer (aC g)])).alloc (w.heap.size+1) 49 [jJ 0]);simp only[xj]at HH;clear H0;go_enter_defers Tryz.func68,Tryz.ntmps68;go_wp2_with fail;refine kq (λV=>(cF w V)/\V.heap.size=w.heap.size+2) HH ⟨((Out.refl _ w).alloc _).alloc _,lV⟩ (λV d hV=>?_);clear HH;refine(qc _ _).mono ?_;rintro e w1⟨rfl,rfl⟩;obtain⟨η,XE⟩:=hV;have κ:=ah η;clear η;have x:=fk (d.facts);have HA:=ah (d.alloc (w.heap.size+2) 115 [cU A ms ξ,jK T.gn,jN GA T.gl gc,jK T.lb,jN LA T.ll lc,jK T.tm] XE.symm);have hmf:∀(fn:Fn)(first cap:x? jD)(w:jC),(gF fn first cap).run Tryz.prog w=.ok (.func fn first cap) w:=λ_ _ _ _=>rfl;go_wp2_with fail;refine kq (λV=>(cF w V)/\V.heap.size=w.heap.size+3) HA ⟨κ.alloc _,by simp[XE]⟩ (λV2 H2 Ψ=>?_);obtain⟨Ru,av5⟩:=Ψ;have WA:=ah (Ru.below aa λ_ h=>h.elim);clear x HA d κ XE Ru;refine(QC V2 p H2.out.out (ov.later WA) λb t=>(HP b t).1).mono ?_;rintro e w2⟨D,R,z⟩;have y:w.heap.size+2≠g/\w.heap.size+1≠g/\w.heap.size≠g:=jS;by_cases hn:now<T.tm
 .obtain⟨rfl,v0,v1,v2,v3,v4,v5,k⟩:=R hn;have F:=ah (H2.Dt 3 D (λb e=>r? e) (λb _ e=>e) k);have HN:=ah hn;clear R z D H2 k hn;simp only[ak,am]at F;have x:=fk (F.facts);have H4:=ah ((F.put 1 0 (.int o? 140)).put 1 0 (.int o? 140));simp only[ak,am]at H4;go_wp2_with fail;refine oB (λ_=>True) (H4.LZ (Y:=λb=>b=g\/C b) λb=>r?) trivial (λV9 H9 _=>?_);clear x H4 F;refine bl5 (f:=90) (args:=#[.pointer (M (aE w)),bF w,aV w]) lV (by simp[go_sem]) ?_;refine(qi _ _ _ g 140 c _ _ _ _ _ _ _ _ _ _ _ _ _ _ _ _ _ _ .returning V9 H9).mono ?_;rintro e u' w9⟨rfl,rfl,m,Up⟩;have hq:=m.at_ 1;simp only[kz,au,ao,I?]at hq;refine⟨.int o? 140,by simp[results,Tryz.results68,go_sem,hq],?_⟩;exact rb.no (HJ HN) B8 HL HP m.out (m.blk _ (ac 3)).2
 obtain⟨rfl,Me⟩:=z hn;have HN:=ah hn;have μ:=ah Me;obtain⟨A2,cap2,ms2,GA2,Mm,LA2,lc2,h2⟩:=Me;have F:=ah (H2.Dt 3 D (λb e=>r? e) (λb _ e=>e) h2.blk);have hs2:=D.size;clear R z D H2 h2 hn;simp only[xj,ko,ak,am]at F;have s2:=(F.out.out.cell (p:=⟨sb,so,Z⟩) Γ Ξ).trans s0;have x:=fk (F.facts);have H4:=ah (F.put 1 0 (.int o? 0));simp only[ak,am]at H4;clear s0;go_wp2_with fail;refine bj8 2 ?_;rw[bi9];go_wp2_with fail;have HOC:=ah F.out.out;refine kq (λV=>Out (λb=>b=w.heap.size+1) w2 V) H4 ((Out.refl (λb=>b=w.heap.size+1) w2).setCell (p:=(aE w)) (r? rfl) _) (λV3 H5 α=>?_);clear x H4 F s2;have hs3:=α.size;refine(HQ V3 H5.out.out jS ((μ.out.out α (λb t e=>by have:=HP.out b;rcases t with t|t;have:=(this t).2.2;omega;omega) jS).mono λb t=>t.imp id λe=>jS)).mono ?_;rintro e w4⟨Mg,hm⟩;have hs4:=Mg.size;have H6:=ah (H5.LZ (Y:=λb=>b=g\/C b) λb=>r?);clear H5 α μ HQ
 cases hr:r with
 |error er=>
  rw[hr]at hm;obtain⟨rfl,h0,v0,v1,v2,v3,v4,v5,k⟩:=hm;have HR:=ah hr;have G:=ah (H6.Dt 3 Mg (λb e=>r? e) (λb t y e=>e.elim y λe=>by
   have:=HC _ e;simp at t;rcases t with rfl|rfl|rfl|rfl<;>simp at this y<;>omega) k)
  clear H6 Mg k hr;simp only[ak,am]at G;have x:=fk (G.facts);have H8:=ah ((G.put 1 0 (.int o? er)).put 1 0 (.int o? er));simp only[ak,am]at H8;clear G;have χ:=ah h0;go_wp2_with fail;refine oB (λ_=>True) H8 trivial (λV9 H9 _=>?_);clear x H8;refine bl5 (f:=90) (args:=#[.pointer (M (aE w)),bF w,jO w]) lV (by simp[go_sem]) ?_;refine(qi _ _ _ g er c _ _ _ _ _ _ _ _ _ _ _ _ _ _ _ _ _ _ .returning V9 H9).mono ?_;rintro e u' w9⟨rfl,rfl,m,Up⟩;have hq:=m.at_ 1;simp only[kz,au,ao,I?]at hq;refine⟨.int o? er,by simp[results,Tryz.results68,go_sem,hq],?_⟩;exact rb.no (UI (iP.2 HN) HR) χ HL HP m.out (m.blk _ (cm (i:=3) (by rw[LF,A? χ];rfl))).2
 |ok T2=>
  rw[hr]at hm;obtain⟨rfl,Z0,v⟩:=hm;obtain⟨β,θ,ψ⟩:=HRR T2 hr;have HK:=ah v;have HR:=ah hr;obtain⟨A4,cap4,ZZ,GA4,gc4,Lq,QX,Uw⟩:=Z0;have Lu:=ah Uw.l;have QA:Hid (∀W,Eb W W Lq T2.ll->jE Tryz.prog 92 #[g? #[jK c.ka,jK c.kb],g? #[jK T2.lb,jN Lq T2.ll QX],jK T2.tm,jL text] W (pQ W (ru c.ka c.kb T2.lb T2.ll T2.tm text))):=λW hW=>
   Bq c.ka c.kb T2.lb T2.tm text Lq T2.ll QX (by rw[β];exact H) Uw.l.GJ (by rw[θ];exact ρ) (by rw[ψ];exact hu) ht (by rw[β];exact J) W hW
  have G:=ah (H6.Dt 3 Mg (λb e=>r? e) (λb t y e=>e.elim y λe=>by
   have:=HC _ e;simp at t;rcases t with rfl|rfl|rfl|rfl<;>simp at this y<;>omega) Uw.blk)
  clear H6 Mg Uw hr v β θ ψ J H ρ hu ht;simp only[xj,ak,am]at G;have x:=fk (G.facts);have H8:=ah (G.put 1 0 (.int o? 0));simp only[ak,am]at H8;clear G;go_wp2_with fail;rw[bi9];go_wp2_with fail;refine oO (λV=>Out (λb=>b=w.heap.size+1) w4 V) H8 ((Out.refl (λb=>b=w.heap.size+1) w4).setCell (p:=(aE w)) (r? rfl) _) (λV d Mf=>?_);clear x H8;have x:=fk (d.facts);have BC:=ah Mf.drew;have hs5:=Mf.size;clear Mf;replace d:=ah d.drew;have Θ:Hid (Eb V.drew V.drew.heap.size Lq T2.ll):=BC.rd Lu.eb λe ad h(e5:ad.block=w.heap.size+1)=>by
   rcases Lu.UG (flat_nil e) ad h with a|a
   .have:=(HP _ a).2.2;omega
   omega
  have k0:=(d.blk _ (ac 2)).2.cell 0;have X:=(d.blk _ (ac 3)).2.cell 9;have k2:=(d.blk _ (ac 3)).2.cell 10;have L:=(d.blk _ (ac 3)).2.cell 3;have k4:=(d.blk _ (ac 3)).2.cell 4;have N:=(d.blk _ (ac 3)).2.cell 5;have AQ:w.heap.size+3<=V.drew.heap.size:=by show _<=V.heap.size;omega
  have ω:=(d.blk _ (ac 2)).2.lt;have EG:=(d.blk _ (ac 3)).2.lt;clear x Δ;refine Gm ?_;refine kG (S:=(λw'=>w'.cell? ⟨w,0,Z⟩=M (.pointer (aC g))/\w'.cell? ⟨g,9,Z⟩=M (.int n? c.ka)/\w'.cell? ⟨g,10,Z⟩=M (.int n? c.kb)/\w'.cell? ⟨g,3,Z⟩=M (.int n? T2.lb)/\w'.cell? ⟨g,4,Z⟩=M (.slice Lq T2.ll.length QX)/\w'.cell? ⟨g,5,Z⟩=M (.int n? T2.tm))) (s:=23) oo ?_;refine sU ⟨k0,X,k2,L,k4,N⟩ ?_;generalize V.drew=V2 at*;refine oY 16 λK v=>?_;go_simp;refine(QA V2 Θ).mono ?_;rintro e w6⟨j,n⟩;have hs6:=j.size;have Td:=ah (BC.call j);replace d:=ah (d.call j);replace k0:=(j.cell (p:=⟨w,0,Z⟩) ω).trans k0;replace X:=(j.cell (p:=⟨g,9,Z⟩) EG).trans X;replace k2:=(j.cell (p:=⟨g,10,Z⟩) EG).trans k2;replace L:=(j.cell (p:=⟨g,3,Z⟩) EG).trans L;replace k4:=(j.cell (p:=⟨g,4,Z⟩) EG).trans k4;replace N:=(j.cell (p:=⟨g,5,Z⟩) EG).trans N
  cases ha:ru c.ka c.kb T2.lb T2.ll T2.tm text with
  |none=>
   rw[ha]at n;subst n;have xa:=ah ha;refine v.out _ _ (λ_=>⟨k0,X,k2,L,k4,N⟩) ?_;refine az ?_;refine sU ⟨k0,X,k2,L,k4,N⟩ ?_;have x:=fk (d.facts);refine oY 23 λK v=>?_;go_simp;refine v.out _ _ (λh=>qch) ?_;refine az ?_;refine oY 24 λK v=>?_;go_simp;refine v.out _ _ (λh=>qch) ?_;refine az ?_;refine yi ?_;refine zh ?_;have HZ:=ah ((((d.put 3 3 (.int n? 0)).put 3 4 aO).put 1 0 (.int o? 160)).put 1 0 (.int o? 160));simp only[ak,am]at HZ;go_wp2_with fail;refine oB (λ_=>True) HZ trivial (λV9 H9 _=>?_);refine bl5 (f:=90) (args:=#[.pointer (M (aE w)),bF w,jO w]) lV (by simp[go_sem]) ?_;refine(qi _ _ _ g 160 c _ _ _ _ _ _ _ _ _ _ _ _ _ _ _ _ _ _ .returning V9 H9).mono ?_;rintro e u' w9⟨rfl,rfl,m,Up⟩;have hq:=m.at_ 1;simp only[kz,au,ao,I?]at hq;refine⟨.int o? 160,by simp[results,Tryz.results68,go_sem,hq],?_⟩;exact rb.no (H_ (iP.2 HN) HR xa) B8 HL HP m.out (m.blk _ (ac 3)).2
  |some bl=>
   obtain⟨b,l⟩:=bl;rw[ha]at n;obtain⟨A9,c9,rfl,ν⟩:=n;have xa:=ah ha;have ε:=ah ν;refine v.out _ _ (λ_=>⟨k0,X,k2,L,k4,N⟩) ?_;refine az ?_;refine sU ⟨k0,X,k2,L,k4,N⟩ ?_;have x:=fk (d.facts);refine oY 23 λK v=>?_;go_simp;refine v.out _ _ (λh=>qch) ?_;refine az ?_;refine oY 24 λK v=>?_;go_simp;refine v.out _ _ (λh=>qch) ?_;refine az ?_;refine yi ?_;refine zh ?_;have HZ:=ah ((((d.put 3 3 (.int n? b)).put 3 4 (.slice A9 l.length c9)).put 1 0 (.int o? 0)).put 1 0 (.int o? 0));simp only[ak,am]at HZ;go_wp2_with fail;refine oB (λV=>Out (λb=>b=g\/(w.heap.size<=b/\b<w.heap.size+3)) w6 V) HZ (((((Out.refl _ w6).setCell (p:=⟨g,3,Z⟩) (r? (r? rfl)) _).setCell (p:=⟨g,4,Z⟩) (r? (r? rfl)) _).setCell (p:=(aE w)) (r? (s? lV)) _).setCell (p:=(aE w)) (r? (s? lV)) _) (λV9 H9 mB=>?_);refine bl5 (f:=90) (args:=#[.pointer (M (aE w)),bF w,jO w]) lV (by simp[go_sem]) ?_;refine(qi _ _ _ g 0 c _ _ _ _ _ _ _ _ _ _ _ _ _ _ _ _ _ _ .returning V9 H9).mono ?_;rintro e u' w9⟨rfl,rfl,m,Up⟩;have hq:=m.at_ 1;simp only[kz,au,ao,I?]at hq;refine⟨.int o? 0,by simp[results,Tryz.results68,go_sem,hq],?_⟩;obtain rfl:=Up rfl;exact rb.yes (R0 (iP.2 HN) HR xa) HK m.out ((Td.mono λb _ e=>s? jS).trans mB) mB Lu HP Ω ε AQ (m.blk _ (ac 3)).2
def UK(p:O->Prop)(g:O)(c:lO)(T:kM)(now:I)(text:v?)(SA:w? jG)(sc:O)(hc:GC c) (hG:GT T.tb) (α:T.ll.length<=1000) (δ:∀x∈T.ll,qL x/\x.text.size<=1000) (μ:U T.lb) (hu:U now) (ht:text.size<=1000) (h4:4<=g)(w:jC) (hT:Tb w) (h:kB w p g c T) (hp:∀b,p b->b≠g/\b<w.heap.size):jE Tryz.prog 68 #[jO g,jK now,jL text,b? SA 0 sc] w (rb w (λ_=>False) (λ_=>True) p g c T (I2 c T now text (.ok (ko c T now)))):=by
 have HP:Hid (∀b,p b->b≠g/\¬(λ_=>False) b/\b<w.heap.size):=λb J=>⟨(hp b J).1,id,(hp b J).2⟩;have ov:=ah h;have QC:Hid (∀W q,Out (·=g) w W->kB W q g c T->(∀b,q b->b≠g)->jE Tryz.prog 91 #[jO g,jK now] W (qb W q g c T now)):=λW q ho h hq=>Ig q g c T now hG hu h4 W (hT.rH ho λb e=>jS) h hq;obtain⟨A,γ,ms,GA,gc,LA,lc,h⟩:=h;have ρ:=h.blk.lt;have HL:=ah h.l;have H0:=ah (kj.one (·=g) (w:=w) rfl h.blk);have HH:=ah (((H0.alloc w 82 [jO g])).alloc (w.heap.size+1) 49 [jJ 0]);simp only[xj]at HH;go_enter_defers Tryz.func68,Tryz.ntmps68;go_wp2_with fail;refine kq (λV=>(cF w V)/\V.heap.size=w.heap.size+2) HH ⟨((Out.refl _ w).alloc _).alloc _,lV⟩ (λV j hV=>?_);refine(qc _ _).mono ?_;rintro e w1⟨rfl,rfl⟩;obtain⟨θ,XE⟩:=hV;have ξ:=ah θ;have x:=fk (j.facts);have HA:=ah (j.alloc (w.heap.size+2) 115 [jN A ms γ,jK T.gn,jN GA T.gl gc,jK T.lb,jN LA T.ll lc,jK T.tm] XE.symm);have Γ:∀(fn:Fn)(first cap:x? jD)(w:jC),(gF fn first cap).run Tryz.prog w=.ok (k? fn first cap) w:=λ_ _ _ _=>rfl;go_wp2_with fail;refine kq (λV=>(cF w V)/\V.heap.size=w.heap.size+3) HA ⟨ξ.alloc _,by simp[XE]⟩ (λV2 H2 κ=>?_);obtain⟨Ru,Δ⟩:=κ;have WA:=Ru.below aa λ_ h=>h.elim;refine(QC V2 p H2.out.out (ov.later WA) λb J=>(HP b J).1).mono ?_;rintro e w2⟨F,η,N⟩;have Ψ:w.heap.size+2≠g/\w.heap.size+1≠g/\w.heap.size≠g:=jS;by_cases hn:now<T.tm
 .obtain⟨rfl,v0,v1,v2,v3,v4,v5,β⟩:=η hn;have H3:=aT (ah (H2.Dt 3 F (λb e=>r? e) (λb _ e=>e) β));have HN:=ah hn;have x:=fk (H3.facts);have H4:=aT (ah ((H3.put 1 0 (c? o? 140)).put 1 0 (c? o? 140)));go_wp2_with fail;refine oB (λ_=>True) (H4.LZ (Y:=λb=>b=g\/(λ_=>False) b) λb=>r?) trivial (λL H9 _=>?_);refine bl5 (f:=90) (args:=#[e? (M (aE w)),bF w,jO w]) lV (by simp[go_sem]) ?_;refine(qi _ _ _ g 140 c _ _ _ _ _ _ _ _ _ _ _ _ _ _ _ _ _ _ .returning L H9).mono ?_;rintro e u' w9⟨rfl,rfl,n,Up⟩;have hq:=fk (n.at_ 1);refine⟨c? o? 140,by simp[results,Tryz.results68,go_sem,hq],?_⟩;exact rb.no (HJ HN) B8 HL HP n.out (n.blk _ (ac 3)).2
 obtain⟨rfl,Me⟩:=N hn;have HN:=ah hn;obtain⟨A4,φ,ZZ,ω,Θ,G,QX,Uw⟩:=Me;have Lu:=ah (Uw.l.mono (q:=λb=>p b\/w.heap.size+3<=b) λb J=>J.imp id λe=>jS);have QA:Hid (∀W,Eb W W G (ko c T now).ll->jE Tryz.prog 92 #[g? #[jK c.ka,jK c.kb],g? #[jK (ko c T now).lb,b? G (ko c T now).ll.length QX],jK (ko c T now).tm,jL text] W (pQ W (ru c.ka c.kb (ko c T now).lb (ko c T now).ll (ko c T now).tm text))):=λW hW=>
  Bq c.ka c.kb T.lb now text G T.ll QX α Uw.l.GJ μ hu ht δ W hW
 have H7:=ah ((H2.Dt 3 F (λb e=>r? e) (λb _ e=>e) Uw.blk).LZ (Y:=λb=>b=g\/(λ_=>False) b) λb=>r?);have Ξ:=F.size;generalize ν:ko c T now=T2 at*;have HR:=ah ν;have HK:Hid True:=trivial;simp only[xj,ak,am]at H7;have x:=fk (H7.facts);have H8:=aT (ah (H7.put 1 0 (c? o? 0)));go_wp2_with fail;refine bj8 1 ?_;rw[bi9];go_wp2_with fail;refine oO (λV=>Out (λb=>b=w.heap.size+1) w2 V) H8 ((Out.refl (λb=>b=w.heap.size+1) w2).setCell (p:=(aE w)) (r? rfl) _) (λV j Mf=>?_);have x:=fk (j.facts);have BC:=ah Mf.drew;have χ:=Mf.size;clear Mf;replace j:=ah j.drew;have X:Hid (Eb V.drew V.drew.heap.size G T2.ll):=BC.rd Lu.eb λe ad h(e5:ad.block=w.heap.size+1)=>by
  rcases Lu.UG (flat_nil e) ad h with a|a
  .have:=(HP _ a).2.2;omega
  omega
 have y:V.drew.cell? ⟨w,0,Z⟩=M (e? (aC g)):=(j.blk _ (ac 2)).2.cell 0;have v:V.drew.cell? ⟨g,9,Z⟩=M (c? n? c.ka):=(j.blk _ (ac 3)).2.cell 9;have z:V.drew.cell? ⟨g,10,Z⟩=M (c? n? c.kb):=(j.blk _ (ac 3)).2.cell 10;have r:V.drew.cell? ⟨g,3,Z⟩=M (c? n? T2.lb):=(j.blk _ (ac 3)).2.cell 3;have C:V.drew.cell? ⟨g,4,Z⟩=M (b? G T2.ll.length QX):=(j.blk _ (ac 3)).2.cell 4;have t:V.drew.cell? ⟨g,5,Z⟩=M (c? n? T2.tm):=(j.blk _ (ac 3)).2.cell 5;have AQ:w.heap.size+3<=V.drew.heap.size:=by show _<=V.heap.size;omega
 have ε:w.heap.size<V.drew.heap.size:=(j.blk _ (ac 2)).2.lt;have EG:g<V.drew.heap.size:=(j.blk _ (ac 3)).2.lt;clear x;refine Gm ?_;refine kG (S:=(λw'=>w'.cell? ⟨w,0,Z⟩=M (e? (aC g))/\w'.cell? ⟨g,9,Z⟩=M (c? n? c.ka)/\w'.cell? ⟨g,10,Z⟩=M (c? n? c.kb)/\w'.cell? ⟨g,3,Z⟩=M (c? n? T2.lb)/\w'.cell? ⟨g,4,Z⟩=M (b? G T2.ll.length QX)/\w'.cell? ⟨g,5,Z⟩=M (c? n? T2.tm))) (s:=23) (by kernel_rfl) ?_;refine sU ⟨y,v,z,r,C,t⟩ ?_;generalize V.drew=V2 at*;refine oY 16 λK k=>?_;go_simp;refine(QA V2 X).mono ?_;rintro e w6⟨d,m⟩;have ψ:=d.size;have Td:Hid (Out (λb=>b=w.heap.size+1) w2 w6):=BC.call d;replace j:=ah (j.call d);replace y:=(d.cell (p:=⟨w,0,Z⟩) ε).trans y;replace v:=(d.cell (p:=⟨g,9,Z⟩) EG).trans v;replace z:=(d.cell (p:=⟨g,10,Z⟩) EG).trans z;replace r:=(d.cell (p:=⟨g,3,Z⟩) EG).trans r;replace C:=(d.cell (p:=⟨g,4,Z⟩) EG).trans C;replace t:=(d.cell (p:=⟨g,5,Z⟩) EG).trans t;clear d X QA BC
 cases H:ru c.ka c.kb T2.lb T2.ll T2.tm text with
 |none=>
  rw[H]at m;subst m;have xa:=ah H;clear H;refine k.out _ _ (λ_=>⟨y,v,z,r,C,t⟩) ?_;clear k K;refine az ?_;refine sU ⟨y,v,z,r,C,t⟩ ?_;clear y v z r C t;have x:=fk (j.facts);refine oY 23 λK k=>?_;go_simp;refine k.out _ _ (λh=>by cases h) ?_;clear k K;refine az ?_;refine oY 24 λK k=>?_;go_simp;refine k.out _ _ (λh=>by cases h) ?_;clear k K;refine az ?_;refine yi ?_;refine zh ?_;have HZ:=aT (ah ((((j.put 3 3 (c? n? 0)).put 3 4 aO).put 1 0 (c? o? 160)).put 1 0 (c? o? 160)));go_wp2_with fail;refine oB (λ_=>True) HZ trivial (λL H9 _=>?_);clear x HZ;refine bl5 (f:=90) (args:=#[e? (M (aE w)),bF w,jO w]) (by simp) (by simp[go_sem]) ?_;refine(qi _ _ _ g 160 c _ _ _ _ _ _ _ _ _ _ _ _ _ _ _ _ _ _ .returning L H9).mono ?_;rintro e u' w9⟨rfl,rfl,n,Up⟩;have hq:=fk (n.at_ 1);refine⟨c? o? 160,by simp[results,Tryz.results68,go_sem,hq],?_⟩;exact rb.no (H_ (iP.2 HN) (C? Except.ok HR) xa) (by decide) HL HP n.out (n.blk _ (ac 3)).2
 |some bl=>
  obtain⟨b,l⟩:=bl;rw[H]at m;obtain⟨A9,c9,rfl,D⟩:=m;have xa:=ah H;have R:=ah D;clear H D;refine k.out _ _ (λ_=>⟨y,v,z,r,C,t⟩) ?_;clear k K;refine az ?_;refine sU ⟨y,v,z,r,C,t⟩ ?_;clear y v z r C t;have x:=fk (j.facts);refine oY 23 λK k=>?_;go_simp;refine k.out _ _ (λh=>by cases h) ?_;clear k K;refine az ?_;refine oY 24 λK k=>?_;go_simp;refine k.out _ _ (λh=>by cases h) ?_;clear k K;refine az ?_;refine yi ?_;refine zh ?_;have HZ:=aT (ah ((((j.put 3 3 (c? n? b)).put 3 4 (b? A9 l.length c9)).put 1 0 (c? o? 0)).put 1 0 (c? o? 0)));go_wp2_with fail;refine oB (λV=>Out (λb=>b=g\/(w.heap.size<=b/\b<w.heap.size+3)) w6 V) HZ (((((Out.refl _ w6).setCell (p:=⟨g,3,Z⟩) (r? (r? rfl)) _).setCell (p:=⟨g,4,Z⟩) (r? (r? rfl)) _).setCell (p:=(aE w)) (r? (s? (by simp))) _).setCell (p:=(aE w)) (r? (s? (by simp))) _) (λL H9 mB=>?_);clear x HZ;refine bl5 (f:=90) (args:=#[e? (M (aE w)),bF w,jO w]) (by simp) (by simp[go_sem]) ?_;refine(qi _ _ _ g 0 c _ _ _ _ _ _ _ _ _ _ _ _ _ _ _ _ _ _ .returning L H9).mono ?_;rintro e u' w9⟨rfl,rfl,n,Up⟩;have hq:=fk (n.at_ 1);refine⟨c? o? 0,by simp[results,Tryz.results68,go_sem,hq],?_⟩;obtain rfl:=Up rfl;exact rb.yes (R0 (iP.2 HN) (C? Except.ok HR) xa) HK n.out ((Td.mono λb _ e=>s? (by omega)).trans mB) mB Lu HP ρ R AQ (n.blk _ (ac 3)).2
variable{q:O->Prop}
def mM.no{a:jC}(h:r=.error er)(d:Out (λb=>b=g\/C b) W a)(e:er≠0)(f:rv a g c):mM C K q g c r W (a? (c? o? er)) a:=⟨d,by rw[h];exact⟨rfl,e,f⟩⟩
def mM.yes{a:jC}(h:r=.ok T2)(e:Out (λb=>b=g\/C b) W a)(f:kB a q g c T2)(d:K a):mM C K q g c r W (a? (c? o? 0)) a:=⟨e,by rw[h];exact⟨rfl,f,d⟩⟩
def qP.VX{l k:jC}{A2:w? jG}{cap C r c2 B:O}(h:qP w p T A cap ms GA C LA r)(s:∀b,p b->¬X b)(z:Out X w k)(n:Out X l k)(o:T2.tb=T.tb) (c:T2.ll=T.ll) (m:Gb l l A2 T2.gl) (g:∀d,A2=M d->B<=d.block) (v:∀b,X b->b<B) (j:∀b,p b->q b) (y:∀b,B<=b->q b):qP k q T2 A cap ms A2 c2 LA r:=by
 have f:=h.out z s;refine⟨by rw[o];exact f.map,f.tab,f.OZ.mono j,f.cap,n.rd m λ_ d e t=>?_,λ_ d e=>y _ (g d e),?_,?_,?_⟩
 .have:=g d e;have:=v _ t;omega
 .rw[c];exact f.eb
 .rw[c];exact λx a e=>j _ (h.UG x a e)
 rw[c];exact h.GJ
variable{l:E Gr}
def JE{id:I}(h:lr l id=.error er):er≠0:=by
 unfold lr at h;split at h<;>first|(cases h;done)|(cases h;decide)|(split at h<;>cases h<;>decide)
def PV(q:O->Prop)(g:O)(c:lO)(T:kM)(C y:O)(id:I)(hG:GG T.gn T.gl)(h4:4<=g)(w:jC)(hT:Tb w)(ht:w.cell? ⟨C,0,Z⟩=M (e? (aC g)))(hi:(bI w y id))(h:kB w q g c T)(hq:∀b,q b->b≠g):jE Tryz.prog 82 #[jO C,jO y] w (mM (λ_=>False) (λ_=>True) (λb=>q b\/w.heap.size<=b) g c ((lr T.gl id).map λl=>{T with gl:=l}) w):=by
 obtain⟨A,cap,ms,GA,X,LA,lc,h⟩:=h;have J:=h.blk.lt;have HL:=ah h.l;have HP:=ah hq;have Q:Hid (∀W,Out (λb=>b=g\/(λ_=>False) b) w W->jE Tryz.prog 83 #[g? #[jK T.gn,jN GA T.gl X],jK id] W (ue W T.gn (lr T.gl id))):=λW ho=>
  Hb T.gn GA T.gl X id hG W (hT.rH ho λb e=>e.elim (λe=>jS) False.elim) (h.l.out ho λb hb e=>e.elim (hq b hb) λe=>e).gb
 have D:=b8 w _ ht;have L:=b8 w _ hi;have H0:=ah (kj.one (λb=>b=g\/(λ_=>False) b) (w:=w) (r? rfl) h.blk);simp only[xj]at H0 D L;obtain⟨-,c1,c2,-⟩:=h.cells;clear h hq hT hG;go_in;go_wp2_with fail;refine oO (λV=>V=w) H0 rfl (λV k hV=>?_);subst hV;have t:V.drew.cell? ⟨C,0,Z⟩=M (e? (aC g)):=ht;have r:V.drew.cell? ⟨y,0,Z⟩=M (c? n? id):=hi;have v:V.drew.cell? ⟨g,1,Z⟩=M (c? n? T.gn):=c1;have n:V.drew.cell? ⟨g,2,Z⟩=M (b? GA T.gl.length X):=c2;replace k:=ah k.drew;have Y:C<V.drew.heap.size:=D;have δ:y<V.drew.heap.size:=L;have β:g<V.drew.heap.size:=J;have α:g<V.drew.heap.size:=J;clear ht hi c1 c2 H0;refine kG (S:=(λw'=>w'.cell? ⟨C,0,Z⟩=M (e? (aC g))/\(bI w' y id)/\w'.cell? ⟨g,1,Z⟩=M (c? n? T.gn)/\w'.cell? ⟨g,2,Z⟩=M (b? GA T.gl.length X))) (s:=14) oo ?_;refine sU ⟨t,r,v,n⟩ ?_;generalize F:V.drew=V2 at*;have Zb:V.heap.size<=V2.heap.size:=by rw[<-F];exact ay _
 clear F;refine oY 7 λK m=>?_;go_simp;refine(Q V2 k.out.out).mono ?_;rintro e w6⟨d,f⟩;have η:=d.size;have Td:Hid (Out (λb=>b=g\/(λ_=>False) b) V w6):=k.out.out.call d;replace k:=ah (k.call d);replace t:=(d.cell (p:=⟨C,0,Z⟩) Y).trans t;replace r:=(d.cell (p:=⟨y,0,Z⟩) δ).trans r;replace v:=(d.cell (p:=⟨g,1,Z⟩) β).trans v;replace n:=(d.cell (p:=⟨g,2,Z⟩) α).trans n;clear d
 cases j:lr T.gl id with
 |error er=>
  rw[j]at f;subst f;have R:=ah j;clear j;refine m.out _ _ (λ_=>⟨t,r,v,n⟩) ?_;clear m K;refine az ?_;refine sU ⟨t,r,v,n⟩ ?_;clear t r v n;have x:=fk (k.facts);refine oY 14 λK m=>?_;go_simp;refine m.out _ _ (λh=>qch) ?_;clear m K;refine az ?_;refine MZ ?_;refine yi ?_;have N:=aT (ah ((k.put 0 1 (c? n? 0)).put 0 2 aO));go_wp2_with fail;refine kh (λ_=>True) N trivial (λV9 z _=>?_);clear x N k;go_ret;exact mM.no (by rw[R];rfl) z.out.out (JE R) ⟨_,_,_,_,_,_,(z.blk _ ab).2⟩
 |ok l=>
  rw[j]at f;obtain⟨A2,c2,rfl,θ,G,H⟩:=f;have R:=ah j;have γ:=ah G;have ε:=ah H;clear j G H;refine m.out _ _ (λ_=>⟨t,r,v,n⟩) ?_;clear m K;refine az ?_;refine sU ⟨t,r,v,n⟩ ?_;clear t r v n;have x:=fk (k.facts);refine oY 14 λK m=>?_;go_simp;refine m.out _ _ (λh=>qch) ?_;clear m K;refine az ?_;refine MZ ?_;refine yi ?_;have N:=aT (ah ((k.put 0 1 (c? n? T.gn)).put 0 2 (b? A2 l.length c2)));go_wp2_with fail;refine kh (λV=>Out (λb=>b=g\/(λ_=>False) b) w6 V) N (((Out.refl _ w6).setCell (p:=⟨g,1,Z⟩) (r? (r? rfl)) _).setCell (p:=⟨g,2,Z⟩) (r? (r? rfl)) _) (λV9 z mB=>?_);clear x N k;go_ret;exact mM.yes (T2:={T with gl:=l}) (by rw[R];rfl) z.out.out ⟨A,cap,ms,A2,c2,LA,lc,(z.blk _ ab).2,HL.VX (λb hb e=>e.elim (HP b hb) False.elim) z.out.out mB rfl rfl γ ε (λb e=>e.elim (λe=>jS) False.elim) (λb=>r?) (λb e=>s? jS)⟩ trivial
variable{sc:v?}
def NO{n:I}{to:I}(h:lW n l to sc=.error er):er≠0:=by
 unfold lW at h;split at h<;>first|(cases h;done)|(cases h;decide)|(split at h<;>cases h<;>decide)
def kj.more{bs:E (O×jH×E jD)}{t:jH}{cs:E jD}(h:kj X w0 w bs)(e:X g)(d:jR w g t cs.toArray)(c:∀b∈bs,g≠b.1):kj X w0 w ((g,t,cs)::bs):=
 ⟨h.out,λb a=>by rcases cw.1 a with rfl|a;exact⟨r? e,d⟩;exact h.blk b a,b6.2 ⟨c,h.apart⟩⟩
def Kw(q:O->Prop)(g:O)(c:lO)(T:kM)(R L N cb:O)(to v:I)(sc:v?)(hG:GG T.gn T.gl)(hs:sc.size<=1000)(h4:4<=g)(Γ:4<=cb)(w:jC)(hT:Tb w)(ht:w.cell? ⟨R,0,Z⟩=M (e? (aC g)))(hi:(bI w L to))(G:w.cell? ⟨N,0,Z⟩=M (f? sc))(J:jR w cb 22 #[jK v])(h:kB w q g c T)(hq:∀b,q b->b≠g/\b≠cb)(κ:cb≠g):jE Tryz.prog 80 #[jO R,jO L,jO N,jO cb] w (mM (λb=>b=cb) (λW=>∀r,lW T.gn T.gl to sc=.ok r->W.cell? ⟨cb,0,Z⟩=M (c? n? r.2.2)) (λb=>q b\/w.heap.size<=b) g c ((lW T.gn T.gl to sc).map λr=>{T with gn:=r.1,gl:=r.2.1}) w):=by
 obtain⟨A,cap,ms,GA,gc,LA,lc,h⟩:=h;have ε:=h.blk.lt;have Δ:=J.lt;have HL:=ah h.l;have HP:=ah hq;have Q:Hid (∀W,Out (λb=>b=g\/b=cb) w W->jE Tryz.prog 81 #[g? #[jK T.gn,jN GA T.gl gc],jK to,jL sc] W (rA W (lW T.gn T.gl to sc))):=λW ho=>
  NP T.gn GA T.gl gc to sc hG hs W (hT.rH ho λb e=>by rcases e with e|e<;>omega) (h.l.out ho λb F e=>e.elim (hq b F).1 (hq b F).2).gb
 have X:=b8 w _ ht;have η:=b8 w _ hi;have δ:=b8 w _ G;have H0:=ah ((kj.one (λb=>b=g\/b=cb) (w:=w) (r? rfl) h.blk).more (s? rfl) (cs:=[jK v]) J (λb F=>by simp at F;rw[F];exact κ));simp only[xj]at H0 X η δ;obtain⟨-,c1,c2,-⟩:=h.cells;clear h hq hT hG J;go_in;go_wp2_with fail;refine oO (λV=>V=w) H0 rfl (λV m hV=>?_);subst hV;have z:V.drew.cell? ⟨R,0,Z⟩=M (e? (aC g)):=ht;have y:V.drew.cell? ⟨L,0,Z⟩=M (c? n? to):=hi;have C:V.drew.cell? ⟨N,0,Z⟩=M (f? sc):=G;have t:V.drew.cell? ⟨g,1,Z⟩=M (c? n? T.gn):=c1;have D:V.drew.cell? ⟨g,2,Z⟩=M (b? GA T.gl.length gc):=c2;replace m:=ah m.drew;have θ:R<V.drew.heap.size:=X;have φ:L<V.drew.heap.size:=η;have ξ:N<V.drew.heap.size:=δ;have μ:g<V.drew.heap.size:=ε;have ν:g<V.drew.heap.size:=ε;clear ht hi G c1 c2 H0;refine kG (S:=(λw'=>w'.cell? ⟨R,0,Z⟩=M (e? (aC g))/\(bI w' L to)/\w'.cell? ⟨N,0,Z⟩=M (f? sc)/\w'.cell? ⟨g,1,Z⟩=M (c? n? T.gn)/\w'.cell? ⟨g,2,Z⟩=M (b? GA T.gl.length gc))) (s:=16) oo ?_;refine sU ⟨z,y,C,t,D⟩ ?_;generalize α:V.drew=V2 at*;have Zb:V.heap.size<=V2.heap.size:=by rw[<-α];exact ay _
 clear α;refine oY 8 λK f=>?_;go_simp;refine(Q V2 m.out.out).mono ?_;rintro e w6⟨d,j⟩;have ψ:=d.size;have Td:Hid (Out (λb=>b=g\/b=cb) V w6):=m.out.out.call d;replace m:=ah (m.call d);replace z:=(d.cell (p:=⟨R,0,Z⟩) θ).trans z;replace y:=(d.cell (p:=⟨L,0,Z⟩) φ).trans y;replace C:=(d.cell (p:=⟨N,0,Z⟩) ξ).trans C;replace t:=(d.cell (p:=⟨g,1,Z⟩) μ).trans t;replace D:=(d.cell (p:=⟨g,2,Z⟩) ν).trans D;clear d
 cases k:lW T.gn T.gl to sc with
 |error er=>
  rw[k]at j;subst j;have Y:=ah k;clear k;refine f.out _ _ (λ_=>⟨z,y,C,t,D⟩) ?_;clear f K;refine az ?_;refine sU ⟨z,y,C,t,D⟩ ?_;clear z y C t D;have x:=fk (m.facts);refine oY 16 λK f=>?_;go_simp;refine f.out _ _ (λh=>qch) ?_;clear f K;refine az ?_;refine oY 17 λK f=>?_;go_simp;refine f.out _ _ (λh=>qch) ?_;clear f K;refine az ?_;refine MZ ?_;refine yi ?_;have HZ:=aT (ah (((m.put 1 1 (c? n? 0)).put 1 2 aO).put 0 0 (c? n? 0)));go_wp2_with fail;refine kh (λ_=>True) HZ trivial (λV9 H _=>?_);clear x HZ m;go_ret;exact mM.no (by rw[Y];rfl) H.out.out (NO Y) ⟨_,_,_,_,_,_,(H.blk _ (ac 1)).2⟩
 |ok r=>
  obtain⟨n,l,id⟩:=r;rw[k]at j;obtain⟨A2,c2,rfl,ω,β,γ⟩:=j;have Y:=ah k;have ρ:=ah β;have χ:=ah γ;clear k β γ;refine f.out _ _ (λ_=>⟨z,y,C,t,D⟩) ?_;clear f K;refine az ?_;refine sU ⟨z,y,C,t,D⟩ ?_;clear z y C t D;have x:=fk (m.facts);refine oY 16 λK f=>?_;go_simp;refine f.out _ _ (λh=>qch) ?_;clear f K;refine az ?_;refine oY 17 λK f=>?_;go_simp;refine f.out _ _ (λh=>qch) ?_;clear f K;refine az ?_;refine MZ ?_;refine yi ?_;have HZ:=aT (ah (((m.put 1 1 (c? n? n)).put 1 2 (b? A2 l.length c2)).put 0 0 (c? n? id)));go_wp2_with fail;refine kh (λV=>Out (λb=>b=g\/b=cb) w6 V) HZ ((((Out.refl _ w6).setCell (p:=⟨g,1,Z⟩) (r? (r? rfl)) _).setCell (p:=⟨g,2,Z⟩) (r? (r? rfl)) _).setCell (p:=⟨cb,0,Z⟩) (r? (s? rfl)) _) (λV9 H mB=>?_);clear x HZ m;go_ret;exact mM.yes (T2:={T with gn:=n,gl:=l}) (by rw[Y];rfl) H.out.out ⟨A,cap,ms,A2,c2,LA,lc,(H.blk _ (ac 1)).2,HL.VX (λb F e=>e.elim (HP b F).1 (HP b F).2) H.out.out mB rfl rfl ρ χ (λb e=>by rcases e with e|e<;>omega) (λb=>r?) (λb e=>s? jS)⟩ (λr hr=>by
   rw[Y]at hr
   cases hr
   exact(H.blk _ (ac 0)).2.cell 0)
structure ScB(x0:jC) where
def cB(a:jC):ScB a:=⟨⟩
instance(x0:jC):CoeOut (ScB x0) jG:=⟨λ_=>⟨x0.heap.size+3,0,Z⟩⟩
variable{l:E kI}
def Q3(h:l≠[]):k_ l≠[]:=λe=>by
 have:=sj l;rw[e]at this;exact h (da (by simp at this;omega))
def kB.lt(h:kB w p g c T):kB w (λb=>p b/\b<w.heap.size) g c T:=by
 obtain⟨A,cap,ms,GA,o,LA,n,h⟩:=h;refine⟨A,cap,ms,GA,o,LA,n,h.blk,h.l.map,h.l.tab,⟨λx d e=>⟨h.l.OZ.a x d e,uS h.l.tab.rd (by cases ms with|nil=>exact H? rfl x|cons a r=>simp[lS,ng]) d e⟩,λm f=>⟨λx d e=>⟨(h.l.OZ.all m f).l x d e,uS (h.l.tab.ok m f).l (Q3 x) d e⟩,?_⟩⟩,h.l.cap,h.l.gb,λx d e=>⟨h.l.XK x d e,uS h.l.gb (by cases j:T.gl with|nil=>exact H? j x|cons a r=>simp[uZ]) d e⟩,h.l.eb,λx d e=>⟨h.l.UG x d e,uS h.l.eb (by cases j:T.ll with|nil=>exact H? j x|cons a r=>simp[nE]) d e⟩,h.l.GJ⟩;have a:=(h.l.OZ.all m f).k;have b:=(h.l.tab.ok m f).k.inn;exact⟨λx d e=>⟨a.e x d e,b.e x d e⟩,λx d e=>⟨a.c x d e,b.c x d e⟩,λx d e=>⟨a.g x d e,b.g x d e⟩⟩
variable{α:Type}
def qJ(w:jC)(p:O->Prop)(g:O)(c:lO)(T:kM)(bad:I->jD)(d:jC->α->jD->Prop)(r:K? I (kM×α))(e:bi6)(w':jC):Prop:=
 Out (·=g) w w'/\match r with
 |.error er=>e=a? (bad er)/\er≠0/\kB w' p g c T
 |.ok (T3,a)=>(∃v,e=a? v/\d w' a v)/\kB w' (λb=>p b\/w.heap.size<=b) g c T3
def UJ{step:kM->K? I (kM×α)}(h:I2 c T now text ((step (ko c T now)).map (·.1))=.error er):EQ c T now text step=.error er:=by
 unfold I2 at h;unfold EQ;split
 .rename_i b;rw[B? b]at h;cases h;rfl
 rename_i b;rw[A? b]at h
 cases d:step (ko c T now)with
 |error e=>rw[d]at h;cases h;rfl
 |ok x=>
  obtain⟨T2,a⟩:=x;rw[d]at h;simp only[Except.map]at h⊢
  cases f:ru c.ka c.kb T2.lb T2.ll T2.tm text with
  |none=>rw[f]at h;simp only at h⊢;cases h;rfl
  |some x=>rw[f]at h;cases h
variable{T3:kM}
def XR{step:kM->K? I (kM×α)}(h:I2 c T now text ((step (ko c T now)).map (·.1))=.ok T3):∃T2 a,step (ko c T now)=.ok (T2,a)/\EQ c T now text step=.ok (T3,a):=by
 unfold I2 at h;unfold EQ;split at h
 .cases h
 rename_i f;rw[A? f]
 cases b:step (ko c T now)with
 |error e=>rw[b]at h;cases h
 |ok x=>
  obtain⟨T2,a⟩:=x;rw[b]at h;simp only[Except.map]at h⊢
  cases d:ru c.ka c.kb T2.lb T2.ll T2.tm text with
  |none=>rw[d]at h;cases h
  |some x=>rw[d]at h;simp only at h⊢;cases h;exact⟨T2,a,rfl,rfl⟩
def qJ.of{V f:jC}{step:kM->K? I (kM×α)}{e:bi6}(n:r=(step (ko c T now)).map (·.1))(hV:(cF w V))(o:∀b,C b->w.heap.size<=b)(h:rb V C K (λb=>p b/\b<w.heap.size) g c T (I2 c T now text r) e f):Out (·=g) w f/\((∃er,EQ c T now text step=.error er/\e=a? (c? o? er)/\er≠0/\kB f p g c T)\/ (∃T2 T3 a,step (ko c T now)=.ok (T2,a)/\EQ c T now text step=.ok (T3,a)/\e=a? (c? o? 0)/\kB f (λb=>p b\/w.heap.size<=b) g c T3/\∃l,K l/\Out (λb=>b=g\/(V.heap.size<=b/\b<V.heap.size+3)) l f)):=by
 subst n;obtain⟨q,d⟩:=h;refine⟨(hV.mono λ_ _ h=>h.elim).then_ q λb j=>j.imp id (o b),?_⟩;have t:=hV.size
 cases k:I2 c T now text ((step (ko c T now)).map (·.1))with
 |error er=>rw[k]at d;exact r? ⟨er,UJ k,d.1,d.2.1,d.2.2.mono λb j=>j.1⟩
 |ok T3=>
  rw[k]at d;obtain⟨T2,a,m,s⟩:=XR k;exact s? ⟨T2,T3,a,m,s,d.1,d.2.1.mono λb j=>j.imp (·.1) λh=>jS,d.2.2⟩
def yl: "revoke".toByteArray=⟨#[114,101,118,111,107,101]⟩:=TO
def zP: "grant".toByteArray=⟨#[103,114,97,110,116]⟩:=TO
def Fv(p:O->Prop)(g:O)(c:lO)(T:kM)(now id:I)(hc:GC c)(Q:nH c T)(hu:U now)(G:4<=g)(w:jC)(hw:4<=w.heap.size)(H:Tb w)(h:kB w p g c T)(A:∀b,p b->b≠g):jE Tryz.prog 62 #[jO g,jK now,jK id] w (qJ w p g c T (λer=>.int o? er) (λ_ _ v=>v=.int o? 0) (D4 c T now id)):=by
 have β:g<w.heap.size:=by obtain⟨_,_,_,_,_,_,_,h⟩:=h;exact h.blk.lt
 have HT:=ah H;have ov:=ah h.lt;have F:=ah A;have f:=ah Q;have J:=ah ((((kj.nil (λ_=>False) w).alloc w 82 [jO g]).alloc (w.heap.size+1) 22 [jK id]).alloc (w.heap.size+2) 156 [.func (.func 82) #[] #[jO w,.pointer (M (aE w))]]);clear H h A Q;have α:∀(K:Fn)(first cap:x? jD)(w:jC),(gF K first cap).run Tryz.prog w=.ok (.func K first cap) w:=λ_ _ _ _=>rfl;go_in;go_wp2_with fail;refine kq (λ_=>True) J trivial (λV m _=>?_);clear J;have hV:w.heap.size+2<V.heap.size:=(m.blk _ ab).2.lt;have d:(bJ w V):=m.out.out.below aa λ_ h=>h.elim;have R:=HT.later d;refine(zt (λ_=>False) (λ_=>True) (λb=>p b/\b<w.heap.size) g c T now _ (M (aG w)) 1 82 #[jO w,.pointer (M (aE w))] ((lr (ko c T now).gl id).map λl=>{ko c T now with gl:=l}) (λW=>rfl) hc f.tb
  (by have:=f.lg.len;omega) (λx N=>⟨(f.lg.fit x N).1,by have:=(f.lg.fit x N).2;omega⟩) f.lg.bU hu B8 G (λT2 o=>?_) V R (ov.later d) (λb d=>⟨F b d.1,not_false,jS⟩) (λ_ h=>h.elim)
  (λ_=>⟨w.heap.size+1+1,0,rfl,jS,λj v hj=>?_⟩) (λad e=>by cases e;simp;omega) (λW z hs Y=>?_)).mono ?_
 .cases B:lr (ko c T now).gl id with
  |error e=>rw[B]at o;cases o
  |ok l=>rw[B]at o;cases o;exact⟨rfl,rfl,rfl⟩
 .rw[au];exact((m.blk _ ab).2.cell j).trans (by rw[bh];exact hj)
 .have k0:V.cell? ⟨w,0,Z⟩=M (.pointer (aC g)):=(m.blk _ (ac 2)).2.cell 0;have k1:V.cell? (aE w)=M (.int n? id):=(m.blk _ (ac 1)).2.cell 0;refine(PV (λb=>(p b/\b<w.heap.size)\/V.heap.size+3<=b) g c (ko c T now) w (w.heap.size+1) id f.gg G W (R.rH z λb e=>jS) ((z.cell (p:=⟨w,0,Z⟩) (by show w.heap.size<_;omega) (by show¬w.heap.size=g;omega)).trans k0) ((z.cell (p:=(aE w)) (by show w.heap.size+1<_;omega) (by show¬w.heap.size+1=g;omega)).trans k1) Y (λb d=>by rcases d with d|d;exact F b d.1;omega)).mono ?_;rintro e W'⟨t,k⟩;refine⟨t,?_⟩
  cases D:((lr (ko c T now).gl id).map λl=>{ko c T now with gl:=l}:K? I kM)with
  |error er=>rw[D]at k;exact k
  |ok T2=>rw[D]at k;exact⟨k.1,k.2.1.mono λb d=>by rcases d with d|d;exact d;exact s? jS,k.2.2⟩
 rintro e w9 q;obtain⟨C,⟨er,n,rfl,L,s⟩|⟨T2,T3,a,y,n,rfl,s,-⟩⟩:=qJ.of (step:=λT=>(lr T.gl id).map λl=>({T with gl:=l},())) (by cases lr (ko c T now).gl id<;>rfl) m.out.out (λ_ h=>h.elim) q
 .have r:=ah n;have H0:=ah L;clear n L q;go_wp2;go_ret;exact⟨C,by rw[D4,yl,r];exact⟨rfl,H0,s⟩⟩
 have r:=ah n;clear n q y;go_wp2;go_ret;exact⟨C,by rw[D4,yl,r];exact⟨⟨_,rfl,rfl⟩,s⟩⟩
def M2(p:O->Prop)(g:O)(c:lO)(T:kM)(now:I)(text:v?)(y:GC c)(d:nH c T)(z:U now)(B:text.size<=1000)(A:4<=g)(w:jC)(r:Tb w)(h:kB w p g c T)(n:∀b,p b->b≠g):jE Tryz.prog 58 #[jO g,jK now,jL text] w (qJ w p g c T (λer=>c? o? er) (λ_ _ v=>v=c? o? 0) (CV c T now text)):=by
 have Q:=ah (UK (λb=>p b/\b<w.heap.size) g c T now text Z 0 y d.tb (by have:=d.lg.len;omega) (λx t=>⟨(d.lg.fit x t).1,by have:=(d.lg.fit x t).2;omega⟩) d.lg.bU z B A w r h.lt (λb q=>⟨n b q.1,q.2⟩));clear h n r d;go_in;go_wp2_with fail;refine Q.mono ?_;rintro e D j;obtain⟨o,⟨er,f,rfl,s,l⟩|⟨T2,T3,a,m,f,rfl,l,-⟩⟩:=qJ.of (step:=λT=>.ok (T,())) rfl (Out.refl _ w) (λ_ h=>h.elim) j
 .have k:=ah f;have C:=ah s;clear f s j Q;go_wp2;go_ret;exact⟨o,by rw[CV,k];exact⟨rfl,C,l⟩⟩
 have k:=ah f;clear f j m Q;go_wp2;go_ret;exact⟨o,by rw[CV,k];exact⟨⟨_,rfl,rfl⟩,l⟩⟩
def Jg(p:O->Prop)(g:O)(c:lO)(T:kM)(now to:I)(sc:v?)(hc:GC c)(hG:nH c T)(hu:U now)(B:sc.size<=1000)(h4:4<=g)(w:jC)(hw:4<=w.heap.size)(X:Tb w)(h:kB w p g c T)(hp:∀b,p b->b≠g):jE Tryz.prog 61 #[jO g,jK now,jK to,jL sc] w (qJ w p g c T (λer=>.tuple #[jK 0,jJ er]) (λ_ a v=>v=.tuple #[jK a,jJ 0]) (sy c T now to sc)):=by
 have β:g<w.heap.size:=by obtain⟨_,_,_,_,_,_,_,h⟩:=h;exact h.blk.lt
 have HT:=ah X;have ov:=ah h.lt;have HP:=ah hp;have n:=ah hG;have Y:=ah ((((((kj.nil (λ_=>False) w).alloc w 82 [jO g]).alloc (w.heap.size+1) 22 [jK to]).alloc (w.heap.size+2) 9 [jL sc]).alloc (w.heap.size+3) 22 [jK 0]).alloc (w.heap.size+4) 156 [.func (.func 80) #[] #[jO w,.pointer (M (aE w)),bF w,.pointer (M (cB w))]]);clear X h hp hG;have α:∀(fn:Fn)(first cap:x? jD)(w:jC),(gF fn first cap).run Tryz.prog w=.ok (.func fn first cap) w:=λ_ _ _ _=>rfl;go_in;go_wp2_with fail;refine kq (λ_=>True) Y trivial (λV m _=>?_);clear Y;have hV:w.heap.size+4<V.heap.size:=(m.blk _ ab).2.lt;have hb:(bJ w V):=m.out.out.below aa λ_ h=>h.elim;have Rv:=HT.later hb;refine(zt (λb=>b=w.heap.size+3) (λW=>∀r,lW T.gn T.gl to sc=.ok r->W.cell? (cB w)=M (.int n? r.2.2)) (λb=>p b/\b<w.heap.size) g c T now _ (M (lz 46 w)) 1 80 #[jO w,.pointer (M (aE w)),bF w,.pointer (M (cB w))] ((lW T.gn T.gl to sc).map λr=>{ko c T now with gn:=r.1,gl:=r.2.1}) (λW=>rfl) hc n.tb
  (by have:=n.lg.len;omega) (λx hx=>⟨(n.lg.fit x hx).1,by have:=(n.lg.fit x hx).2;omega⟩) n.lg.bU hu B8 h4 (λT2 y=>?_) V Rv (ov.later hb) (λb hb=>⟨HP b hb.1,qhc,jS⟩) (λb e=>jS)
  (λ_=>⟨w.heap.size+1+1+1+1,0,rfl,jS,λj v hj=>?_⟩) (λad e=>by cases e;simp;omega) (λW t hs mo=>?_)).mono ?_
 .cases N:lW T.gn T.gl to sc with
  |error e=>rw[N]at y;cases y
  |ok l=>rw[N]at y;cases y;exact⟨rfl,rfl,rfl⟩
 .rw[au];exact((m.blk _ ab).2.cell j).trans (by rw[bh];exact hj)
 .have k0:V.cell? ⟨w,0,Z⟩=M (.pointer (aC g)):=(m.blk _ (ac 4)).2.cell 0;have k1:V.cell? (aE w)=M (.int n? to):=(m.blk _ (ac 3)).2.cell 0;have k2:V.cell? ⟨w.heap.size+2,0,Z⟩=M (.string sc):=(m.blk _ (ac 2)).2.cell 0;refine(Kw (λb=>(p b/\b<w.heap.size)\/V.heap.size+3<=b) g c (ko c T now) w (w.heap.size+1) (w.heap.size+2) (w.heap.size+3) to 0 sc n.gg B h4 jS W (Rv.rH t λb e=>jS) ((t.cell (p:=⟨w,0,Z⟩) (by show w.heap.size<_;omega) (by show¬w.heap.size=g;omega)).trans k0) ((t.cell (p:=(aE w)) (by show w.heap.size+1<_;omega) (by show¬w.heap.size+1=g;omega)).trans k1) ((t.cell (p:=⟨w.heap.size+2,0,Z⟩) (by show w.heap.size+2<_;omega) (by show¬w.heap.size+2=g;omega)).trans k2) (t.blk (m.blk _ (ac 1)).2 (by show¬w.heap.size+3=g;omega)) mo (λb hb=>by rcases hb with hb|hb;exact⟨HP b hb.1,qhc⟩;omega) jS).mono ?_;rintro e F⟨K,L⟩;refine⟨K,?_⟩;have f:match((lW T.gn T.gl to sc).map λr=>{ko c T now with gn:=r.1,gl:=r.2.1}:K? I kM)with
   |.error er=>e=a? (.int o? er)/\er≠0/\rv F g c
   |.ok T2=>e=a? (.int o? 0)/\kB F (λb=>((p b/\b<w.heap.size)\/V.heap.size+3<=b)\/W.heap.size<=b) g c T2/\∀r,lW T.gn T.gl to sc=.ok r->F.cell? (cB w)=M (.int n? r.2.2):=L
  clear L
  cases R:((lW T.gn T.gl to sc).map λr=>{ko c T now with gn:=r.1,gl:=r.2.1}:K? I kM)with
  |error er=>rw[R]at f;exact f
  |ok T2=>rw[R]at f;exact⟨f.1,f.2.1.mono λb hb=>by rcases hb with hb|hb;exact hb;exact s? jS,f.2.2⟩
 rintro e w9 A;obtain⟨Q,⟨er,q,rfl,J,C⟩|⟨T2,T3,a,s,q,rfl,C,W2,hK,H⟩⟩:=qJ.of (step:=λT=>(lW T.gn T.gl to sc).map λr=>({T with gn:=r.1,gl:=r.2.1},r.2.2)) (by show _=((lW T.gn T.gl to sc).map _).map _;cases lW T.gn T.gl to sc<;>rfl) m.out.out (λ_ h=>jS) A
 .have G:=ah q;have H0:=ah J;clear q A;replace J:¬er=0:=J;go_wp2;go_ret2;exact⟨Q,by rw[sy,zP,G];exact⟨rfl,H0,C⟩⟩
 have G:=ah q;have d:((lW T.gn T.gl to sc).map λr=>(({ko c T now with gn:=r.1,gl:=r.2.1}:kM),r.2.2))=.ok (T2,a):=s;have k:w9.cell? (cB w)=M (.int n? a):=by
  cases D:lW T.gn T.gl to sc with
  |error e=>rw[D]at d;cases d
  |ok r=>
   have o:=hK r D;rw[D]at d
   cases d
   exact(H.cell (p:=(cB w)) (b8 W2 _ o) (by show¬(w.heap.size+3=g\/(V.heap.size<=w.heap.size+3/\_));omega)).trans o
 replace k:w9.cell? ⟨cC w,0,Z⟩=M (.int n? a):=k;clear q A s d hK;go_wp2;go_ret2;exact⟨Q,by rw[sy,zP,G];exact⟨⟨_,rfl,rfl⟩,C⟩⟩
noncomputable def me(c:lO)(T:kM)(labels:v?)(kind:I)(items:E Item):K? I (kM×E O):=
 if 50<items.length then .error 181 else
 match vt (tx labels)with
 |none=>.error 40
 |some l=>
  if 1<=kind/\kind<=3 then
   if(mf T.tb l kind).kind=kind then
    match we T.tb ⟨l,mF (mf T.tb l kind) items,T.tm⟩with
    |none=>.error 120
    |some t=>match pI c.budget 100 t []with
     |none=>.error 130
     |some (t,ps)=>.ok ({T with tb:=t},ps)
   else .error 101
  else .error 101
noncomputable def nl(c:lO)(T:kM)(now:I)(labels:v?)(kind:I)(items:E Item):K? I (kM×E O):=
 EQ c T now "ingest".toByteArray λT=>me c T labels kind items
def t7:∀(l:E Item){s:Sk},GK s->(∀x∈l,U x.h/\U x.n)->GK (mF s l)/\(mF s l).kind=s.kind
 |[],s,h,_=>⟨h,rfl⟩
 |x::l,s,h,c=>by
  have d:=c x ab;have a:=Wk h d.1 d.2;have b:=t7 l a.1 λy e=>c y (dS _ e);exact⟨b.1,b.2.trans a.2⟩
variable{t:E mq}{kind:I}
def vM(h:GT t)(a:1<=kind/\kind<=3):GK (mf t l kind):=by
 unfold mf;split
 .cases e:t[o_ t l]? with
  |none=>exact(wj a).1
  |some s=>exact(h.all s (cm e)).k
 exact(wj a).1
variable{labels:v?}{items:E Item}
def FC(h:me c T labels kind items=.error er):er≠0:=by
 unfold me at h;repeat' split at h
 all_goals first|(cases h;done)|(cases h;decide)
instance(x0:jC):CoeOut (sH 45 x0) jG:=⟨λ_=>⟨x0.heap.size+4,0,Z⟩⟩
def An(h:kA t sc kind=.error er):er≠0:=by
 unfold kA at h;repeat' split at h
 all_goals first|(cases h;done)|(cases h;decide)
def kB.bad(h:kB w q g c T):rv w g c:=by
 obtain⟨A,cap,ms,GA,b,LA,a,h⟩:=h;exact⟨_,_,_,_,_,_,h.blk⟩
def JL(q:O->Prop)(g:O)(c:lO)(T:kM)(tb sb kb f cb:O)(sc:v?)(kind h v:I)(N:GT T.tb)(hs:sc.size<=1000)(hh:U h)(h4:4<=g)(α:4<=cb)(w:jC)(hT:Tb w)(hE:Er w)(ht:w.cell? ⟨tb,0,Z⟩=M (e? (aC g)))(β:w.cell? ⟨sb,0,Z⟩=M (f? sc))(hk:w.cell? ⟨kb,0,Z⟩=M (c? o? kind))(A:(bI w f h))(F:jR w cb 22 #[jK v])(L:kB w q g c T)(R:∀b,q b->b≠g/\b≠cb)(C:cb≠g):jE Tryz.prog 73 #[jO tb,jO sb,jO kb,jO f,jO cb] w (mM (λb=>b=cb) (λW=>∀s,kA T.tb sc kind=.ok s->W.cell? ⟨cb,0,Z⟩=M (c? n? (rt s h))) (λb=>q b\/w.heap.size<=b) g c ((kA T.tb sc kind).map λ_=>T) w):=by
 have Q:=ah (Fw q g c T sc kind N hs w hT hE L);have ov:=ah L;have Y:=ah R;have j:=ah (kj.one (λb=>b=cb) (w:=w) (cs:=[jK v]) rfl F);have OU:Hid (∀s,kA T.tb sc kind=.ok s->GK s):=λs e=>(Gp N e).1;have IV:Hid (∀er,kA T.tb sc kind=.error er->er≠0):=λer e=>An e;have K:=b8 w _ ht;have n:=b8 w _ A;simp only at K n;generalize G:kA T.tb sc kind=r at*;clear G L R F hT hE N;go_in;go_wp2_with fail;refine Q.mono ?_;rintro e z⟨d,J⟩;have δ:=d.size;have h2:(bI z f h):=(d.cell (p:=⟨f,0,Z⟩) n).trans A;have γ:f<z.heap.size:=jS;replace j:=ah (j.call d);have HB:=ah d;clear Q d;have x:=fk (j.facts)
 cases r with
 |error er=>
  simp only at J;subst J;have h0:¬er=0:=IV er rfl;have hH:=ah h0;simp only[xl];have D:=ah (j.alloc z 136 [jJ 0,jJ 0,jM,jJ 0,aF,jJ 0,jJ 0,jM,jJ 0,jM]);go_wp2_with fail;refine kh (λ_=>True) D trivial (λV9 k _=>?_);clear x D j;go_ret;exact mM.no rfl (k.out.out.mono λb _ e=>s? e) hH.out (ov.out.out k.out.out (λb f e=>(Y b f).2 e) (λe=>C e.symm)).bad
 |ok s=>
  obtain⟨m,rfl,rfl,o,H⟩:=J;have yZ:=ah (OU m.s rfl);have oH:=ah o;clear o H;unfold nT;have D:=ah (j.alloc z 136 (aA m));go_wp2_with fail;refine kq (λV=>jY V V m) D (oH.later ((Below.refl _ z).alloc aa _)) (λV y hV=>?_);clear x D j;refine(GO m yZ h hh V hV).mono ?_;rintro e w3⟨rfl,t⟩;replace y:=ah (y.call t);clear t hV;have x:=fk (y.facts);have X:=aT (ah (y.put 1 0 (c? n? (rt m.s h))));go_wp2_with fail;refine kh (λ_=>True) X trivial (λV9 k _=>?_);clear x X y;go_ret;exact mM.yes rfl (k.out.out.mono λb _ e=>s? e) ((ov.out.out k.out.out (λb f e=>(Y b f).2 e) (λe=>C e.symm)).mono λb=>r?) (λs hs=>by
   cases hs
   exact(k.blk _ (ac 1)).2.cell 0)
def zO: "query".toByteArray=⟨#[113,117,101,114,121]⟩:=TO
def Jc(p:O->Prop)(g:O)(c:lO)(T:kM)(now:I)(sc:v?)(kind h:I)(hc:GC c)(F:nH c T)(hu:U now)(B:sc.size<=1000)(hh:U h)(h4:4<=g)(w:jC)(hw:4<=w.heap.size)(hT:Tb w)(hE:Er w)(L:kB w p g c T)(hp:∀b,p b->b≠g):jE Tryz.prog 55 #[jO g,jK now,jL sc,jJ kind,jK h] w (qJ w p g c T (λer=>.tuple #[jK 0,jJ er]) (λ_ a v=>v=.tuple #[jK a,jJ 0]) (pM c T now sc kind h)):=by
 have β:g<w.heap.size:=by obtain⟨_,_,_,_,_,_,_,h⟩:=L;exact h.blk.lt
 have HT:=ah hT;have HE:=ah hE;have ov:=ah L.lt;have HP:=ah hp;have o:=ah F;have K:Hid (GT (ko c T now).tb):=F.tb.filter _;have HH:=ah (((((((kj.nil (λ_=>False) w).alloc w 82 [jO g]).alloc (w.heap.size+1) 9 [jL sc]).alloc (w.heap.size+2) 3 [jJ kind]).alloc (w.heap.size+3) 22 [jK h]).alloc (w.heap.size+4) 22 [jK 0]).alloc (w.heap.size+5) 156 [.func (.func 73) #[] #[jO w,.pointer (M (aE w)),bF w,.pointer (M (cB w)),.pointer (M (lz 45 w))]]);clear hT L hp F hE;have α:∀(fn:Fn)(first cap:x? jD)(w:jC),(gF fn first cap).run Tryz.prog w=.ok (.func fn first cap) w:=λ_ _ _ _=>rfl;go_in;go_wp2_with fail;refine kq (λ_=>True) HH trivial (λV k _=>?_);clear HH;have hV:w.heap.size+5<V.heap.size:=(k.blk _ ab).2.lt;have hb:(bJ w V):=k.out.out.below aa λ_ h=>h.elim;have Rv:=HT.later hb;have J:=HE.later hb;refine(zt (λb=>b=w.heap.size+4) (λW=>∀s,kA (ko c T now).tb sc kind=.ok s->W.cell? (lz 45 w)=M (.int n? (rt s h))) (λb=>p b/\b<w.heap.size) g c T now _ (M ⟨w.heap.size+1+1+1+1+1,0,Z⟩) 1 73 #[jO w,.pointer (M (aE w)),bF w,.pointer (M (cB w)),.pointer (M (lz 45 w))] ((kA (ko c T now).tb sc kind).map λ_=>ko c T now) (λW=>rfl) hc o.tb
  (by have:=o.lg.len;omega) (λx hx=>⟨(o.lg.fit x hx).1,by have:=(o.lg.fit x hx).2;omega⟩) o.lg.bU hu B8 h4 (λT2 z=>?_) V Rv (ov.later hb) (λb hb=>⟨HP b hb.1,qhc,jS⟩) (λb e=>jS)
  (λ_=>⟨w.heap.size+1+1+1+1+1,0,rfl,jS,λj v hj=>?_⟩) (λad e=>by cases e;simp;omega) (λW m hs mo=>?_)).mono ?_
 .cases R:kA (ko c T now).tb sc kind with
  |error e=>rw[R]at z;cases z
  |ok l=>rw[R]at z;cases z;exact⟨rfl,rfl,rfl⟩
 .rw[au];exact((k.blk _ ab).2.cell j).trans (by rw[bh];exact hj)
 .have k0:V.cell? ⟨w,0,Z⟩=M (.pointer (aC g)):=(k.blk _ (ac 5)).2.cell 0;have k1:V.cell? (aE w)=M (.string sc):=(k.blk _ (ac 4)).2.cell 0;have k2:V.cell? ⟨w.heap.size+2,0,Z⟩=M (.int o? kind):=(k.blk _ (ac 3)).2.cell 0;have k3:V.cell? (cB w)=M (.int n? h):=(k.blk _ (ac 2)).2.cell 0;refine(JL (λb=>(p b/\b<w.heap.size)\/V.heap.size+3<=b) g c (ko c T now) w (w.heap.size+1) (w.heap.size+2) (w.heap.size+3) (w.heap.size+4) sc kind h 0 K B hh h4 jS W (Rv.rH m λb e=>jS) (J.rH m λb e=>jS) ((m.cell (p:=⟨w,0,Z⟩) (by show w.heap.size<_;omega) (by show¬w.heap.size=g;omega)).trans k0) ((m.cell (p:=(aE w)) (by show w.heap.size+1<_;omega) (by show¬w.heap.size+1=g;omega)).trans k1) ((m.cell (p:=⟨w.heap.size+2,0,Z⟩) (by show w.heap.size+2<_;omega) (by show¬w.heap.size+2=g;omega)).trans k2) ((m.cell (p:=(cB w)) (by show w.heap.size+3<_;omega) (by show¬w.heap.size+3=g;omega)).trans k3) (m.blk (k.blk _ (ac 1)).2 (by show¬w.heap.size+4=g;omega)) mo (λb hb=>by rcases hb with hb|hb;exact⟨HP b hb.1,qhc⟩;omega) jS).mono ?_;rintro e W'⟨Q,n⟩;refine⟨Q,?_⟩
  cases Y:((kA (ko c T now).tb sc kind).map λ_=>ko c T now:K? I kM)with
  |error er=>rw[Y]at n;exact n
  |ok T2=>rw[Y]at n;exact⟨n.1,n.2.1.mono λb hb=>by rcases hb with hb|hb;exact hb;exact s? jS,n.2.2⟩
 rintro e w9 A;obtain⟨X,⟨er,t,rfl,N,C⟩|⟨T2,T3,a,y,t,rfl,C,W2,hK,H⟩⟩:=qJ.of (step:=λT=>(kA T.tb sc kind).map λs=>(T,rt s h)) (by show _=((kA (ko c T now).tb sc kind).map _).map _;cases kA (ko c T now).tb sc kind<;>rfl) k.out.out (λ_ h=>jS) A
 .have G:=ah t;have H0:=ah N;clear t A;replace N:¬er=0:=N;go_wp2;go_ret2;exact⟨X,by rw[pM,zO,G];exact⟨rfl,H0,C⟩⟩
 have G:=ah t;have d:((kA (ko c T now).tb sc kind).map λs=>(ko c T now,rt s h))=.ok (T2,a):=y;have f:w9.cell? (lz 45 w)=M (.int n? a):=by
  cases D:kA (ko c T now).tb sc kind with
  |error e=>rw[D]at d;cases d
  |ok r=>
   have q:=hK r D;rw[D]at d
   cases d
   exact(H.cell (p:=(lz 45 w)) (b8 W2 _ q) (by show¬(w.heap.size+4=g\/(V.heap.size<=w.heap.size+4/\_));omega)).trans q
 replace f:w9.cell? (lz 46 w)=M (.int n? a):=f;clear t A y d hK;go_wp2;go_ret2;exact⟨X,by rw[pM,zO,G];exact⟨⟨_,rfl,rfl⟩,C⟩⟩
structure Cu where
 oK:I
 role:I
 YR:I
structure s9 where
 op:I
 now:I
 labels:v?
 scope:v?
 kind:I
 items:E Item
 h:I
 to:I
 id:I
 jV:E I
structure Rep where
 e:I
 n:I
 notices:E O
 entries:E mV
def uJ(e:I):Rep:=⟨e,0,[],[]⟩
structure lN(r:s9):Prop where
 now:U r.now
 labels:r.labels.size<=300
 scope:r.scope.size<=300
 items:r.items.length<=52
 iu:∀x∈r.items,U x.h/\U x.n
 h:U r.h
 to:U r.to
 id:U r.id
 jV:r.jV.length<=10
 tu:∀x∈r.jV,U x
abbrev Col:=E (lO×kM)
def m6(C:Col)(id:I):w? O:=C.findIdx? λx=>x.1.id==id
variable{C:Col}{k:O}
def EL{id:I}(h:m6 C id=M k):∃a:k<C.length,C[k].1.id=id:=by
 unfold m6 at h;rw[eP]at h;obtain⟨a,b,_⟩:=h;exact⟨a,by simpa using b⟩
noncomputable def uV(C:Col)(own:I)(scope:v?)(kind:I)(id:I):K? I Sk:=
 match m6 C id with
 |none=>.error 170
 |some k=>match C[k]? with
  |none=>.error 170
  |some (_,T)=>if id=own then kA T.tb scope kind else qT T.gl own T.tb scope kind
noncomputable def ln(C:Col)(own:I)(scope:v?)(kind:I)(s:Sk)(id:I):Sk:=
 match uV C own scope kind id with
 |.error _=>s
 |.ok p=>mZ s p
noncomputable def vm(C:Col)(own:I)(scope:v?)(kind:I)(ids:E I):Sk:=ids.foldl (ln C own scope kind) (nC kind)
noncomputable def p6(c:lO)(T:kM)(r:s9):K? I (kM×Rep):=
 if r.op=1 then(nl c T r.now r.labels r.kind r.items).map λx=>(x.1,⟨0,kJ x.1.tb,x.2,[]⟩)
 else if r.op=2 then(pM c T r.now r.scope r.kind r.h).map λx=>(x.1,⟨0,x.2,[],[]⟩)
 else if r.op=4 then(sy c T r.now r.to r.scope).map λx=>(x.1,⟨0,x.2,[],[]⟩)
 else if r.op=5 then(D4 c T r.now r.id).map λx=>(x.1,⟨0,0,[],[]⟩)
 else if r.op=6 then .ok (T,⟨0,0,[],lA T.ll r.id⟩)
 else .ok (T,⟨0,kJ T.tb,[],[]⟩)
noncomputable def qt(c:lO)(T:kM)(r:s9):K? I (kM×Unit):=
 if 8<r.jV.length then .error 181
 else if mw r.scope=t? then(if 1<=r.kind/\r.kind<=3 then CV c T r.now "rollup".toByteArray else .error 101)
 else .error 50
noncomputable def Hz(C:Col)(k:O)(c:lO)(T:kM)(r:s9):Col×Rep:=
 if r.op=3 then
  match qt c T r with
  |.error e=>(C,uJ e)
  |.ok (a,_)=>(C.set k (c,a),⟨0,rt (vm (C.set k (c,a)) c.id r.scope r.kind r.jV) r.h,[],[]⟩)
 else match p6 c T r with
  |.error e=>(C,uJ e)
  |.ok (a,y)=>(C.set k (c,a),y)
noncomputable def tW(C:Col)(x:Cu)(r:s9):Col×Rep:=
 match m6 C x.oK with
 |none=>(C,uJ 170)
 |some k=>match C[k]? with
  |none=>(C,uJ 170)
  |some (c,T)=>
   if¬(1<=r.op/\r.op<=7)then(C,uJ 191)
   else if zZ x.role r.op=u? then(C,uJ 190)
   else Hz C k c T r
structure nR(C:Col):Prop where
 cfg:∀x∈C,GC x.1
 ten:∀x∈C,nH x.1 x.2
 ids:C.Pairwise λa b=>a.1.id≠b.1.id
def Yc{ka kb at_:I}{l:E mV}(h:GL ka kb b l)(m:U at_){j:I}{a:E mV}(e:ru ka kb b l at_ text=M (j,a)):GL ka kb j a/\late a at_=u?/\kO a=kO l+1/\a.getLast?=M (newE ka kb b l at_ text):=by
 have c:(qN ka kb b l&&decide (text.size<=200)&&(kO l !=18446744073709551615)&& !late l at_)=t?:=by
  unfold ru at e;split at e
  .assumption
  cases e
 simp only[ba,D?,jp,bne_iff_ne]at c;have k:U (kO l):=Es λx g=>⟨(h.fit x g).1,by have:=(h.fit x g).2;omega⟩;obtain⟨p,o,f,r⟩:=Wj h m c.1.1.2 c.2 (by have d:=k.2;have n:=c.1.2;replace d:kO l<=18446744073709551615:=d;omega);rw[e]at f
 cases f
 exact r
structure SC(c:lO)(T T2:kM):Prop where
 tb:GT T2.tb
 gg:GG T2.gn T2.gl
 lb:T2.lb=T.lb
 ll:T2.ll=T.ll
 tm:T2.tm=T.tm
def ax4{step:kM->K? I (kM×α)}{a:α}(h:nH c T)(j:U now)(hs:∀T2 a,step (ko c T now)=.ok (T2,a)->SC c (ko c T now) T2)(e:EQ c T now text step=.ok (T3,a)):nH c T3/\¬now<T.tm/\T3.tm=now/\kO T3.ll=kO T.ll+1/\(∃x,T3.ll.getLast?=M x/\x.text=text/\x.tm=now)/\∃T2,step (ko c T now)=.ok (T2,a)/\T3.tb=T2.tb/\T3.gn=T2.gn/\T3.gl=T2.gl:=by
 unfold EQ at e;split at e
 .cases e
 rename_i o;split at e
 .cases e
 rename_i T2 b d;split at e
 .cases e
 rename_i t q k
 cases e
 have g:=hs _ _ d;have l:T2.lb=T.lb:=g.lb;have n:T2.ll=T.ll:=g.ll;have f:T2.tm=now:=g.tm;rw[l,n,f]at k;obtain⟨s,p,m,r⟩:=Yc h.lg j k;exact⟨⟨g.tb,g.gg,s,by show U T2.tm;rw[f];exact j,by show late q T2.tm=u?;rw[f];exact p⟩,o,f,m,⟨_,r,rfl,rfl⟩,T2,d,rfl,rfl,rfl⟩
def Q8(x:Item):E jD:=[jK x.h,jK x.n]
def Out.lp{X:O->Prop}{w:jC}{g:O}(b:X g\/w.heap.size<=g):∀(a:E jD){w':jC}(i:O),Out X w w'->Out X w (lp w' g i a)
 |[],_,_,h=>h
 |v::a,_,i,h=>Out.lp b a (i+1) (h.setCell (p:=⟨g,i,Z⟩) b v)
def Below.lp{B:O}{w:jC}{g:O}(b:B<=g):∀(a:E jD){w':jC}(i:O),Below B w w'->Below B w (lp w' g i a)
 |[],_,_,h=>h
 |v::a,_,i,h=>Below.lp b a (i+1) (h.setCell (p:=⟨g,i,Z⟩) b v)
def U6(w:jC)(q:O->Prop)(g:O)(c:lO)(r:K? I (kM×E O))(e:bi6)(w':jC):Prop:=
 Out (·=g) w w'/\match r with
 |.error er=>e=a? (d? #[jM,jJ er])/\rv w' g c
 |.ok (T2,ps)=>∃A k,e=a? (d? #[jN A ps k,jJ 0])/\kB w' (λb=>q b\/w.heap.size<=b) g c T2/\Rd w' w' A (lC ps)/\(aX A w)
def take_any(q:O->Prop)(g:O)(c:lO)(T:kM)(labels:v?)(kind:I)(IA:w? jG)(ic:O)(items:E Item)(hc:GC c)(hG:GT T.tb)(hu:U T.tm)(hl:labels.size<=1000)(hil:items.length<=1000)(hi:∀x∈items,U x.h/\U x.n)(h4:4<=g)(w:jC)(hT:Tb w)(hE:Er w)(h:kB w q g c T)(hq:∀b,q b->b≠g)(hI:Rd w w IA (items.flatMap Q8)):jE Tryz.prog 70 #[jO g,jL labels,jJ kind,jN IA items ic] w (U6 w q g c (me c T labels kind items)):=by
 have QP:=ah (parse_any labels w (by omega) hT);have HT:=ah hT;have HE:=ah hE;have ov:=ah h;have HP:=ah hq;have oX:=ah hG;have HI:=ah hI;obtain⟨A,cap,ms,GA,gc,LA,lc,h⟩:=h;have HL:=ah h.l;have H0:=ah (kj.one (·=g) (w:=w) rfl h.blk);simp only[xj]at H0;clear hT hE hq hG hI h;by_cases h50:50<items.length
 .have HR:Hid (me c T labels kind items=.error 181):=by show _=_;unfold me;rw[B? h50]
  generalize me c T labels kind items=r at*;go_in;go_wp2_with fail;refine kh (λ_=>True) H0 trivial (λV9 D _=>?_);clear H0;go_ret2;exact⟨D.out.out,by rw[HR.out];exact⟨rfl,_,_,_,_,_,_,(D.out.blk _ (di ..)).2⟩⟩
 have x:=fk (H0.facts);generalize hrr:me c T labels kind items=r;have HR:=ah hrr;have ZC:=ah h50;clear hrr;go_in;go_wp2_with fail;refine QP.mono ?_;rintro e F⟨φ,pr,hpr,hm⟩;have DF:=ah (Gk hpr);replace H0:=ah (H0.call φ)
 cases pr with
 |none=>
  simp only at hm;subst hm;have C:Hid (r=.error 40):=by show _=_;rw[<-HR];unfold me;rw[A? (by omega),DF]
  clear HR DF;go_wp2_with fail;refine kh (λ_=>True) H0 trivial (λV9 D _=>?_);clear H0 x;go_ret2;exact⟨D.out.out,by rw[C.out];exact⟨rfl,_,_,_,_,_,_,(D.out.blk _ (di ..)).2⟩⟩
 |some l=>
  obtain⟨BA,bc,rfl,hbc,hbc2,hLb⟩:=hm;have Wu:=ah hLb;have ξ:=ah (CP hpr);have HB1:=ah φ;have hs1:=φ.size;clear hLb hpr φ;go_wp2_with fail;by_cases hk:1<=kind/\kind<=3
  .have HK:=ah hk;refine(AE kind hk F).mono ?_;rintro e J⟨m,hm,rfl,hok,hfr,θ⟩;have HM:=ah hm;have oH:=ah hok;have HFR:=ah hfr;have aC8:=ah hok.inn;have HB2:=ah θ;have ω:=θ.size;replace H0:=ah (H0.call θ);clear x hm hok hfr θ hk;have x:=fk (H0.facts);unfold nT;have HA:=ah (H0.alloc J 136 (aA m));go_wp2_with fail;have hs0:w.heap.size<=J.heap.size:=by omega
   have aS9:g<J.heap.size:=by have:=x.1;omega
   refine kq (λV=>(cF w V)/\Below F F V/\jY V V m) HA ⟨((Out.of HB1).call HB2).alloc _,(HB2).alloc ω _,oH.later ((Below.refl _ J).alloc aa _)⟩ (λV d hV=>?_);obtain⟨N,G,AQ⟩:=hV;clear H0 x HA oH;refine(RQ A ms cap BA l bc (by have:=(mt ξ).1;omega) V (HT.later (N.below aa λ_ h=>h.elim)) ((HL.later (N.below aa λ_ h=>h.elim)).Ku oX) (Wu.later G)).mono ?_;rintro e w3⟨rfl,η⟩;have hs3:=η.size;have Zb:=G.size;have OS:=ah (AQ.later η);have w_:=ah (N.call η);have μ:=ah (G.trans (η.mono Zb));replace d:=ah (d.call η);clear η N G AQ;have x:=fk (d.facts)
   cases ρ:mQ (ms.map (·.s)) l with
   |false=>
    have HTH:=ah ρ;have Wv:Hid (m.s.kind=kind):=by show _=_;rw[HM];exact(wj HK).2.1
    have ZA:Hid (m.s=mf T.tb l kind):=by show _=_;rw[<-HL.map,mf,A? (by rw[HTH];decide),HM]
    have OX:Hid ((mf T.tb l kind).kind=kind):=by show _=_;rw[<-ZA];exact Wv
    have n1:(m.s.kind !=kind)=u?:=by rw[Wv];simp
    have I4:Hid (lY (λb=>b≠J.heap.size) m):=aC8.mono λb hb=>Nat.ne_of_lt hb;clear ρ;go_wp2_with fail;clear x n1;go_loopw[64] (λi wr=>∃(k:O)(m:SkM),i=(aJ k)/\k<=items.length/\Hid (m.s=mF (mf T.tb l kind) (items.take k))/\Hid (kj (·=g) w wr [(J,136,aA m),(g,117,[jN A ms cap,jK T.gn,jN GA T.gl gc,jK T.lb,jN LA T.ll lc,jK T.tm,jK c.id,jJ c.budget,jK c.life,jK c.ka,jK c.kb])])/\Hid (jY wr wr m)/\Hid (lY (λb=>b≠J.heap.size) m)/\Hid (cF w wr)/\(bB F wr)) (λi _=>items.length-(av i).toNat)
    case atStart=>exact⟨0,m,rfl,be _,by show _=_;rw[ZA];rfl,d,OS,I4,w_,μ⟩
    clear d OS I4 w_ μ ZA;obtain⟨k,j,rfl,hkk,uL,H,oH,I4,HO,HB⟩:=hrel;have Rr:F.heap.size<=J.heap.size/\w.heap.size<=J.heap.size:=⟨ω,hs0⟩;generalize hbs:J.heap.size=bs at*;by_cases h1:k<items.length
    .have d1:decide ((k:I)<items.length)=t?:=ae;obtain⟨b,R,rfl,hb,hc⟩:=oP (n:=2) (λ_=>rfl) (by decide) HI (by omega);have i0:wr.cell? (cP b R k)=M (c? n? items[k].h):=((HO.below aa λ_ h=>h.elim).cell (p:=⟨b,R+k*2+0,Z⟩) hb).trans (hc k h1 0 _ (by decide) rfl);have i1:wr.cell? (cE b R k)=M (c? n? items[k].n):=((HO.below aa λ_ h=>h.elim).cell (p:=(cE b R k)) hb).trans (hc k h1 1 _ (by decide) rfl);have xO:(0:I)<=k:=by omega
     have xN:(k:I)<items.length:=by omega
     have hbw:b<wr.heap.size:=by have:=HO.size;omega
     clear hc;have x:=fk (H.facts);have OU:=ah (t7 (items.take k) (vM oX (l:=l) HK) λy hy=>hi y (dy hy));have OV:Hid (GK j.s):=by show GK _;rw[uL];exact OU.1
     have E_:Hid (wQ j.s items[k].h items[k].n=mF (mf T.tb l kind) (items.take (k+1))):=by show _=_;rw[uL,aj h1];unfold mF;rw[fE];rfl
     have HU:=ah (hi items[k] (ar h1));clear OU;go_wp2_with fail;refine kq (λV=>jY V V j/\(cF w V)/\Below F F V) (H.al (m? #[jK items[k].h,jK items[k].n] 39)) ⟨oH.later ((Below.refl _ wr).alloc aa _),HO.alloc _,HB.alloc HB.size _⟩ (λV d hV=>?_);obtain⟨N,G,AQ⟩:=hV;clear x H oH HO HB;refine(GP j OV items[k].h items[k].n HU.1 HU.2 V (HE.later (G.below aa λ_ h=>h.elim)) N).mono ?_;rintro e L⟨W,Mh,rfl,tQ,wC,v⟩;have Vv:Hid (W.s=mF (mf T.tb l kind) (items.take (k+1))):=by show _=_;rw[Mh,E_]
     have av2:bs<V.heap.size:=(d.blk _ ab).2.lt;have Δ:=v.size;replace d:=ah (d.call v);have δ:=aS (d.all 0 (aA W));have qO:lY (λb=>b≠bs) W:=wC.inn.mono λb(hb:V.heap.size<=b)=>by omega
     have wX:Hid (jY (lp L bs 0 (aA W)) (lp L bs 0 (aA W)).heap.size W/\Out (λ_=>False) w (lp L bs 0 (aA W))/\Below F F (lp L bs 0 (aA W))):=
      ⟨jY.lp (g:=bs) qO _ 0 tQ,Out.lp (s? Rr.2) _ 0 (G.call v),Below.lp Rr.1 _ 0 (AQ.trans (v.mono AQ.size))⟩
     simp only[lp,au,ao,ak,am]at wX;have lH:=ah δ;have YE:=ah qO;have x:=fk (d.facts);clear δ N G AQ Mh tQ wC v qO i0 i1 E_ OV HU;unfold nT;go_wp2_with fail;clear x d;go_roundw
     case rel=>exact⟨k+1,W,by go_num,by omega,Vv,lH,wX.1,YE,wX.2.1,wX.2.2⟩
     simp[av];omega
    have Γ:k=items.length:=by omega
    subst Γ;have d1:decide ((items.length:I)<items.length)=u?:=by simp
    have OU:=ah (t7 items (vM oX (l:=l) HK) hi);have ε:Hid (j.s=mF (mf T.tb l kind) items):=by show _=_;rw[uL,dP]
    have OV:Hid (GK j.s):=by show GK _;rw[ε];exact OU.1
    clear OU uL;go_wp2_with fail;refine oO (λV=>jY V V j/\(cF w V)/\Below F F V) H ⟨oH,HO,HB⟩ (λV d hV=>?_);clear H oH HO HB d1;have Fc:Hid (Below w w V.drew):=(hV.2.1.below aa λ_ h=>h.elim).drew;have S2:Hid (Below F F V.drew):=hV.2.2.drew;have SL:Hid (jY V.drew V.drew.heap.size j):=⟨hV.1.e,hV.1.c,hV.1.g⟩;replace d:=ah d.drew;have EG:g<V.drew.heap.size:=(d.blk _ (ac 1)).2.lt;have QS:Hid (jE Tryz.prog 96 #[jN A ms cap,g? #[jN BA l bc,jJ j.s.kind,jJ j.s.level,jN j.ea j.s.e j.ec,jJ j.s.bits,jL j.s.regs,jJ j.s.rows,jJ j.s.cols,jN j.ca j.s.c j.cc,jJ j.s.fine,jN j.ga j.s.g j.gc,jK T.tm]] V.drew (rz V.drew (we T.tb ⟨l,mF (mf T.tb l kind) items,T.tm⟩))):=by
     have:=FL A ms cap HL.cap ⟨⟨l,j.s,T.tm⟩,j,BA,bc,rfl⟩ ⟨ξ,OV,hu⟩ V.drew (HT.later Fc) ((HL.later Fc).Ku oX) ⟨Wu.later S2,SL⟩;have e2:({l:=l,k:=j.s,seen:=T.tm}:mq)=⟨l,mF (mf T.tb l kind) items,T.tm⟩:=by rw[ε]
     rw[HL.map]at this;show jE _ _ _ _ _;rw[<-e2];exact this
    have q0:=fk (d.at_ 0);have q1:=fk (d.at_ 1);obtain⟨y0,y1,y2,y3,y4,y5,y6,y7,y8,y9⟩:=q0;obtain⟨k0,-,-,-,-,k5,-⟩:=q1;clear hV SL S2 Wu OV ε;refine bi1 (S:=(λw'=>w'.cell? ⟨g,0,Z⟩=M (cU A ms cap)/\w'.cell? ⟨g,5,Z⟩=M (c? n? T.tm)/\(oZ 10 w' bs j))) (by kernel_rfl) ⟨k0,k5,y0,y1,y2,y3,y4,y5,y6,y7,y8,y9⟩ (λf=>?_);refine re f ?_;generalize V.drew=V2 at*;refine pL 13 λK hK=>?_;go_simp;refine QS.mono ?_;rintro e L⟨v,h8⟩;have Δ:=v.size;have Ξ:=Fc.size;have Ω:(bB w L):=Fc.trans (v.mono Ξ);replace d:=ah (d.call v);clear QS v y0 y1 y2 y3 y4 y5 y6 y7 y8 y9 k0 k5;have q0:=fk (d.at_ 0);have q1:=fk (d.at_ 1);obtain⟨y0,y1,y2,y3,y4,y5,y6,y7,y8,y9⟩:=q0;obtain⟨k0,-,-,-,-,k5,-⟩:=q1
    cases z:we T.tb ⟨l,mF (mf T.tb l kind) items,T.tm⟩with
    |none=>
     rw[z]at h8;simp only at h8;subst h8;have C:Hid (r=.error 120):=by show _=_;rw[<-HR.out];unfold me;rw[A? (by have:=ZC.out;omega),DF.out];simp only;rw[B? HK.out,B? OX.out,z]
     clear HR DF z;refine hK.out _ _ ⟨k0,k5,y0,y1,y2,y3,y4,y5,y6,y7,y8,y9⟩ (λf=>?_);clear hK K;refine az ?_;refine re f ?_;refine hdn ?_;clear f;clear y0 y1 y2 y3 y4 y5 y6 y7 y8 y9 k0 k5;have x:=fk (d.facts);go_wp2_with fail;refine kh (λ_=>True) d trivial (λV9 D _=>?_);clear d x;go_ret2;exact⟨D.out.out,by rw[C.out];exact⟨rfl,_,_,_,_,_,_,(D.out.blk _ (cm (i:=1) rfl)).2⟩⟩
    |some t=>
     rw[z]at h8;obtain⟨A2,c2,cs,rfl,κ,χ,hlo⟩:=h8;have β:Hid (r=match pI c.budget 100 t []with
      |none=>.error 130
      |some (t,ps)=>.ok ({T with tb:=t},ps)):=by show _=_;rw[<-HR.out];unfold me;rw[A? (by have:=ZC.out;omega),DF.out];simp only;rw[B? HK.out,B? OX.out,z];try rfl
     have Vx:Hid (GT t):=by
      have ψ:GS ⟨l,mF (mf T.tb l kind) items,T.tm⟩:=⟨ξ,(t7 items (vM oX (l:=l) HK) hi).1,hu⟩;unfold we at z;split at z
      .cases z
      rename_i hf
      cases z
      exact P7 oX ψ (by simpa using hf)
     have QF:Hid (jE Tryz.prog 97 #[jN A2 cs c2,jJ c.budget] L (sJ L (pI c.budget 100 t []))):=by
      have:=Gg A2 cs c2 c.budget hc.b0 hc.b1 L (HT.later Ω) ⟨χ.tab,by rw[κ];exact Vx⟩;rw[κ]at this;exact this
     clear HR DF z χ hlo κ Vx;refine hK.out _ _ ⟨k0,k5,y0,y1,y2,y3,y4,y5,y6,y7,y8,y9⟩ (λf=>?_);clear hK K;refine az ?_;refine re f ?_;refine hdn ?_;clear f;clear y0 y1 y2 y3 y4 y5 y6 y7 y8 y9 k0 k5;have x:=fk (d.facts);go_wp2_with fail;refine QF.mono ?_;rintro e w9⟨nu,h9⟩;have hs10:=nu.size;replace d:=ah (d.call nu);have hg8:g<L.heap.size:=by omega
     clear x nu QF;have x:=fk (d.facts)
     cases Dg:pI c.budget 100 t []with
     |none=>
      rw[Dg]at h9;simp only at h9;subst h9;have C:Hid (r=.error 130):=by show _=_;rw[β,Dg]
      have HZ:=aT (ah (d.put 1 0 aO));clear β Dg;go_wp2_with fail;refine kh (λ_=>True) HZ trivial (λV9 D _=>?_);clear d x HZ;go_ret2;exact⟨D.out.out,by rw[C.out];exact⟨rfl,_,_,_,_,_,_,(D.out.blk _ (cm (i:=1) rfl)).2⟩⟩
     |some tp=>
      obtain⟨t3,ps⟩:=tp;rw[Dg]at h9;obtain⟨A3,c3,XV,A4,c4,rfl,α,EE,γ,Rh,Rj⟩:=h9;have C:Hid (r=.ok ({T with tb:=t3},ps)):=by show _=_;rw[β,Dg]
      have Lw:=ah α;have Ψ:=ah EE;have SS:=ah γ;have Θ:=ah Rh;have Lu:=ah Rj;have HZ:=aT (ah (d.put 1 0 (cU A3 XV c3)));clear β Dg α EE γ Rh Rj;go_wp2_with fail;refine kh (λV=>Out (·=g) w9 V) HZ ((Out.refl (λb=>b=g) w9).setCell (p:=⟨g,0,Z⟩) (r? rfl) _) (λV9 D mB=>?_);clear d x HZ;go_ret2;exact⟨D.out.out,by rw[C.out];exact⟨_,_,rfl,⟨A3,c3,XV,GA,gc,LA,lc,(D.out.blk _ (cm (i:=1) rfl)).2,HL.out.JY (T2:={T with tb:=t3}) (X:=λb=>b=g) HP.out D.out.out mB Lw.out rfl rfl Ψ.out SS.out (λb e=>by omega) (λb=>r?) (λb hb=>s? (by omega))⟩,mB.rd Θ.out (λ_ ad e e2=>by have:=Lu.out ad e;omega),λad e=>by have:=Lu.out ad e;omega⟩⟩
   |true=>
    have HTH:=ah ρ;obtain⟨hk1,hk2⟩:=zN ρ;have ha:o_ (ms.map (·.s)) l<ms.length:=by rwa[ax]at hk1
    have S3:Hid (mf T.tb l kind=ms[o_ (ms.map (·.s)) l].m.s):=by
     show _=_;rw[<-HL.out.map,mf,B? HTH.out,eD,an ha,ms[o_ (ms.map (·.s)) l].hk];rfl
    have HMA:=ah (ar ha);obtain⟨b0,T6,rfl,hb,hc⟩:=HL.tab.at_ (by omega);have Yq:=ah (hc _ ha);have ha1:(0:I)<=((o_ (ms.map (·.s)) l:O):I):=by omega
    have ha2:((o_ (ms.map (·.s)) l:O):I)<(ms.length:I):=by omega
    have Yt:(bB w w3):=w_.below aa λ_ h=>h.elim;obtain⟨-,j1,j2,j3,j4,j5,j6,j7,j8,j9,j10,-⟩:=Yq.below Yt hb;have hbw:b0<w3.heap.size:=by have:=Yt.size;omega
    clear ρ hk2 hk1 Yq hc OS;generalize hae:o_ (ms.map (·.s)) l=at' at*;have HQO:Hid (jY w w ms[at'].m):=(HL.tab.ok _ HMA).k;generalize ms[at']=q0 at*;generalize q0.m=q at*;have δ:=aS (d.all 0 (aA q));have Uu:lY (λb=>b≠J.heap.size) q:=HQO.inn.mono λb hb=>by omega
    have wX:Hid (jY (lp w3 J 0 (aA q)) (lp w3 J 0 (aA q)).heap.size q/\Out (λ_=>False) w (lp w3 J 0 (aA q))/\Below F F (lp w3 J 0 (aA q))):=
     ⟨jY.lp (g:=J.heap.size) Uu _ 0 (HQO.later Yt),Out.lp (s? (by omega)) _ 0 w_,Below.lp (by omega) _ 0 μ⟩
    simp only[lp,au,ao,ak,am]at wX;have lH:=ah δ;clear δ;by_cases Y:q.s.kind=kind
    .have n1:(q.s.kind !=kind)=u?:=by simp[Y]
     have n2:(q.s.kind==kind)=t?:=by simp[Y]
     have n3:decide (q.s.kind=kind)=t?:=by simp[Y]
     have OX:Hid ((mf T.tb l kind).kind=kind):=by show _=_;rw[S3];exact Y
     have ZA:Hid (q.s=mf T.tb l kind):=S3.symm;have I4:Hid (lY (λb=>b≠J.heap.size) q):=Uu;clear Uu S3 Y;go_wp2_with fail;clear x n1 n2 n3 j1 j2 j3 j4 j5 j6 j7 j8 j9 j10;refine oO (λV=>jY V V q/\(cF w V)/\Below F F V) lH wX (λV d hV=>?_);clear lH wX;have OS:=ah hV.1;have w_:=ah hV.2.1;have μ:=ah hV.2.2;clear hV;go_loopw[64] (λi wr=>∃(k:O)(m:SkM),i=(aJ k)/\k<=items.length/\Hid (m.s=mF (mf T.tb l kind) (items.take k))/\Hid (kj (·=g) w wr [(J,136,aA m),(g,117,[b? (bH b0 T6) ms.length cap,jK T.gn,jN GA T.gl gc,jK T.lb,jN LA T.ll lc,jK T.tm,jK c.id,jJ c.budget,jK c.life,jK c.ka,jK c.kb])])/\Hid (jY wr wr m)/\Hid (lY (λb=>b≠J.heap.size) m)/\Hid (cF w wr)/\(bB F wr)) (λi _=>items.length-(av i).toNat)
     case atStart=>exact⟨0,q,rfl,be _,by show _=_;rw[ZA];rfl,d,OS,I4,w_,μ⟩
     clear d OS I4 w_ μ ZA;obtain⟨k,j,rfl,hkk,uL,H,oH,I4,HO,HB⟩:=hrel;have Rr:F.heap.size<=J.heap.size/\w.heap.size<=J.heap.size:=⟨ω,hs0⟩;generalize hbs:J.heap.size=bs at*;by_cases h1:k<items.length
     .have d1:decide ((k:I)<items.length)=t?:=ae;obtain⟨b,R,rfl,hb,hc⟩:=oP (n:=2) (λ_=>rfl) (by decide) HI (by omega);have i0:wr.cell? (cP b R k)=M (c? n? items[k].h):=((HO.below aa λ_ h=>h.elim).cell (p:=⟨b,R+k*2+0,Z⟩) hb).trans (hc k h1 0 _ (by decide) rfl);have i1:wr.cell? (cE b R k)=M (c? n? items[k].n):=((HO.below aa λ_ h=>h.elim).cell (p:=(cE b R k)) hb).trans (hc k h1 1 _ (by decide) rfl);have xO:(0:I)<=k:=by omega
      have xN:(k:I)<items.length:=by omega
      have hbw:b<wr.heap.size:=by have:=HO.size;omega
      clear hc;have x:=fk (H.facts);have OU:=ah (t7 (items.take k) (vM oX (l:=l) HK) λy hy=>hi y (dy hy));have OV:Hid (GK j.s):=by show GK _;rw[uL];exact OU.1
      have E_:Hid (wQ j.s items[k].h items[k].n=mF (mf T.tb l kind) (items.take (k+1))):=by show _=_;rw[uL,aj h1];unfold mF;rw[fE];rfl
      have HU:=ah (hi items[k] (ar h1));clear OU;go_wp2_with fail;refine kq (λV=>jY V V j/\(cF w V)/\Below F F V) (H.al (m? #[jK items[k].h,jK items[k].n] 39)) ⟨oH.later ((Below.refl _ wr).alloc aa _),HO.alloc _,HB.alloc HB.size _⟩ (λV d hV=>?_);obtain⟨N,G,AQ⟩:=hV;clear x H oH HO HB;refine(GP j OV items[k].h items[k].n HU.1 HU.2 V (HE.later (G.below aa λ_ h=>h.elim)) N).mono ?_;rintro e L⟨W,Mh,rfl,tQ,wC,v⟩;have Vv:Hid (W.s=mF (mf T.tb l kind) (items.take (k+1))):=by show _=_;rw[Mh,E_]
      have av2:bs<V.heap.size:=(d.blk _ ab).2.lt;have Δ:=v.size;replace d:=ah (d.call v);have δ:=aS (d.all 0 (aA W));have qO:lY (λb=>b≠bs) W:=wC.inn.mono λb(hb:V.heap.size<=b)=>by omega
      have wX:Hid (jY (lp L bs 0 (aA W)) (lp L bs 0 (aA W)).heap.size W/\Out (λ_=>False) w (lp L bs 0 (aA W))/\Below F F (lp L bs 0 (aA W))):=
       ⟨jY.lp (g:=bs) qO _ 0 tQ,Out.lp (s? Rr.2) _ 0 (G.call v),Below.lp Rr.1 _ 0 (AQ.trans (v.mono AQ.size))⟩
      simp only[lp,au,ao,ak,am]at wX;have lH:=ah δ;have YE:=ah qO;have x:=fk (d.facts);clear δ N G AQ Mh tQ wC v qO i0 i1 E_ OV HU;unfold nT;go_wp2_with fail;clear x d;go_roundw
      case rel=>exact⟨k+1,W,by go_num,by omega,Vv,lH,wX.1,YE,wX.2.1,wX.2.2⟩
      simp[av];omega
     have Γ:k=items.length:=by omega
     subst Γ;have d1:decide ((items.length:I)<items.length)=u?:=by simp
     have OU:=ah (t7 items (vM oX (l:=l) HK) hi);have ε:Hid (j.s=mF (mf T.tb l kind) items):=by show _=_;rw[uL,dP]
     have OV:Hid (GK j.s):=by show GK _;rw[ε];exact OU.1
     clear OU uL;go_wp2_with fail;refine oO (λV=>jY V V j/\(cF w V)/\Below F F V) H ⟨oH,HO,HB⟩ (λV d hV=>?_);have Fc:=ah ((hV.2.1.below aa λ_ h=>h.elim).drew);have S2:=ah hV.2.2.drew;have SL:Hid (jY V.drew V.drew.heap.size j):=⟨hV.1.e,hV.1.c,hV.1.g⟩;replace d:=ah d.drew;have EG:=(d.blk _ (ac 1)).2.lt;have QS:Hid (jE Tryz.prog 96 #[b? (bH b0 T6) ms.length cap,g? #[jN BA l bc,jJ j.s.kind,jJ j.s.level,jN j.ea j.s.e j.ec,jJ j.s.bits,jL j.s.regs,jJ j.s.rows,jJ j.s.cols,jN j.ca j.s.c j.cc,jJ j.s.fine,jN j.ga j.s.g j.gc,jK T.tm]] V.drew (rz V.drew (we T.tb ⟨l,mF (mf T.tb l kind) items,T.tm⟩))):=by
      have:=FL (bH b0 T6) ms cap HL.cap ⟨⟨l,j.s,T.tm⟩,j,BA,bc,rfl⟩ ⟨ξ,OV,hu⟩ V.drew (HT.later Fc) ((HL.later Fc).Ku oX) ⟨Wu.later S2,SL⟩;have e2:({l:=l,k:=j.s,seen:=T.tm}:mq)=⟨l,mF (mf T.tb l kind) items,T.tm⟩:=by rw[ε]
      rw[HL.map]at this;show jE _ _ _ _ _;rw[<-e2];exact this
     have q0:=fk (d.at_ 0);have q1:=fk (d.at_ 1);obtain⟨y0,y1,y2,y3,y4,y5,y6,y7,y8,y9⟩:=q0;obtain⟨k0,-,-,-,-,k5,-⟩:=q1;clear hV SL S2 Wu OV ε;refine bi1 (S:=(λw'=>w'.cell? ⟨g,0,Z⟩=M (b? (bH b0 T6) ms.length cap)/\w'.cell? ⟨g,5,Z⟩=M (c? n? T.tm)/\(oZ 10 w' bs j))) (by kernel_rfl) ⟨k0,k5,y0,y1,y2,y3,y4,y5,y6,y7,y8,y9⟩ (λf=>?_);refine re f ?_;generalize V.drew=V2 at*;refine pL 13 λK hK=>?_;go_simp;refine QS.mono ?_;rintro e L⟨v,h8⟩;have Δ:=v.size;have Ξ:=Fc.size;have Ω:(bB w L):=Fc.trans (v.mono Ξ);replace d:=ah (d.call v);clear QS v y0 y1 y2 y3 y4 y5 y6 y7 y8 y9 k0 k5;have q0:=fk (d.at_ 0);have q1:=fk (d.at_ 1);obtain⟨y0,y1,y2,y3,y4,y5,y6,y7,y8,y9⟩:=q0;obtain⟨k0,-,-,-,-,k5,-⟩:=q1
     cases z:we T.tb ⟨l,mF (mf T.tb l kind) items,T.tm⟩with
     |none=>
      rw[z]at h8;simp only at h8;subst h8;have C:Hid (r=.error 120):=by show _=_;rw[<-HR.out];unfold me;rw[A? (by have:=ZC.out;omega),DF.out];simp only;rw[B? HK.out,B? OX.out,z]
      refine hK.out _ _ ⟨k0,k5,y0,y1,y2,y3,y4,y5,y6,y7,y8,y9⟩ (λf=>?_);refine az ?_;refine re f ?_;refine hdn ?_;clear f;clear y0 y1 y2 y3 y4 y5 y6 y7 y8 y9 k0 k5;have x:=fk (d.facts);go_wp2_with fail;refine kh (λ_=>True) d trivial (λV9 D _=>?_);clear d x;go_ret2;exact⟨D.out.out,by rw[C.out];exact⟨rfl,_,_,_,_,_,_,(D.out.blk _ (cm (i:=1) rfl)).2⟩⟩
     |some t=>
      rw[z]at h8;obtain⟨A2,c2,cs,rfl,κ,χ,hlo⟩:=h8;have β:Hid (r=match pI c.budget 100 t []with
       |none=>.error 130
       |some (t,ps)=>.ok ({T with tb:=t},ps)):=by show _=_;rw[<-HR.out];unfold me;rw[A? (by have:=ZC.out;omega),DF.out];simp only;rw[B? HK.out,B? OX.out,z];try rfl
      have Vx:Hid (GT t):=by
       have ψ:GS ⟨l,mF (mf T.tb l kind) items,T.tm⟩:=⟨ξ,(t7 items (vM oX (l:=l) HK) hi).1,hu⟩;unfold we at z;split at z
       .cases z
       rename_i hf
       cases z
       exact P7 oX ψ (by simpa using hf)
      have QF:Hid (jE Tryz.prog 97 #[jN A2 cs c2,jJ c.budget] L (sJ L (pI c.budget 100 t []))):=by
       have:=Gg A2 cs c2 c.budget hc.b0 hc.b1 L (HT.later Ω) ⟨χ.tab,by rw[κ];exact Vx⟩;rw[κ]at this;exact this
      refine hK.out _ _ ⟨k0,k5,y0,y1,y2,y3,y4,y5,y6,y7,y8,y9⟩ (λf=>?_);refine az ?_;refine re f ?_;refine hdn ?_;have x:=fk (d.facts);go_wp2_with fail;refine QF.mono ?_;rintro e w9⟨nu,h9⟩;have hs10:=nu.size;replace d:=ah (d.call nu);have hg8:g<L.heap.size:=jS;have x:=fk (d.facts)
      cases Dg:pI c.budget 100 t []with
      |none=>
       rw[Dg]at h9;simp only at h9;subst h9;have C:Hid (r=.error 130):=by show _=_;rw[β,Dg]
       have HZ:=aT (ah (d.put 1 0 aO));go_wp2_with fail;refine kh (λ_=>True) HZ trivial (λV9 D _=>?_);go_ret2;exact⟨D.out.out,by rw[C.out];exact⟨rfl,_,_,_,_,_,_,(D.out.blk _ (cm (i:=1) rfl)).2⟩⟩
      |some tp=>
       obtain⟨t3,ps⟩:=tp;rw[Dg]at h9;obtain⟨A3,c3,XV,A4,c4,rfl,α,EE,γ,Rh,Rj⟩:=h9;have C:Hid (r=.ok ({T with tb:=t3},ps)):=by show _=_;rw[β,Dg]
       have Lw:=ah α;have Ψ:=ah EE;have SS:=ah γ;have Θ:=ah Rh;have Lu:=ah Rj;have HZ:=aT (ah (d.put 1 0 (cU A3 XV c3)));clear β Dg α EE γ Rh Rj;go_wp2_with fail;refine kh (λV=>Out (·=g) w9 V) HZ ((Out.refl (λb=>b=g) w9).setCell (p:=⟨g,0,Z⟩) (r? rfl) _) (λV9 D mB=>?_);clear d x HZ;go_ret2;exact⟨D.out.out,by rw[C.out];exact⟨_,_,rfl,⟨A3,c3,XV,GA,gc,LA,lc,(D.out.blk _ (cm (i:=1) rfl)).2,HL.out.JY (T2:={T with tb:=t3}) (X:=λb=>b=g) HP.out D.out.out mB Lw.out rfl rfl Ψ.out SS.out (λb e=>jS) (λb=>r?) (λb hb=>s? jS)⟩,mB.rd Θ.out (λ_ ad e e2=>by have:=Lu.out ad e;omega),λad e=>by have:=Lu.out ad e;omega⟩⟩
    have n1:(q.s.kind !=kind)=t?:=by simp[Y]
    have n2:(q.s.kind==kind)=u?:=by simp[Y]
    have n3:decide (q.s.kind=kind)=u?:=by simp[Y]
    have OX:Hid (¬(mf T.tb l kind).kind=kind):=by show¬_;rw[S3];exact Y
    have C:Hid (r=.error 101):=by show _=_;rw[<-HR.out];unfold me;rw[A? (by have:=ZC.out;omega),DF.out];simp only;rw[B? HK.out,A? OX.out]
    go_wp2_with fail;refine kh (λ_=>True) lH trivial (λV9 D _=>?_);go_ret2;exact⟨D.out.out,by rw[C];exact⟨rfl,_,_,_,_,_,_,(D.blk _ (ac 1)).2⟩⟩
  have HK:=ah hk;refine(JX kind hk F).mono ?_;rintro e J⟨rfl,θ⟩;replace H0:=ah (H0.call θ);have x:=fk (H0.facts);have C:Hid (r=.error 101):=by show _=_;rw[<-HR];unfold me;rw[A? (by have:=ZC;omega),DF];simp only;rw[A? HK]
  simp only[xl];have HA:=ah (H0.alloc J 136 [jJ 0,jJ 0,jM,jJ 0,aF,jJ 0,jJ 0,jM,jJ 0,jM]);go_wp2_with fail;refine kh (λ_=>True) HA trivial (λV9 D _=>?_);go_ret2;exact⟨D.out.out,by rw[C];exact⟨rfl,_,_,_,_,_,_,(D.blk _ (ac 1)).2⟩⟩
structure ReqM where
 r:s9
 ia:w? jG
 ic:O
 ta:w? jG
 tc:O
def qM(l:E I):E jD:=l.map (br n?)
def uD(m:ReqM):E jD:=[jJ m.r.op,jK m.r.now,jL m.r.labels,jL m.r.scope,jJ m.r.kind,jN m.ia m.r.items m.ic,jK m.r.h,jK m.r.to,jK m.r.id,jN m.ta m.r.jV m.tc]
def Ij(x:Cu):E jD:=[jK x.oK,jJ x.role,jK x.YR]
structure ReqOk(w:jC)(B:O)(m:ReqM):Prop where
 i:Rd w B m.ia (m.r.items.flatMap Q8)
 t:Rd w B m.ta (qM m.r.jV)
 ic:m.r.items.length<=m.ic
 tc:m.r.jV.length<=m.tc
structure ActM where
 x:Cu
 m:ReqM
def xY(a:ActM):E jD:=Ij a.x++uD a.m
def Bt(a:ActM):(xY a).length=13:=rfl
structure Act where
 x:Cu
 r:s9
structure Acts(w:jC)(B:O)(A:w? jG)(l:E ActM):Prop where
 rd:Rd w B A (l.flatMap xY)
 ok:∀a∈l,ReqOk w B a.m
structure ReqRaw(m:ReqM):Prop where
 now:U m.r.now
 labels:m.r.labels.size<=maxLen
 scope:m.r.scope.size<=maxLen
 items:m.ic<=maxLen
 iu:∀x∈m.r.items,U x.h/\U x.n
 h:U m.r.h
 to:U m.r.to
 id:U m.r.id
 jV:m.tc<=maxLen
 tu:∀x∈m.r.jV,U x
def rp(s:v?)(n:O):v?:=s.extract 0 (min s.size n)
def lu(r:s9):s9:={r with labels:=rp r.labels 300,scope:=rp r.scope 300,items:=r.items.take 52,jV:=r.jV.take 10}
def Dq(s:v?)(n:O):(rp s n).size<=n:=by
 unfold rp;rw[fI];omega
def Hq{m:ReqM}(h:ReqRaw m):lN (lu m.r):=
 ⟨h.now,Dq _ _,Dq _ _,by show(List.take _ _).length<=_;rw[cv];omega,λx a=>h.iu x (dy a),h.h,h.to,h.id,by show(List.take _ _).length<=_;rw[cv];omega,λx a=>h.tu x (dy a)⟩
section
variable{w w':jC}{m:ReqM}{A:w? jG}{l:E ActM}
def ReqOk.later(h:ReqOk w w m)(a:Below w w w'):ReqOk w' w' m:=⟨(Rd.below h.i a).more a.size,(Rd.below h.t a).more a.size,h.ic,h.tc⟩
def Acts.later(h:Acts w w A l)(b:Below w w w'):Acts w' w' A l:=⟨(Rd.below h.rd b).more b.size,λa c=>(h.ok a c).later b⟩
end
structure pO(X:O->Prop)(w:jC)(A:w? jG)(xs:E jD):Prop where
 rd:Rd w w A xs
 x:xs≠[]->∀ad,A=M ad->¬X ad.block
section
variable{X Y:O->Prop}{w w':jC}{A:w? jG}{xs:E jD}
def pO.out(h:pO X w A xs)(a:Out X w w'):pO X w' A xs:=⟨a.rd h.rd h.x,h.x⟩
def pO.later(h:pO X w A xs)(a:(bJ w w')):pO X w' A xs:=h.out (Out.of a)
def pO.lt(h:pO X w A xs)(b:xs≠[]):∀a,A=M a->a.block<w.heap.size:=uS h.rd b
def pO.wide(h:pO X w A xs)(f:∀b,Y b->X b\/w.heap.size<=b):pO Y w A xs:=⟨h.rd,λe c a d=>(f _ d).elim (h.x e c a) λq=>by have:=h.lt e c a;omega⟩
def pO.of(h:Rd w w A xs)(f:∀b,X b->w.heap.size<=b):pO X w A xs:=⟨h,λe d a c=>by have:=uS h e d a;have:=f _ c;omega⟩
end
def NX(C:Col):E jD:=C.map λx=>c? n? x.1.id
def wh(G:E O):E jD:=G.map λg=>e? (aC g)
def ae9(ka kb:I)(d:w? jG)(n a:O)(c:w? jG)(b:O):E jD:=[jK ka,jK kb,b? d n a,b? c n b]
structure kE(X:O->Prop)(w:jC)(cb:O)(G:E O)(ka kb:I)(C:Col):Prop where
 blk:∃IA ic TA tc,jR w cb 81 (ae9 ka kb IA C.length ic TA tc).toArray/\pO X w IA (NX C)/\pO X w TA (wh G)
 cx:¬X cb
 len:G.length=C.length
 nd:G.Nodup
 gx:∀g∈G,X g
 g4:∀g∈G,4<=g
 ten:∀(k:O)(hk:k<C.length)(hg:k<G.length),kB w (λb=>¬X b) G[k] C[k].1 C[k].2
section
variable{X Y:O->Prop}{w w':jC}{cb:O}{G:E O}{ka kb:I}{C:Col}
def kE.out(h:kE X w cb G ka kb C)(f:Out Y w w')(d:∀b,Y b->X b/\b∉G):kE X w' cb G ka kb C:=by
 obtain⟨r,j,o,l,p,q,n⟩:=h.blk;have a:Out X w w':=f.mono λb _ c=>(d b c).1;exact⟨⟨r,j,o,l,a.blk p h.cx,q.out a,n.out a⟩,h.cx,h.len,h.nd,h.gx,h.g4,λk m g=>(h.ten k m g).out f (λb c e=>c (d b e).1) λe=>(d _ e).2 (ar g)⟩
def kE.later(h:kE X w cb G ka kb C)(a:(bJ w w')):kE X w' cb G ka kb C:=h.out (Y:=λ_=>False) (Out.of a) λ_ e=>e.elim
def kE.wide(h:kE X w cb G ka kb C)(a:∀b,Y b->X b\/w.heap.size<=b)(m:∀g∈G,Y g):kE Y w cb G ka kb C:=by
 obtain⟨r,d,n,f,c,p,l⟩:=h.blk;refine⟨⟨r,d,n,f,c,p.wide a,l.wide a⟩,λe=>(a _ e).elim h.cx λq=>by have:=c.lt;omega,h.len,h.nd,m,h.g4,λk j o=>(h.ten k j o).lt.mono λb hb e=>(a _ e).elim hb.1 λq=>qhc⟩
def kE.XJ(h:kE X w cb G ka kb C)(c:g∈G):g<w.heap.size:=by
 obtain⟨k,a,rfl⟩:=dR c;obtain⟨_,_,_,_,_,_,_,b⟩:=h.ten k (by rw[<-h.len];exact a) a;exact b.blk.lt
def kE.set(h:kE X w cb G ka kb C){k:O}(D:k<C.length)(g:k<G.length){T:kM}(n:Out (·=G[k]) w w')(y:kB w' (λb=>¬X b\/w.heap.size<=b) G[k] C[k].1 T)(t:∀b,X b->b<w.heap.size):kE X w' cb G ka kb (C.set k (C[k].1,T)):=by
 obtain⟨A,v,r,x,s,z,o⟩:=h.blk;have c:Out X w w':=n.mono λb _ d=>by rw[d];exact h.gx _ (ar g)
 have p:NX (C.set k (C[k].1,T))=NX C:=by
  unfold NX;rw[iJ];refine iO lV λi B m=>?_;rw[eW];split
  .subst_vars;simp
  rfl
 refine⟨⟨A,v,r,x,by rw[eq];exact c.blk s h.cx,by rw[p];exact z.out c,o.out c⟩,h.cx,by rw[eq];exact h.len,h.nd,h.gx,h.g4,λj m a=>?_⟩;by_cases e:k=j
 .subst e;rw[fP];exact y.mono λb d=>d.elim id λq e=>by have:=t b e;omega
 rw[List.getElem_set_ne e];refine(h.ten j (by simpa using m) a).out n (λb d f=>d (by rw[f];exact h.gx _ (ar g))) λf=>?_;rcases iD e with l|l
 .exact cj.1 h.nd k j g a l f.symm
 exact cj.1 h.nd j k a g l f
def kE.same(h:kE X w cb G ka kb C)(c:k<C.length)(e:k<G.length)(a:Out (·=G[k]) w w')(d:kB w' (λb=>¬X b) G[k] C[k].1 C[k].2)(f:∀b,X b->b<w.heap.size):kE X w' cb G ka kb C:=by
 have:=h.set c e (T:=C[k].2) a (d.mono λb=>r?) f;rwa[show(C[k].1,C[k].2)=C[k]from rfl,ie]at this
end
def IR(w:jC)(B:O)(v:jD)(r:Rep):Prop:=∃A k c b,v=g? #[jJ r.e,jK r.n,jN A r.notices k,jN c r.entries b]/\(Rd w w A (lC r.notices)/\∀a,A=M a->B<=a.block)/\Rd w w c (r.entries.flatMap nE)/\∀a,c=M a->B<=a.block
def sK(X:O->Prop)(w:jC)(cb:O)(G:E O)(ka kb:I)(r:Col×Rep)(e:bi6)(w':jC):Prop:=
 Out (·∈G) w w'/\kE X w' cb G ka kb r.1/\∃v,e=a? v/\IR w' w v r.2
def vP(l:E I)(x:I):I:=match l.findIdx? (·==x)with|none=> -1|some k=>(k:I)
def MY{l:E I}{x:I}(h:∀j(a:j<l.length),l[j]≠x):vP l x= -1:=by
 have:l.findIdx? (·==x)=Z:=by
  rw[fU];intro y b;obtain⟨j,a,rfl⟩:=dR b;simpa using h j a
 unfold vP;rw[this]
def MX{l:E I}{x:I}(b:k<l.length)(e:l[k]=x)(h:∀j(a:j<l.length),j<k->l[j]≠x):vP l x=k:=by
 have:l.findIdx? (·==x)=M k:=by
  rw[eP];exact⟨b,by simpa using e,λj a=>by simpa using h j jS a⟩
 unfold vP;rw[this]
def Ja(A:w? jG)(l:E I)(cap:O)(x:I)(F:l.length<=1000)(w:jC)(h:Rd w w A (qM l)):jE Tryz.prog 49 #[jN A l cap,jK x] w λe w'=>e=a? (c? o? (vP l x))/\w'=w:=by
 have t:=ah h;clear h;go_in;go_wp2_with fail;go_loopw[8] (λi wr=>∃k:O,i=(aJ k)/\k<=l.length/\Hid (∀j(a:j<l.length),j<k->l[j]≠x)/\wr=w) (λi _=>l.length-(av i).toNat)
 case atStart=>exact⟨0,rfl,be _,λj _ h=>jS,rfl⟩
 obtain⟨k,rfl,G,m,rfl⟩:=hrel;by_cases o:k<l.length
 .have d1:decide ((k:I)<l.length)=t?:=ae;obtain⟨b,d,rfl,D,q⟩:=t (λe=>by have n:=C? ez e;unfold qM at n;rw[ax,dp]at n;omega);have K:wr.cell? ⟨b,d+k,Z⟩=M (c? n? l[k]):=q k _ (by unfold qM;rw[eD,an o];rfl);have H:(0:I)<=k:=jS;have J:(k:I)<l.length:=jS;clear q;by_cases e:l[k]=x
  .have f:Hid (vP l x=k):=MX o e m;have B:(x==l[k])=t?:=by simp[e]
   have C:decide (x=l[k])=t?:=by simp[e]
   generalize l[k]=y at*;clear e;go_wp2;go_ret;exact⟨by rw[f];rfl,rfl⟩
  have B:(x==l[k])=u?:=by simp;exact λh=>e h.symm
  have C:decide (x=l[k])=u?:=by simp;exact λh=>e h.symm
  have v:Hid (∀j(a:j<l.length),j<k+1->l[j]≠x):=λj a r=>by
   by_cases z:j=k
   .subst z;exact e
   exact m j a jS
  generalize l[k]=y at*;clear e;go_wp2;go_roundw
  case rel=>exact⟨k+1,CJ,jS,v,trivial⟩
  exact No
 have g:k=l.length:=jS;subst g;have d1:decide ((l.length:I)<l.length)=u?:=lV;have f:Hid (vP l x= -1):=MY λj a=>m j a a;go_wp2;go_ret;exact⟨by rw[f];rfl,rfl⟩
def Ih(p:jG)(w:jC):jE Tryz.prog 29 #[bT p] w λe w'=>e=a? (h? u?)/\w'=w:=by
 go_in;go_wp2;go_ret;exact⟨rfl,rfl⟩
def Ad(G:E O)(k:w? O):jD:=match k with|none=>e? Z|some k=>match G[k]? with|none=>e? Z|some g=>e? (aC g)
def RR(C:Col)(id:I):vP (C.map (·.1.id)) id=match m6 C id with|none=> -1|some k=>(k:I):=by
 unfold vP m6;rw[List.findIdx?_map];rfl
def EB(C:Col):NX C=qM (C.map (·.1.id)):=by unfold NX qM;rw[fY];rfl
def uA(X:O->Prop)(cb:O)(G:E O)(ka kb:I)(C:Col)(id:I)(J:C.length<=100)(w:jC)(h:kE X w cb G ka kb C):jE Tryz.prog 26 #[jO cb,jK id] w λe w'=>e=a? (Ad G (m6 C id))/\w'=w:=by
 obtain⟨x,s,F,K,c,q,p⟩:=h.blk;have c2:=c.cell 2;have z:=c.cell 3;simp only[ae9,bh,bm,bo]at c2 z;have v:=c.lt;have f:=q.rd;rw[EB]at f;have Q:=Ja x (C.map (·.1.id)) s id qlm w f;rw[RR,ax]at Q;have d:=ah Q;have y:=ah h.len;have r:=ah p.rd;clear Q f h c q p
 cases a:m6 C id with
 |none=>
  rw[a]at d;go_in;go_wp2_with fail;refine d.mono ?_;rintro e A⟨rfl,rfl⟩;go_wp2;go_ret;exact⟨rfl,rfl⟩
 |some k=>
  rw[a]at d;obtain⟨t,-⟩:=EL a;have o:k<G.length:=by rw[y];exact t
  obtain⟨b,j,rfl,B,n⟩:=r (λe=>by have m:=C? ez e;unfold wh at m;rw[ax,dp]at m;omega);have L:w.cell? ⟨b,j+k,Z⟩=M (e? (M ⟨G[k],0,Z⟩)):=n k _ (by unfold wh;rw[eD,an o];rfl);have l:Ad G (M k)=e? (M ⟨G[k],0,Z⟩):=by simp only[Ad,an o]
  rw[l];have D:(0:I)<=k:=jS;have H:(k:I)<C.length:=jS;have d1:decide ((k:I)<0)=u?:=lV;generalize G[k]=g at*;clear n l a;go_in;go_wp2_with fail;refine d.mono ?_;rintro e A⟨rfl,rfl⟩;go_wp2;go_ret;exact⟨rfl,rfl⟩
def Bg(h:GT t):0<=kJ t/\kJ t<=2000000:=by
 have a:∀l:E mq,(∀s∈l,GS s)->0<=kJ l/\kJ l<=100000*(l.length:I):=λl=>by
  induction l with
  |nil=>intro _;simp[kJ]
  |cons x l d=>
   intro b;have f:=Ie (b x lV);have e:=d λs c=>b s (by simp[c]);simp only[kJ,df,List.sum_cons,c_]at e⊢;omega
 have:=a t h.all;have:=h.len;omega
def JN{t:E y?}(h:vt t=M l):setB l=t?:=by
 unfold vt at h;split at h
 .rename_i e
  cases h
  exact CP e.choose_spec
 cases h
variable{ps:E O}
def WK(h:GT T.tb)(k:GG T.gn T.gl)(g:U T.tm)(hi:∀x∈items,U x.h/\U x.n)(e:me c T labels kind items=.ok (T2,ps)):SC c T T2:=by
 unfold me at e;split at e
 .cases e
 split at e
 .cases e
 rename_i l f;split at e
 .rename_i j;split at e
  .split at e
   .cases e
   rename_i t a;split at e
   .cases e
   rename_i q m o
   cases e
   have d:GS ⟨l,mF (mf T.tb l kind) items,T.tm⟩:=⟨JN f,(t7 items (vM h (l:=l) j) hi).1,g⟩;have b:GT t:=by
    unfold we at a;split at a
    .cases a
    rename_i p
    cases a
    exact P7 h d (by simpa using p)
   exact⟨(Wf _ _ _ _ b o).1,k,rfl,rfl,rfl⟩
  cases e
 cases e
def zQ(h:me c T labels kind items=.ok (T2,ps)):T2.ll=T.ll/\T2.lb=T.lb/\T2.tm=T.tm/\T2.gn=T.gn/\T2.gl=T.gl:=by
 unfold me at h;repeat' split at h
 all_goals first|(cases h;done)|(cases h;exact⟨rfl,rfl,rfl,rfl,rfl⟩)
structure vN(c:lO)(T T':kM)(now:I)(text:v?):Prop where
 g:nH c T'
 tm:T'.tm=now
 le:T.tm<=now
 last:kO T'.ll=kO T.ll+1
 ent:∃x,T'.ll.getLast?=M x/\x.text=text/\x.tm=now
def rP{step:kM->K? I (kM×α)}{a:α}(h:nH c T)(b:U now)(hs:∀T2 a,step (ko c T now)=.ok (T2,a)->SC c (ko c T now) T2)(e:EQ c T now text step=.ok (T3,a)):vN c T T3 now text/\∃T2,step (ko c T now)=.ok (T2,a)/\T3.tb=T2.tb/\T3.gn=T2.gn/\T3.gl=T2.gl:=by
 obtain⟨j,l,f,g,d,k⟩:=ax4 h b hs e;exact⟨⟨j,f,jS,g,d⟩,k⟩
def wN(h:nH c T):GT (ko c T now).tb:=h.tb.filter _
def wy(b:nH c T)(d:U now)(hi:∀x∈items,U x.h/\U x.n)(e:nl c T now labels kind items=.ok (T2,ps)):vN c T T2 now "ingest".toByteArray/\T2.gn=T.gn/\T2.gl=T.gl/\∃T3,me c (ko c T now) labels kind items=.ok (T3,ps)/\T2.tb=T3.tb:=by
 obtain⟨o,T3,f,l,m,j⟩:=rP b d (λT2 a e=>WK (wN b) b.gg d hi e) e;obtain⟨_,_,_,g,k⟩:=zQ f;exact⟨o,m.trans g,j.trans k,T3,f,l⟩
def TN{h a:I}(d:nH c T)(k:U now)(e:pM c T now sc kind h=.ok (T2,a)):vN c T T2 now "query".toByteArray/\T2.gn=T.gn/\T2.gl=T.gl/\T2.tb=(ko c T now).tb/\∃s,kA (ko c T now).tb sc kind=.ok s/\a=rt s h:=by
 have b:∀T2 a,(kA (ko c T now).tb sc kind).map (λs=>(ko c T now,rt s h))=.ok (T2,a)->T2=ko c T now/\∃s,kA (ko c T now).tb sc kind=.ok s/\a=rt s h:=λT2 a e=>by
  cases f:kA (ko c T now).tb sc kind with
  |error er=>rw[f]at e;cases e
  |ok s=>rw[f]at e;cases e;exact⟨rfl,s,rfl,rfl⟩
 obtain⟨j,T3,o,g,m,l⟩:=rP d k (λT2 a e=>by
  obtain⟨rfl,_⟩:=b T2 a e;exact⟨wN d,d.gg,rfl,rfl,rfl⟩) e
 obtain⟨rfl,n⟩:=b _ _ o;exact⟨j,m,l,g,n⟩
def Ux{to a:I}(d:nH c T)(l:U now)(j:U to)(hs:sc.size<=1000)(e:sy c T now to sc=.ok (T2,a)):vN c T T2 now "grant".toByteArray/\T2.tb=(ko c T now).tb/\lW T.gn T.gl to sc=.ok (T2.gn,T2.gl,a):=by
 have b:∀T2 a,(lW T.gn T.gl to sc).map (λr=>(({ko c T now with gn:=r.1,gl:=r.2.1}:kM),r.2.2))=.ok (T2,a)->∃r,lW T.gn T.gl to sc=.ok r/\T2={ko c T now with gn:=r.1,gl:=r.2.1}/\a=r.2.2:=λT2 a e=>by
  cases g:lW T.gn T.gl to sc with
  |error er=>rw[g]at e;cases e
  |ok s=>rw[g]at e;cases e;exact⟨s,rfl,rfl,rfl⟩
 obtain⟨k,T3,p,h,n,m⟩:=rP d l (λT2 a e=>by
  obtain⟨r,f,rfl,_⟩:=b T2 a e;exact⟨wN d,(Ul d.gg j hs f).1,rfl,rfl,rfl⟩) e
 obtain⟨r,f,rfl,rfl⟩:=b _ _ p;exact⟨k,h,by rw[n,m];exact f⟩
variable{a:Unit}
def ZN{id:I}(d:nH c T)(k:U now)(e:D4 c T now id=.ok (T2,a)):vN c T T2 now "revoke".toByteArray/\T2.tb=(ko c T now).tb/\T2.gn=T.gn/\lr T.gl id=.ok T2.gl:=by
 have b:∀T2(a:Unit),(lr T.gl id).map (λl=>(({ko c T now with gl:=l}:kM),()))=.ok (T2,a)->∃l,lr T.gl id=.ok l/\T2={ko c T now with gl:=l}:=λT2 a e=>by
  cases g:lr T.gl id with
  |error er=>rw[g]at e;cases e
  |ok s=>rw[g]at e;cases e;exact⟨s,rfl,rfl⟩
 obtain⟨j,T3,p,h,n,m⟩:=rP d k (λT2 a e=>by
  obtain⟨r,f,rfl⟩:=b T2 a e;exact⟨wN d,PU d.gg f,rfl,rfl,rfl⟩) e
 obtain⟨r,f,rfl⟩:=b _ _ p;exact⟨j,h,n,by rw[m];exact f⟩
def Qk(b:nH c T)(d:U now)(e:CV c T now text=.ok (T2,a)):vN c T T2 now text/\T2.tb=(ko c T now).tb/\T2.gn=T.gn/\T2.gl=T.gl:=by
 obtain⟨j,T3,k,g,h,f⟩:=rP b d (λT2 a e=>by cases e;exact⟨wN b,b.gg,rfl,rfl,rfl⟩) e
 cases k
 exact⟨j,g,h,f⟩
def ZT{r:s9}{y:Rep}(l:nH c T)(f:lN r)(e:p6 c T r=.ok (T2,y)):nH c T2/\y.e=0/\((T2=T/\r.op≠1/\r.op≠2/\r.op≠4/\r.op≠5)\/((r.op=1\/r.op=2\/r.op=4\/r.op=5)/\T2.tm=r.now/\T.tm<=r.now/\kO T2.ll=kO T.ll+1))/\(r.op≠4->r.op≠5->T2.gn=T.gn/\T2.gl=T.gl):=by
 unfold p6 at e;split at e
 .rename_i d
  cases b:nl c T r.now r.labels r.kind r.items with
  |error er=>rw[b]at e;cases e
  |ok x=>
   rw[b]at e
   cases e
   obtain⟨a,m,j,_⟩:=wy l f.now f.iu (show nl c T r.now r.labels r.kind r.items=.ok (x.1,x.2)from b);exact⟨a.g,rfl,s? ⟨r? d,a.tm,a.le,a.last⟩,λ_ _=>⟨m,j⟩⟩
 rename_i q;split at e
 .rename_i d
  cases b:pM c T r.now r.scope r.kind r.h with
  |error er=>rw[b]at e;cases e
  |ok x=>
   rw[b]at e
   cases e
   obtain⟨a,m,j,_⟩:=TN l f.now (show pM c T r.now r.scope r.kind r.h=.ok (x.1,x.2)from b);exact⟨a.g,rfl,s? ⟨s? (r? d),a.tm,a.le,a.last⟩,λ_ _=>⟨m,j⟩⟩
 rename_i o;split at e
 .rename_i d
  cases b:sy c T r.now r.to r.scope with
  |error er=>rw[b]at e;cases e
  |ok x=>
   rw[b]at e
   cases e
   obtain⟨a,m,j⟩:=Ux l f.now f.to (by have:=f.scope;omega) (show sy c T r.now r.to r.scope=.ok (x.1,x.2)from b);exact⟨a.g,rfl,s? ⟨s? (s? (r? d)),a.tm,a.le,a.last⟩,λk=>H? d k⟩
 rename_i n;split at e
 .rename_i d
  cases b:D4 c T r.now r.id with
  |error er=>rw[b]at e;cases e
  |ok x=>
   rw[b]at e
   cases e
   obtain⟨a,m,j,_⟩:=ZN l f.now (show D4 c T r.now r.id=.ok (x.1,x.2)from b);exact⟨a.g,rfl,s? ⟨s? (s? (s? d)),a.tm,a.le,a.last⟩,λ_ k=>H? d k⟩
 rename_i p;split at e<;>(cases e;exact⟨l,rfl,r? ⟨rfl,q,o,n,p⟩,λ_ _=>⟨rfl,rfl⟩⟩)
def T_{r:s9}(k:nH c T)(h:lN r)(e:qt c T r=.ok (T2,a)):vN c T T2 r.now "rollup".toByteArray/\T2.tb=(ko c T r.now).tb/\T2.gn=T.gn/\T2.gl=T.gl/\mw r.scope=t?/\1<=r.kind/\r.kind<=3/\¬8<r.jV.length:=by
 unfold qt at e;split at e
 .cases e
 rename_i f;split at e
 .rename_i d;split at e
  .rename_i b;obtain⟨l,m,g,j⟩:=Qk k h.now e;exact⟨l,m,g,j,d,b.1,b.2,f⟩
  cases e
 cases e
def nR.set{C:Col}(h:nR C){k:O}(g:k<C.length){T:kM}(l:nH C[k].1 T):nR (C.set k (C[k].1,T)):=by
 refine⟨λx a=>?_,λx a=>?_,?_⟩
 .rcases dO a with a|a
  .exact h.cfg x a
  rw[a];exact h.cfg C[k] (ar g)
 .rcases dO a with a|a
  .exact h.ten x a
  rw[a];exact l
 refine cj.2 λi j d m f=>?_;have e:∀(i:O)(d:i<C.length),((C.set k (C[k].1,T))[i]'(by simpa using d)).1=C[i].1:=λi d=>by
  rw[eW];split
  .subst_vars;rfl
  rfl
 have b:i<C.length:=by simpa using d
 have c:j<C.length:=by simpa using m
 rw[e i b,e j c];exact cj.1 h.ids i j b c f
def nR.at_(h:nR C)(e:C[k]? =M (c,T)):GC c/\nH c T:=⟨h.cfg _ (cm e),h.ten _ (cm e)⟩
variable{scope:v?}
def Qf(h:nR C){own id:I}{s:Sk}(e:uV C own scope kind id=.ok s):GK s/\s.kind=kind:=by
 unfold uV at e;split at e
 .cases e
 split at e
 .cases e
 rename_i T a;obtain⟨-,g⟩:=h.at_ a;split at e
 .exact Gp g.tb e
 exact WX g.tb e
def M9(h:nR C){own id:I}{s:Sk}(hs:GK s)(a:s.kind=kind):GK (ln C own scope kind s id)/\(ln C own scope kind s id).kind=kind:=by
 unfold ln;split
 .exact⟨hs,a⟩
 rename_i p b;obtain⟨c,d⟩:=Qf h b;have:=Ei hs c (by rw[a,d]);exact⟨this.1,this.2.trans a⟩
def Px(h:nR C){own:I}(e:1<=kind/\kind<=3):∀c:E I,GK (vm C own scope kind c)/\(vm C own scope kind c).kind=kind:=λc=>by
 unfold vm;have d:∀(c:E I)(s:Sk),GK s->s.kind=kind->GK (c.foldl (ln C own scope kind) s)/\(c.foldl (ln C own scope kind) s).kind=kind:=λc=>by
  induction c with
  |nil=>exact λs a b=>⟨a,b⟩
  |cons x c f=>
   intro s a b;have:=M9 h (own:=own) (scope:=scope) (id:=x) a b;exact f _ this.1 this.2
 exact d c _ (wj e).1 (wj e).2.1
def M6(p:O->Prop)(g:O)(c:lO)(T:kM)(to:I)(sc:v?)(kind:I)(hG:GT T.tb)(z:GG T.gn T.gl)(hs:sc.size<=1000)(w:jC)(X:Tb w)(hE:Er w)(h:kB w p g c T):jE Tryz.prog 77 #[jO g,jK to,jL sc,jJ kind] w (mU w (qT T.gl to T.tb sc kind)):=by
 obtain⟨A,cap,ms,GA,G,LA,lc,h⟩:=h;have Q:Hid (∀w',(bJ w w')->jE Tryz.prog 108 #[g? #[jK T.gn,jN GA T.gl G],jK to,cU A ms cap,jL sc,jJ kind] w' (mU w' (qT T.gl to T.tb sc kind))):=λw' t=>by
  have:=N8 T.gn GA T.gl G to z A ms cap sc kind jS w' (X.later t) (hE.later t) (h.l.gb.later t) ((h.l.Ku hG).later t);rwa[h.l.map]at this
 obtain⟨c0,c1,c2,-⟩:=h.cells;have r:=h.blk.lt;generalize qT T.gl to T.tb sc kind=R at*;clear h X hG hE z;go_in;go_wp2_with fail;refine kf (λV=>V.cell? ⟨g,0,Z⟩=M (cU A ms cap)/\V.cell? ⟨g,1,Z⟩=M (c? n? T.gn)/\V.cell? ⟨g,2,Z⟩=M (b? GA T.gl.length G)) ((Hold.nil w).alloc w 136 [jJ 0,jJ 0,jM,jJ 0,aF,jJ 0,jJ 0,jM,jJ 0,jM]) ⟨by rw[dt w _ _ r];exact c0,by rw[dt w _ _ r];exact c1,by rw[dt w _ _ r];exact c2⟩ (λV k F=>?_);have hz:w.heap.size<V.heap.size:=(k.blk _ ab).2.lt;have Y:g<V.heap.size:=jS;have HC:=ah F;clear c0 c1 c2 F;refine(qc _ _).mono ?_;rintro e y⟨rfl,rfl⟩;go_wp2_with fail;obtain⟨N,k1,W⟩:y.drew.cell? ⟨g,0,Z⟩=M (cU A ms cap)/\y.drew.cell? ⟨g,1,Z⟩=M (c? n? T.gn)/\y.drew.cell? ⟨g,2,Z⟩=M (b? GA T.gl.length G):=HC.out;replace k:=ai k.out.drew;replace Y:g<y.drew.heap.size:=Y;replace hz:w.heap.size<y.drew.heap.size:=hz;clear HC;refine kG (S:=(λw'=>w'.cell? ⟨g,0,Z⟩=M (cU A ms cap)/\w'.cell? ⟨g,1,Z⟩=M (c? n? T.gn)/\w'.cell? ⟨g,2,Z⟩=M (b? GA T.gl.length G))) (s:=13) oo ?_;refine sU ⟨N,k1,W⟩ ?_;generalize y.drew=V2 at*;refine oY 13 λK j=>?_;go_simp;refine(Q V2 k.below).mono ?_;rintro e w2⟨q,h⟩;have α:=q.size;replace k:=ah (k.call q);clear q Q N k1 W
 cases d:R with
 |error er=>
  rw[d]at h;subst h;have J:=ah d;clear d;have f:=aS (k.all 0 [jJ 0,jJ 0,jM,jJ 0,aF,jJ 0,jJ 0,jM,jJ 0,jM]);simp only[xl];refine j.out _ _ (λh=>qch) ?_;clear j K;refine az ?_;refine MZ ?_;have x:=fk (k.facts);refine oY 16 λK j=>?_;go_simp;refine j.out _ _ (λh=>qch) ?_;clear j K;refine az ?_;refine MZ ?_;refine yi ?_;go_wp2_with fail;refine kw (λ_=>True) f trivial (λV9 D _=>?_);have hq:=fk (D.at_ 0);clear x f;refine jF (v:=d? #[cL,jJ er]) (by simp[results,Tryz.results77,go_sem,hq]) rfl ?_;exact mU.no J D.below
 |ok s=>
  rw[d]at h;obtain⟨m,L,rfl,H,C⟩:=h;have J:Hid (R=.ok m.s):=by show _=_;rw[d,L]
  clear L d;have f:=aS (k.all 0 (aA m));have n:=aS (jY.lp (g:=w.heap.size) (C.mono λb t=>jS) (aA m) 0 H);unfold nT;refine j.out _ _ (λh=>qch) ?_;clear j K;refine az ?_;refine MZ ?_;have x:=fk (k.facts);refine oY 16 λK j=>?_;go_simp;refine j.out _ _ (λh=>qch) ?_;clear j K;refine az ?_;refine MZ ?_;refine yi ?_;go_wp2_with fail;refine kw (λV=>jY V V m) f n (λV9 D nZ=>?_);have hq:=fk (D.at_ 0);clear x f n;refine jF (v:=d? #[g? (aB m),jJ 0]) (by simp[results,Tryz.results77,go_sem,hq]) rfl ?_;exact mU.yes J D.below nZ (C.mono λb t=>jS)
end Go.Proofs.YtfcnedcahoifoaaGreatDoor
namespace Go.Proofs.YtfcnedcahoifoaaGreatDoor
variable{X:O->Prop}{w w':jC}{g:O}{c:lO}
def rv.out(h:rv w g c)(e:Out X w w')(f:¬X g):rv w' g c:=by
 obtain⟨d,l,a,k,j,b,h⟩:=h;exact⟨d,l,a,k,j,b,e.blk h f⟩
def ToldAt(B:O)(cb:O)(ps:E O)(W:jC):Prop:=∃A k,W.cell? ⟨cb,0,Z⟩=M (b? A ps.length k)/\Rd W W A (lC ps)/\∀a,A=M a->B<=a.block
def GY(q:O->Prop)(g:O)(c:lO)(T:kM)(tb sb kb X cb B:O)(a:v?)(kind:I)(G:w? jG)(N:O)(d:E Item)(P:GC c)(hG:GT T.tb)(hu:U T.tm)(hl:a.size<=1000)(H:d.length<=1000)(hi:∀x∈d,U x.h/\U x.n)(h4:4<=g)(β:4<=cb)(w:jC)(R:Tb w)(hE:Er w)(hB:B<=w.heap.size)(ht:w.cell? ⟨tb,0,Z⟩=M (e? (aC g))) (γ:w.cell? ⟨sb,0,Z⟩=M (f? a)) (hk:w.cell? ⟨kb,0,Z⟩=M (c? o? kind)) (α:w.cell? ⟨X,0,Z⟩=M (b? G d.length N)) (o:jR w cb 52 #[jM]) (Y:kB w q g c T) (J:∀b,q b->b≠g/\b≠cb) (m:cb≠g) (hI:Rd w w G (d.flatMap Q8)):jE Tryz.prog 69 #[jO tb,jO sb,jO kb,jO X,jO cb] w (mM (λb=>b=cb) (λW=>∀r,me c T a kind d=.ok r->ToldAt B cb r.2 W) (λb=>q b\/w.heap.size<=b) g c ((me c T a kind d).map (·.1)) w):=by
 have Q:=ah (take_any q g c T a kind G N d P hG hu hl H hi h4 w R hE Y (λb f=>(J b f).1) hI);have HP:=ah J;have H0:=ah (kj.one (λb=>b=g\/b=cb) (w:=w) (cs:=[jM]) (s? rfl) o);have IV:Hid (∀er,me c T a kind d=.error er->er≠0):=λer e=>FC e;have δ:=o.lt;generalize me c T a kind d=r at*;clear Y J o R hE hG hI hi P;go_in;go_wp2_with fail;refine Q.mono ?_;rintro e D⟨l,L⟩;have t:=ah (H0.wP l (λk e=>r? (r? e)) (λb f e=>by simp at f;subst f;exact m e));have ε:=l.size;clear Q H0 l;have x:=fk (t.facts)
 cases r with
 |error er=>
  obtain⟨rfl,j⟩:=L;have IY:=ah j;have y:=aT (ah (t.put 0 0 aO));clear j;go_wp2_with fail;refine kh (λV=>Out (·=cb) D V) y ((Out.refl (λb=>b=cb) D).setCell (p:=⟨cb,0,Z⟩) (r? rfl) _) (λV9 C z=>?_);clear x y t;go_ret;exact mM.no rfl C.out.out (IV er rfl) (IY.out.out z λe=>m e.symm)
 |ok r=>
  obtain⟨T2,ps⟩:=r;obtain⟨A,k,rfl,K,v,s⟩:=L;have xc:=ah K;have wZ:=ah v;have BG:=ah s;have y:=aT (ah (t.put 0 0 (b? A ps.length k)));clear K v s;go_wp2_with fail;refine kh (λV=>Out (·=cb) D V) y ((Out.refl (λb=>b=cb) D).setCell (p:=⟨cb,0,Z⟩) (r? rfl) _) (λV9 C z=>?_);clear x y t;go_ret;refine mM.yes rfl C.out.out (xc.out.out z (λb f e=>?_) λe=>m e.symm) ?_
  .rcases f with f|f
   .exact(HP b f).2 e
   omega
  rintro r⟨⟩;exact⟨A,k,(C.blk _ ab).2.cell 0,z.rd wZ λ_ F e e2=>by have:=BG F e;omega,λF e=>by have:=BG F e;omega⟩
def yn: "ingest".toByteArray=⟨#[105,110,103,101,115,116]⟩:=TO
def FA(p:O->Prop)(g:O)(c:lO)(T:kM)(m:I)(d:v?)(kind:I)(C:w? jG)(N:O)(f:E Item)(hc:GC c)(hG:nH c T)(hu:U m)(hl:d.size<=1000)(β:f.length<=1000)(hi:∀x∈f,U x.h/\U x.n)(h4:4<=g)(w:jC)(hw:4<=w.heap.size)(hT:Tb w)(hE:Er w)(nD:kB w p g c T)(hp:∀b,p b->b≠g)(hI:Rd w w C (f.flatMap Q8))(J:f≠[]->∀q,C=M q->q.block≠g):jE Tryz.prog 53 #[jO g,jK m,jL d,jJ kind,jN C f N] w (qJ w p g c T (λer=>.tuple #[jM,jJ er]) (λW ps v=>∃A k,v=.tuple #[jN A ps k,jJ 0]/\Rd W W A (lC ps)/\(aX A w)) (nl c T m d kind f)):=by
 have μ:g<w.heap.size:=by obtain⟨_,_,_,_,_,_,_,h⟩:=nD;exact h.blk.lt
 have HT:=ah hT;have HE:=ah hE;have ov:=ah nD.lt;have HP:=ah hp;have D:=ah hG;have HI:=ah hI;have γ:=ah J;have α:=ah hi;have η:Hid (GT (ko c T m).tb):=hG.tb.filter _;have HH:=ah (((((((kj.nil (λ_=>False) w).alloc w 82 [jO g]).alloc (w.heap.size+1) 9 [jL d]).alloc (w.heap.size+2) 3 [jJ kind]).alloc (w.heap.size+3) 32 [jN C f N]).alloc (w.heap.size+4) 52 [jM]).alloc (w.heap.size+5) 156 [.func (.func 69) #[] #[jO w,.pointer (M (aE w)),bF w,.pointer (M (cB w)),.pointer (M (lz 45 w))]]);clear hT nD hp hG hE hI J hi;have κ:∀(fn:Fn)(first cap:x? jD)(w:jC),(gF fn first cap).run Tryz.prog w=.ok (.func fn first cap) w:=λ_ _ _ _=>rfl;go_in;go_wp2_with fail;refine kq (λ_=>True) HH trivial (λV s _=>?_);clear HH;have hV:w.heap.size+5<V.heap.size:=(s.blk _ ab).2.lt;have hb:(bJ w V):=s.out.out.below aa λ_ h=>h.elim;have Rv:=HT.later hb;have ε:=HE.later hb;have δ:=(Rd.below HI hb).more hb.size;refine(zt (λb=>b=w.heap.size+4) (λW=>∀r,me c (ko c T m) d kind f=.ok r->ToldAt (V.heap.size+3) (w.heap.size+4) r.2 W) (λb=>p b/\b<w.heap.size) g c T m _ (M ⟨w.heap.size+1+1+1+1+1,0,Z⟩) 1 69 #[jO w,.pointer (M (aE w)),bF w,.pointer (M (cB w)),.pointer (M (lz 45 w))] ((me c (ko c T m) d kind f).map (·.1)) (λW=>rfl) hc D.tb
  (by have:=D.lg.len;omega) (λx hx=>⟨(D.lg.fit x hx).1,by have:=(D.lg.fit x hx).2;omega⟩) D.lg.bU hu B8 h4 (λR L=>?_) V Rv (ov.later hb) (λb hb=>⟨HP b hb.1,qhc,jS⟩) (λb e=>jS)
  (λ_=>⟨w.heap.size+1+1+1+1+1,0,rfl,jS,λj v hj=>?_⟩) (λq e=>by cases e;simp;omega) (λW t hs mo=>?_)).mono ?_
 .cases X:me c (ko c T m) d kind f with
  |error e=>rw[X]at L;cases L
  |ok l=>
   rw[X]at L
   cases L
   obtain⟨a1,a2,a3,_⟩:=zQ (T2:=l.1) (ps:=l.2) X;exact⟨a1,a2,a3⟩
 .rw[au];exact((s.blk _ ab).2.cell j).trans (by rw[bh];exact hj)
 .have k0:V.cell? ⟨w,0,Z⟩=M (.pointer (aC g)):=(s.blk _ (ac 5)).2.cell 0;have k1:V.cell? (aE w)=M (.string d):=(s.blk _ (ac 4)).2.cell 0;have k2:V.cell? ⟨w.heap.size+2,0,Z⟩=M (.int o? kind):=(s.blk _ (ac 3)).2.cell 0;have k3:V.cell? (cB w)=M (.slice C f.length N):=(s.blk _ (ac 2)).2.cell 0;refine(GY (λb=>(p b/\b<w.heap.size)\/V.heap.size+3<=b) g c (ko c T m) w (w.heap.size+1) (w.heap.size+2) (w.heap.size+3) (w.heap.size+4) (V.heap.size+3) d kind C N f hc η hu hl β α h4 jS W (Rv.rH t λb e=>jS) (ε.rH t λb e=>jS) hs ((t.cell (p:=⟨w,0,Z⟩) (by show w.heap.size<_;omega) (by show¬w.heap.size=g;omega)).trans k0) ((t.cell (p:=(aE w)) (by show w.heap.size+1<_;omega) (by show¬w.heap.size+1=g;omega)).trans k1) ((t.cell (p:=⟨w.heap.size+2,0,Z⟩) (by show w.heap.size+2<_;omega) (by show¬w.heap.size+2=g;omega)).trans k2) ((t.cell (p:=(cB w)) (by show w.heap.size+3<_;omega) (by show¬w.heap.size+3=g;omega)).trans k3) (t.blk (s.blk _ (ac 1)).2 (by show¬w.heap.size+4=g;omega)) mo (λb hb=>by rcases hb with hb|hb;exact⟨HP b hb.1,qhc⟩;omega) jS (t.rd δ λh q e=>γ (λe2=>h (by rw[e2];try rfl)) q e)).mono ?_;rintro e W'⟨θ,B⟩;refine⟨θ,?_⟩
  cases hr:((me c (ko c T m) d kind f).map (·.1):K? I kM)with
  |error er=>rw[hr]at B;exact B
  |ok R=>rw[hr]at B;exact⟨B.1,B.2.1.mono λb hb=>by rcases hb with hb|hb;exact hb;exact s? jS,B.2.2⟩
 rintro e Q Y;obtain⟨mB,⟨er,G,rfl,h0,ED⟩|⟨R,T3,a,K,G,rfl,ED,W2,hK,H⟩⟩:=qJ.of (step:=λT=>me c T d kind f) rfl s.out.out (λ_ h=>jS) Y
 .have HD:=ah G;have H0:=ah h0;clear G Y;replace h0:¬er=0:=h0;go_wp2;go_ret2;exact⟨mB,by rw[nl,yn,HD];exact⟨rfl,H0,ED⟩⟩
 have HD:=ah G;obtain⟨A,k,z,F,y⟩:=hK (R,a) K;have o:Q.cell? (lz 45 w)=M (.slice A a.length k):=
  (H.cell (p:=(lz 45 w)) (b8 W2 _ z) (by show¬(w.heap.size+4=g\/(V.heap.size<=w.heap.size+4/\_));omega)).trans z
 replace o:Q.cell? (lz 46 w)=M (.slice A a.length k):=o;have wZ:Hid (Rd Q Q A (lC a)):=H.rd F λ_ q e e2=>by have:=y q e;omega
 have BG:Hid (aX A w):=λq e=>by have:=y q e;omega
 clear G Y K hK z F y;go_wp2;go_ret2;exact⟨mB,by rw[nl,yn,HD];exact⟨⟨_,rfl,_,_,rfl,wZ,BG⟩,ED⟩⟩
structure SaD(x0:ReqM) where
def aD(a:ReqM):SaD a:=⟨⟩
instance(x0:ReqM):CoeOut (SaD x0) (x? jD):=⟨λ_=>#[jJ x0.r.op,jK x0.r.now,jL x0.r.labels,jL x0.r.scope,jJ x0.r.kind,jN x0.ia x0.r.items x0.ic,jK x0.r.h,jK x0.r.to,jK x0.r.id,jN x0.ta x0.r.jV x0.tc]⟩
instance(x0:ReqM):CoeOut (sH 4 x0) (E jD):=⟨λ_=>[jJ x0.r.op,jK x0.r.now,jL x0.r.labels,jL x0.r.scope,jJ x0.r.kind,jN x0.ia x0.r.items x0.ic,jK x0.r.h,jK x0.r.to,jK x0.r.id,jN x0.ta x0.r.jV x0.tc]⟩
structure SbQ where
def bQ:SbQ:=⟨⟩
instance:CoeOut SbQ (E jD):=⟨λ_=>[jJ 0,jK 0,jM,jM]⟩
structure ScR where
def cR:ScR:=⟨⟩
instance:CoeOut ScR jD:=⟨λ_=>g? #[jJ 0,jK 0,jM,jM]⟩
instance(x0:O)(x1:O)(x2:I):CoeOut (IP 54 x0 x1 x2) jD:=⟨λ_=>g? #[jO x0,jO x1,jK x2]⟩
def l6(w:jC)(p:O->Prop)(g:O)(c:lO)(T:kM)(r:K? I (kM×Rep))(e:bi6)(w':jC):Prop:=
 Out (·=g) w w'/\match r with
 |.error er=>(∃n A k d,e=a? (d? #[g? #[jJ 0,jK n,b? A k d,jM],jJ er]))/\er≠0/\kB w' p g c T
 |.ok (a,y)=>(∃v,e=a? (d? #[v,jJ 0])/\IR w' w v y)/\kB w' (λb=>p b\/w.heap.size<=b) g c a
variable{p:O->Prop}{T:kM}{r:K? I (kM×Rep)}{er:I}{A:w? jG}{k:O}
def l6.no{n:I}{e:O}(h:r=.error er)(a:Out (·=g) w w')(d:er≠0)(b:kB w' p g c T):l6 w p g c T r (a? (d? #[g? #[jJ 0,jK n,b? A k e,jM],jJ er])) w':=⟨a,by rw[h];exact⟨⟨_,_,_,_,rfl⟩,d,b⟩⟩
def l6.yes{T':kM}{y:Rep}{n:I}{C:w? jG}{f l d:O}(h:r=.ok (T',y))(v:Out (·=g) w w')(x:kB w' (λb=>p b\/w.heap.size<=b) g c T')(z:y.e=0)(m:y.n=n)(o:y.notices.length=k)(s:y.entries.length=l)(B:Rd w' w' A (lC y.notices)) (q:∀a,A=M a->w.heap.size<=a.block) (t:Rd w' w' C (y.entries.flatMap nE)) (j:∀a,C=M a->w.heap.size<=a.block):l6 w p g c T r (a? (d? #[g? #[jJ 0,jK n,b? A k f,b? C l d],jJ 0])) w':=
 ⟨v,by rw[h];exact⟨⟨_,rfl,A,f,C,d,by rw[z,m,o,s],⟨B,q⟩,t,j⟩,x⟩⟩
def KU(p:O->Prop)(cb g:O)(id:I)(c:lO)(T:kM)(m:ReqM)(R:GC c)(hG:nH c T)(N:lN m.r)(h4:4<=g)(w:jC)(hw:4<=w.heap.size)(Y:Tb w)(hE:Er w)(H:kB w p g c T)(L:∀b,p b->b≠g)(hM:ReqOk w w m)(G_:m.r.items≠[]->∀W,m.ia=M W->W.block≠g):jE Tryz.prog 31 #[oZ 54 cb g id,g? (aD m)] w (l6 w p g c T ((pM c T m.r.now m.r.scope m.r.kind m.r.h).map λx=>(x.1,⟨0,x.2,[],[]⟩))):=by
 have α:g<w.heap.size:=by obtain⟨_,_,_,_,_,_,_,h⟩:=H;exact h.blk.lt
 have HT:=ah Y;have HE:=ah hE;have ov:=ah H.lt;have oX:=ah hG;have F:=ah N;have HC:=ah R;have HP:Hid (∀b,(p b/\b<w.heap.size)->b≠g):=λb hb=>L b hb.1;have HM:=ah hM;have Zr:=ah G_;have HH:=ah ((((kj.nil (·=g) w).alloc w 88 [jO cb,jO g,jK id]).alloc (w.heap.size+1) 35 (lz 4 m)).alloc (w.heap.size+2) 55 bQ);clear Y hE H hG N R L hM G_;go_in;go_wp2_with fail;refine kq (λV=>(cF w V)) HH ((((Out.refl (λ_=>False) w).alloc _).alloc _).alloc _) (λV d ho=>?_);clear HH;have hb:Below w w V:=ho.below aa λ_ h=>h.elim;have V_:w.heap.size+2<V.heap.size:=(d.blk _ ab).2.lt;have J:=ah (Jc (λb=>p b/\b<w.heap.size) g c T m.r.now m.r.scope m.r.kind m.r.h HC oX F.now (by have:=F.scope;omega) F.h h4 V jS (HT.later hb) (HE.later hb) (ov.later hb) HP);obtain⟨r,G⟩:∃r,r=pM c T m.r.now m.r.scope m.r.kind m.r.h:=⟨_,rfl⟩;rw[<-G]at J;have z:=ah G;clear G;refine J.mono ?_;rintro e A⟨f,Q⟩;replace d:=ah (d.wP f (λk e=>r? e) (λb hb e=>by simp at hb;rcases hb with rfl|rfl|rfl<;>simp at e<;>omega));have β:=f.size;clear J f;have x:=fk (d.facts)
 cases r with
 |error er=>
  obtain⟨rfl,h0,j⟩:=Q;have H0:=ah h0;have D:=ah j;clear h0 j;have s:=aS (d.all 0 bQ);have o:=aS (Out.lp (X:=λb=>b=w.heap.size+2) (g:=w.heap.size+2) (r? rfl) bQ 0 (Out.refl _ A));have l:=ah s;have q:=ah o;clear s o;go_wp2_with fail;refine kh (λV=>Out (λb=>b=w.heap.size+2) A V) l q (λV9 t C=>?_);have K:=fk (t.at_ 0);clear x d l q;refine jF (v:=d? #[cR,jJ er]) (by simp[results,Tryz.results31,go_sem,K]) rfl ?_;exact l6.no (by rw[<-z];try rfl) t.out.out H0 ((D.out.out C (λb hb e=>qhc) jS).mono λb hb=>hb.1)
 |ok r=>
  obtain⟨T2,a⟩:=r;obtain⟨⟨v,rfl,rfl⟩,j⟩:=Q;have D:=ah j;clear j;have s:=aS (d.all 0 [jJ 0,jK a,jM,jM]);have o:=aS (Out.lp (X:=λb=>b=w.heap.size+2) (g:=w.heap.size+2) (r? rfl) [jJ 0,jK a,jM,jM] 0 (Out.refl _ A));have l:=ah s;have q:=ah o;clear s o;go_wp2_with fail;refine kh (λV=>Out (λb=>b=w.heap.size+2) A V) l q (λV9 t C=>?_);have K:=fk (t.at_ 0);clear x d l q;refine jF (v:=d? #[g? #[jJ 0,jK a,jM,jM],jJ 0]) (by simp[results,Tryz.results31,go_sem,K]) rfl ?_;exact l6.yes (y:=⟨0,a,[],[]⟩) (n:=a) (by rw[<-z];try rfl) t.out.out ((D.out.out C (λb hb e=>by rcases hb with hb|hb;have:=hb.2;omega;omega) jS).mono λb hb=>hb.elim (λh=>r? h.1) λh=>s? jS) rfl rfl rfl rfl Rd.none_ (λ_ e=>LS) Rd.none_ (λ_ e=>LS)
def KV(p:O->Prop)(cb g:O)(id:I)(c:lO)(T:kM)(m:ReqM)(R:GC c)(hG:nH c T)(L:lN m.r)(h4:4<=g)(w:jC)(hw:4<=w.heap.size)(Y:Tb w)(hE:Er w)(G:kB w p g c T)(K:∀b,p b->b≠g)(hM:ReqOk w w m)(G_:m.r.items≠[]->∀W,m.ia=M W->W.block≠g):jE Tryz.prog 33 #[oZ 54 cb g id,g? (aD m)] w (l6 w p g c T ((sy c T m.r.now m.r.to m.r.scope).map λx=>(x.1,⟨0,x.2,[],[]⟩))):=by
 have α:g<w.heap.size:=by obtain⟨_,_,_,_,_,_,_,h⟩:=G;exact h.blk.lt
 have HT:=ah Y;have HE:=ah hE;have ov:=ah G.lt;have oX:=ah hG;have N:=ah L;have HC:=ah R;have HP:Hid (∀b,(p b/\b<w.heap.size)->b≠g):=λb hb=>K b hb.1;have HM:=ah hM;have Zr:=ah G_;have HH:=ah ((((kj.nil (·=g) w).alloc w 88 [jO cb,jO g,jK id]).alloc (w.heap.size+1) 35 (lz 4 m)).alloc (w.heap.size+2) 55 bQ);clear Y hE G hG L R K hM G_;go_in;go_wp2_with fail;refine kq (λV=>(cF w V)) HH ((((Out.refl (λ_=>False) w).alloc _).alloc _).alloc _) (λV d ho=>?_);clear HH;have hb:Below w w V:=ho.below aa λ_ h=>h.elim;have V_:w.heap.size+2<V.heap.size:=(d.blk _ ab).2.lt;have H:=ah (Jg (λb=>p b/\b<w.heap.size) g c T m.r.now m.r.to m.r.scope HC oX N.now (by have:=N.scope;omega) h4 V jS (HT.later hb) (ov.later hb) HP);obtain⟨r,F⟩:∃r,r=sy c T m.r.now m.r.to m.r.scope:=⟨_,rfl⟩;rw[<-F]at H;have z:=ah F;clear F;refine H.mono ?_;rintro e A⟨f,Q⟩;replace d:=ah (d.wP f (λk e=>r? e) (λb hb e=>by simp at hb;rcases hb with rfl|rfl|rfl<;>simp at e<;>omega));have β:=f.size;clear H f;have x:=fk (d.facts)
 cases r with
 |error er=>
  obtain⟨rfl,h0,j⟩:=Q;have H0:=ah h0;have D:=ah j;clear h0 j;have s:=aS (d.all 0 bQ);have o:=aS (Out.lp (X:=λb=>b=w.heap.size+2) (g:=w.heap.size+2) (r? rfl) bQ 0 (Out.refl _ A));have l:=ah s;have q:=ah o;clear s o;go_wp2_with fail;refine kh (λV=>Out (λb=>b=w.heap.size+2) A V) l q (λV9 t C=>?_);have J:=fk (t.at_ 0);clear x d l q;refine jF (v:=d? #[cR,jJ er]) (by simp[results,Tryz.results33,go_sem,J]) rfl ?_;exact l6.no (by rw[<-z];try rfl) t.out.out H0 ((D.out.out C (λb hb e=>qhc) jS).mono λb hb=>hb.1)
 |ok r=>
  obtain⟨T2,a⟩:=r;obtain⟨⟨v,rfl,rfl⟩,j⟩:=Q;have D:=ah j;clear j;have s:=aS (d.all 0 [jJ 0,jK a,jM,jM]);have o:=aS (Out.lp (X:=λb=>b=w.heap.size+2) (g:=w.heap.size+2) (r? rfl) [jJ 0,jK a,jM,jM] 0 (Out.refl _ A));have l:=ah s;have q:=ah o;clear s o;go_wp2_with fail;refine kh (λV=>Out (λb=>b=w.heap.size+2) A V) l q (λV9 t C=>?_);have J:=fk (t.at_ 0);clear x d l q;refine jF (v:=d? #[g? #[jJ 0,jK a,jM,jM],jJ 0]) (by simp[results,Tryz.results33,go_sem,J]) rfl ?_;exact l6.yes (y:=⟨0,a,[],[]⟩) (n:=a) (by rw[<-z];try rfl) t.out.out ((D.out.out C (λb hb e=>by rcases hb with hb|hb;have:=hb.2;omega;omega) jS).mono λb hb=>hb.elim (λh=>r? h.1) λh=>s? jS) rfl rfl rfl rfl Rd.none_ (λ_ e=>LS) Rd.none_ (λ_ e=>LS)
def Hy(p:O->Prop)(cb g:O)(id:I)(c:lO)(T:kM)(m:ReqM)(Q:GC c)(hG:nH c T)(L:lN m.r)(h4:4<=g)(w:jC)(hw:4<=w.heap.size)(W:Tb w)(hE:Er w)(G:kB w p g c T)(K:∀b,p b->b≠g)(hM:ReqOk w w m)(Y:m.r.items≠[]->∀R,m.ia=M R->R.block≠g):jE Tryz.prog 34 #[oZ 54 cb g id,g? (aD m)] w (l6 w p g c T ((D4 c T m.r.now m.r.id).map λx=>(x.1,⟨0,0,[],[]⟩))):=by
 have α:g<w.heap.size:=by obtain⟨_,_,_,_,_,_,_,h⟩:=G;exact h.blk.lt
 have HT:=ah W;have HE:=ah hE;have ov:=ah G.lt;have oX:=ah hG;have HF:=ah L;have HC:=ah Q;have HP:Hid (∀b,(p b/\b<w.heap.size)->b≠g):=λb hb=>K b hb.1;have HM:=ah hM;have Zr:=ah Y;have HH:=ah ((((kj.nil (·=g) w).alloc w 88 [jO cb,jO g,jK id]).alloc (w.heap.size+1) 35 (lz 4 m)).alloc (w.heap.size+2) 55 bQ);clear W hE G hG L Q K hM Y;go_in;go_wp2_with fail;refine kq (λV=>(cF w V)) HH ((((Out.refl (λ_=>False) w).alloc _).alloc _).alloc _) (λV d ho=>?_);clear HH;have hb:Below w w V:=ho.below aa λ_ h=>h.elim;have V_:w.heap.size+2<V.heap.size:=(d.blk _ ab).2.lt;have H:=ah (Fv (λb=>p b/\b<w.heap.size) g c T m.r.now m.r.id HC oX HF.now h4 V jS (HT.later hb) (ov.later hb) HP);obtain⟨r,F⟩:∃r,r=D4 c T m.r.now m.r.id:=⟨_,rfl⟩;rw[<-F]at H;have z:=ah F;clear F;refine H.mono ?_;rintro e A⟨f,N⟩;replace d:=ah (d.wP f (λk e=>r? e) (λb hb e=>by simp at hb;rcases hb with rfl|rfl|rfl<;>simp at e<;>omega));have β:=f.size;clear H f;have x:=fk (d.facts)
 cases r with
 |error er=>
  obtain⟨rfl,h0,j⟩:=N;have H0:=ah h0;have D:=ah j;clear h0 j;have s:=aS (d.all 0 bQ);have o:=aS (Out.lp (X:=λb=>b=w.heap.size+2) (g:=w.heap.size+2) (r? rfl) bQ 0 (Out.refl _ A));have l:=ah s;have q:=ah o;clear s o;go_wp2_with fail;refine kh (λV=>Out (λb=>b=w.heap.size+2) A V) l q (λV9 t C=>?_);have J:=fk (t.at_ 0);clear x d l q;refine jF (v:=d? #[cR,jJ er]) (by simp[results,Tryz.results34,go_sem,J]) rfl ?_;exact l6.no (by rw[<-z];try rfl) t.out.out H0 ((D.out.out C (λb hb e=>qhc) jS).mono λb hb=>hb.1)
 |ok r=>
  obtain⟨T2,a⟩:=r;obtain⟨⟨v,rfl,rfl⟩,j⟩:=N;have D:=ah j;clear j;have s:=aS (d.all 0 bQ);have o:=aS (Out.lp (X:=λb=>b=w.heap.size+2) (g:=w.heap.size+2) (r? rfl) bQ 0 (Out.refl _ A));have l:=ah s;have q:=ah o;clear s o;go_wp2_with fail;refine kh (λV=>Out (λb=>b=w.heap.size+2) A V) l q (λV9 t C=>?_);have J:=fk (t.at_ 0);clear x d l q;refine jF (v:=d? #[cR,jJ 0]) (by simp[results,Tryz.results34,go_sem,J]) rfl ?_;exact l6.yes (y:=⟨0,0,[],[]⟩) (n:=0) (by rw[<-z];try rfl) t.out.out ((D.out.out C (λb hb e=>by rcases hb with hb|hb;have:=hb.2;omega;omega) jS).mono λb hb=>hb.elim (λh=>r? h.1) λh=>s? jS) rfl rfl rfl rfl Rd.none_ (λ_ e=>LS) Rd.none_ (λ_ e=>LS)
def KX(p:O->Prop)(cb g:O)(id:I)(c:lO)(T:kM)(m:ReqM)(H:GC c)(Y:nH c T)(F:lN m.r)(h4:4<=g)(w:jC)(hw:4<=w.heap.size)(L:Tb w)(hE:Er w)(z:kB w p g c T)(A:∀b,p b->b≠g)(hM:ReqOk w w m)(N:m.r.items≠[]->∀f,m.ia=M f->f.block≠g):jE Tryz.prog 35 #[oZ 54 cb g id,g? (aD m)] w (l6 w p g c T ((.ok (T,⟨0,0,[],lA T.ll m.r.id⟩):K? I (kM×Rep)))):=by
 have α:g<w.heap.size:=by obtain⟨_,_,_,_,_,_,_,h⟩:=z;exact h.blk.lt
 have HT:=ah L;have HE:=ah hE;have Q:=ah z.lt;have oX:=ah Y;have HF:=ah F;have HC:=ah H;have HP:Hid (∀b,(p b/\b<w.heap.size)->b≠g):=λb hb=>A b hb.1;have HM:=ah hM;have Zr:=ah N;have R:=ah ((((kj.nil (·=g) w).alloc w 88 [jO cb,jO g,jK id]).alloc (w.heap.size+1) 35 (lz 4 m)).alloc (w.heap.size+2) 55 bQ);clear L hE z Y F H A hM N;go_in;go_wp2_with fail;refine kq (λV=>(cF w V)) R ((((Out.refl (λ_=>False) w).alloc _).alloc _).alloc _) (λV j ho=>?_);clear R;have hb:Below w w V:=ho.below aa λ_ h=>h.elim;have V_:w.heap.size+2<V.heap.size:=(j.blk _ ab).2.lt;have W:=ah (Ji (λb=>p b/\b<w.heap.size) g c T m.r.id (by have:=oX.lg.len;omega) V (Q.later hb));refine W.mono ?_;rintro e w1⟨⟨γ,k,rfl,d⟩,a⟩;obtain⟨E',k',e1,_,q,o⟩:=li d
 cases e1
 have G:=ah q;have BG:=ah o;have xc:=ah ((Q.later hb).later a);replace j:=ah (j.call a);have β:=a.size;obtain⟨l,s⟩:∃l,l=lA T.ll m.r.id:=⟨_,rfl⟩;rw[<-s]at G;rw[<-s];have t:=ah s;clear W a d q o s;have x:=fk (j.facts);have td:=aS (j.all 0 [jJ 0,jK 0,jM,jN γ l k]);have J:=aS (Out.lp (X:=λb=>b=w.heap.size+2) (g:=w.heap.size+2) (r? rfl) [jJ 0,jK 0,jM,jN γ l k] 0 (Out.refl _ w1));have C:=ah td;have K:=ah J;clear td J;go_wp2_with fail;refine kh (λV=>Out (λb=>b=w.heap.size+2) w1 V) C K (λV9 H9 D=>?_);have hq:=fk (H9.at_ 0);clear x j C K;refine jF (v:=d? #[g? #[jJ 0,jK 0,jM,jN γ l k],jJ 0]) (by simp[results,Tryz.results35,go_sem,hq]) rfl ?_;exact l6.yes (y:=⟨0,0,[],l⟩) (n:=0) (by rw[t]) H9.out.out ((xc.out.out D (λb hb e=>qhc) jS).mono λb hb=>r? hb.1) rfl rfl rfl rfl Rd.none_ (λ_ e=>LS) (D.rd G λ_ f e e2=>by have:=BG.out f e;omega) (λf e=>by have:=BG.out f e;omega)
def Oy(p:O->Prop)(cb g:O)(id:I)(c:lO)(T:kM)(m:ReqM)(z:GC c)(K:nH c T)(t:lN m.r)(h4:4<=g)(w:jC)(hw:4<=w.heap.size)(F:Tb w)(N:Er w)(k:kB w p g c T)(o:∀b,p b->b≠g)(W:ReqOk w w m)(G:m.r.items≠[]->∀C,m.ia=M C->C.block≠g):jE Tryz.prog 36 #[oZ 54 cb g id,g? (aD m)] w (l6 w p g c T ((.ok (T,⟨0,kJ T.tb,[],[]⟩):K? I (kM×Rep)))):=by
 have α:g<w.heap.size:=by obtain⟨_,_,_,_,_,_,_,h⟩:=k;exact h.blk.lt
 have HT:=ah F;have HE:=ah N;have H:=ah k.lt;have q:=ah K;have HF:=ah t;have HC:=ah z;have HP:Hid (∀b,(p b/\b<w.heap.size)->b≠g):=λb hb=>o b hb.1;have HM:=ah W;have Zr:=ah G;have J:=ah ((((kj.nil (·=g) w).alloc w 88 [jO cb,jO g,jK id]).alloc (w.heap.size+1) 35 (lz 4 m)).alloc (w.heap.size+2) 55 bQ);clear F N k K t z o W G;go_in;go_wp2_with fail;refine kq (λV=>(cF w V)) J ((((Out.refl (λ_=>False) w).alloc _).alloc _).alloc _) (λV d ho=>?_);clear J;have hb:Below w w V:=ho.below aa λ_ h=>h.elim;have V_:w.heap.size+2<V.heap.size:=(d.blk _ ab).2.lt;have l:=ah (xk (λb=>p b/\b<w.heap.size) g c T q.tb V (HT.later hb) (H.later hb));have YI:=ah (Bg q.tb);have j:IntKind.u64.wrap (kJ T.tb)=kJ T.tb:=gC _ (by have:=YI.out;omega);obtain⟨n,f⟩:∃n,n=kJ T.tb:=⟨_,rfl⟩;rw[<-f]at j l;have HN:=ah f;clear f;refine l.mono ?_;rintro e Q⟨rfl,a⟩;have xc:=ah ((H.later hb).later a);replace d:=ah (d.call a);have β:=a.size;clear l a;have x:=fk (d.facts);have L:=aS (d.all 0 [jJ 0,jK n,jM,jM]);have A:=aS (Out.lp (X:=λb=>b=w.heap.size+2) (g:=w.heap.size+2) (r? rfl) [jJ 0,jK n,jM,jM] 0 (Out.refl _ Q));have s:=ah L;have D:=ah A;clear L A;go_wp2_with fail;refine kh (λV=>Out (λb=>b=w.heap.size+2) Q V) s D (λV9 R Y=>?_);have hq:=fk (R.at_ 0);clear x d s D;refine jF (v:=d? #[g? #[jJ 0,jK n,jM,jM],jJ 0]) (by simp[results,Tryz.results36,go_sem,hq]) rfl ?_;exact l6.yes (y:=⟨0,n,[],[]⟩) (n:=n) (by rw[HN]) R.out.out ((xc.out.out Y (λb hb e=>qhc) jS).mono λb hb=>r? hb.1) rfl rfl rfl rfl Rd.none_ (λ_ e=>LS) Rd.none_ (λ_ e=>LS)
def Ic(p:O->Prop)(cb g:O)(id:I)(c:lO)(T:kM)(m:ReqM)(hc:GC c)(hG:nH c T)(hf:lN m.r)(h4:4<=g)(w:jC)(hw:4<=w.heap.size)(hT:Tb w)(hE:Er w)(nD:kB w p g c T)(hp:∀b,p b->b≠g)(hM:ReqOk w w m)(G_:m.r.items≠[]->∀D,m.ia=M D->D.block≠g):jE Tryz.prog 30 #[oZ 54 cb g id,g? (aD m)] w (l6 w p g c T ((nl c T m.r.now m.r.labels m.r.kind m.r.items).map λx=>(x.1,⟨0,kJ x.1.tb,x.2,[]⟩))):=by
 have δ:g<w.heap.size:=by obtain⟨_,_,_,_,_,_,_,h⟩:=nD;exact h.blk.lt
 have HT:=ah hT;have HE:=ah hE;have ov:=ah nD.lt;have oX:=ah hG;have F:=ah hf;have HC:=ah hc;have HP:Hid (∀b,(p b/\b<w.heap.size)->b≠g):=λb hb=>hp b hb.1;have HM:=ah hM;have Zr:=ah G_;have HH:=ah ((((kj.nil (·=g) w).alloc w 88 [jO cb,jO g,jK id]).alloc (w.heap.size+1) 35 (lz 4 m)).alloc (w.heap.size+2) 55 bQ);clear hT hE nD hG hf hc hp hM G_;go_in;go_wp2_with fail;refine kq (λV=>(cF w V)) HH ((((Out.refl (λ_=>False) w).alloc _).alloc _).alloc _) (λV f ho=>?_);clear HH;have hb:Below w w V:=ho.below aa λ_ h=>h.elim;have V_:w.heap.size+2<V.heap.size:=(f.blk _ ab).2.lt;have Vx:Hid (∀l a,nl c T m.r.now m.r.labels m.r.kind m.r.items=.ok (l,a)->GT l.tb):=λl a e=>(wy oX F.now F.iu e).1.g.tb;have α:=ah (HT.later hb);have j:=ah (FA (λb=>p b/\b<w.heap.size) g c T m.r.now m.r.labels m.r.kind m.ia m.ic m.r.items HC oX F.now (by have:=F.labels;omega) (by have:=F.items;omega) F.iu h4 V jS (HT.later hb) (HE.later hb) (ov.later hb) HP (HM.later hb).i Zr);obtain⟨r,hr⟩:∃r,r=nl c T m.r.now m.r.labels m.r.kind m.r.items:=⟨_,rfl⟩;rw[<-hr]at j Vx;have Y:=ah hr;clear hr;refine j.mono ?_;rintro e w1⟨o,h1⟩;have G:Hid (Tb w1):=α.rH o λb e=>jS;replace f:=ah (f.wP o (λk e=>r? e) (λb hb e=>by simp at hb;rcases hb with rfl|rfl|rfl<;>simp at e<;>omega));have γ:=o.size;clear j o;have x:=fk (f.facts)
 cases r with
 |error er=>
  obtain⟨rfl,h0,s⟩:=h1;have j:=ah (xk (λb=>p b/\b<w.heap.size) g c T oX.tb w1 G s);have t:=ah s;have H0:=ah h0;have K:=ah (Bg oX.tb);have q:IntKind.u64.wrap (kJ T.tb)=kJ T.tb:=gC _ (by have:=K.out;omega);obtain⟨n,C⟩:∃n,n=kJ T.tb:=⟨_,rfl⟩;rw[<-C]at q j;clear h0 s C K;go_wp2_with fail;refine j.mono ?_;rintro e z⟨rfl,d⟩;replace t:=ah (t.later d);replace f:=ah (f.call d);have β:=d.size;clear j d x;have x:=fk (f.facts);have N:=aS (f.all 0 [jJ 0,jK n,jM,jM]);have J:=aS (Out.lp (X:=λb=>b=w.heap.size+2) (g:=w.heap.size+2) (r? rfl) [jJ 0,jK n,jM,jM] 0 (Out.refl _ z));have W:=ah N;have L:=ah J;clear N J;go_wp2_with fail;refine kh (λV=>Out (λb=>b=w.heap.size+2) z V) W L (λV9 R mB=>?_);have hq:=fk (R.at_ 0);clear x f W L;refine jF (v:=d? #[g? #[jJ 0,jK n,jM,jM],jJ er]) (by simp[results,Tryz.results30,go_sem,hq]) rfl ?_;exact l6.no (by rw[<-Y];try rfl) R.out.out H0 ((t.out.out mB (λb hb e=>qhc) jS).mono λb hb=>hb.1)
 |ok r=>
  obtain⟨l,a⟩:=r;obtain⟨⟨v,rfl,A,k,rfl,Q,H⟩,s⟩:=h1;have j:=ah (xk (λb=>(p b/\b<w.heap.size)\/V.heap.size<=b) g c l (Vx l a rfl) w1 G s);have t:=ah s;have K:=ah (Bg (Vx l a rfl));have q:IntKind.u64.wrap (kJ l.tb)=kJ l.tb:=gC _ (by have:=K.out;omega);have wZ:=ah Q;have BG:=ah H;obtain⟨n,C⟩:∃n,n=kJ l.tb:=⟨_,rfl⟩;rw[<-C]at q j;have HN:=ah C;clear s Q H C K;go_wp2_with fail;refine j.mono ?_;rintro e z⟨rfl,d⟩;replace t:=ah (t.later d);have Vq:Hid (Rd z z A (lC a)):=(Rd.below wZ d).more d.size;replace f:=ah (f.call d);have β:=d.size;clear j d x wZ;have x:=fk (f.facts);have N:=aS (f.all 0 [jJ 0,jK n,jN A a k,jM]);have J:=aS (Out.lp (X:=λb=>b=w.heap.size+2) (g:=w.heap.size+2) (r? rfl) [jJ 0,jK n,jN A a k,jM] 0 (Out.refl _ z));have W:=ah N;have L:=ah J;clear N J;go_wp2_with fail;refine kh (λV=>Out (λb=>b=w.heap.size+2) z V) W L (λV9 R mB=>?_);have hq:=fk (R.at_ 0);clear x f W L;refine jF (v:=d? #[g? #[jJ 0,jK n,jN A a k,jM],jJ 0]) (by simp[results,Tryz.results30,go_sem,hq]) rfl ?_;exact l6.yes (y:=⟨0,n,a,[]⟩) (n:=n) (by rw[<-Y,HN];try rfl) R.out.out ((t.out.out mB (λb hb e=>by rcases hb with hb|hb;have:=hb.2;omega;omega) jS).mono λb hb=>hb.elim (λh=>r? h.1) λh=>s? jS) rfl rfl rfl rfl (mB.rd Vq λ_ D e e2=>by have:=BG.out D e;omega) (λD e=>by have:=BG.out D e;omega) Rd.none_ (λ_ e=>LS)
variable{sc:v?}{kind:I}
def PS{l:E Gr}{to:I}{t:E mq}(h:qT l to t sc kind=.error er):er≠0:=by
 unfold qT at h;repeat' split at h
 all_goals first|(cases h;done)|(cases h;decide)
variable{C:Col}
def TU{own id:I}(a:m6 C id=M k)(b:C[k]? =M (c,T)):uV C own sc kind id=if id=own then kA T.tb sc kind else qT T.gl own T.tb sc kind:=by
 unfold uV;rw[a];simp only;rw[b]
variable{s:Sk}
def step_none{own id:I}(a:m6 C id=Z):ln C own sc kind s id=s:=by
 unfold ln uV;rw[a]
def FI{own id:I}(h:uV C own sc kind id=.error er):ln C own sc kind s id=s:=by unfold ln;rw[h]
def step_ok{own id:I}{p:Sk}(h:uV C own sc kind id=.ok p):ln C own sc kind s id=mZ s p:=by unfold ln;rw[h]
def Ym(w:jC)(a:SkM)(r:Sk)(e:bi6)(w':jC):Prop:=Below w w w'/\∃s:SkM,s.s=r/\e=a? (nT s)/\jY w' w' s/\(s=a\/lY (w.heap.size<= ·) s)
def Ib(X:O->Prop)(cb g0:O)(G:E O)(ka kb:I)(C:Col)(own id:I)(s:SkM)(m:ReqM)(N4:nR C)(I1:C.length<=100)(hs:GK s.s)(hk:s.s.kind=m.r.kind)(α:m.r.scope.size<=1000)(w:jC)(hT:Tb w)(hE:Er w)(hC:kE X w cb G ka kb C)(γ:jY w w s):jE Tryz.prog 59 #[oZ 54 cb g0 own,nT s,jK id,g? (aD m)] w (Ym w s (ln C own m.r.scope m.r.kind s.s id)):=by
 have HT:=ah hT;have HE:=ah hE;have HC:=ah hC;have HG:=ah N4;have HS:=ah γ;have yZ:=ah hs;have Wv:=ah hk;have HH:=ah (((((Hold.nil w).alloc w 88 [jO cb,jO g0,jK own]).alloc (w.heap.size+1) 136 (aA s)).alloc (w.heap.size+2) 35 (lz 4 m)).alloc (w.heap.size+3) 136 [jJ 0,jJ 0,jM,jJ 0,aF,jJ 0,jJ 0,jM,jJ 0,jM]);clear hT hE hC N4 γ hs hk;unfold nT;go_in;go_wp2_with fail;refine kf (λ_=>True) HH trivial (λV f _=>?_);clear HH;have V_:w.heap.size+3<V.heap.size:=(f.blk _ ab).2.lt;refine(uA X cb G ka kb C id I1 V (HC.later f.below)).mono ?_;rintro e w1⟨rfl,rfl⟩;have x:=fk (f.facts)
 cases hf:m6 C id with
 |none=>
  have j:Hid (ln C own m.r.scope m.r.kind s.s id=s.s):=step_none hf;generalize ln C own m.r.scope m.r.kind s.s id=r at*;clear hf;unfold Ad;have d:=aS (f.all 0 (aA s));go_wp2_with fail;refine kw (λ_=>True) d trivial (λV9 n _=>?_);have K:=fk (n.at_ 0);clear x d f;refine jF (v:=g? (aB s)) (by simp[results,Tryz.results59,go_sem,K]) rfl ?_;exact⟨n.below,s,j.symm,rfl,HS.later n.below,r? rfl⟩
 |some k=>
  obtain⟨H,Ut⟩:=EL hf;have β:k<G.length:=by rw[HC.len];exact H
  have A:Hid (uV C own m.r.scope m.r.kind id=if id=own then kA C[k].2.tb m.r.scope m.r.kind else qT C[k].2.gl own C[k].2.tb m.r.scope m.r.kind):=TU hf (an H);have Zm:Hid (∀p,uV C own m.r.scope m.r.kind id=.ok p->GK p/\p.kind=m.r.kind):=λp e=>Qf HG e;have ov:Hid (∀W,Below w w W->kB W (λb=>¬X b) G[k] C[k].1 C[k].2):=λW y=>(HC.ten k H β).later y;have oX:=ah (HG.ten _ (ar H));have hp:Ad G (M k)=e? (M ⟨G[k],0,Z⟩):=by simp only[Ad,an β]
  rw[hp];generalize G[k]=g at*;generalize C[k]=ct at*;obtain⟨c,T⟩:=ct;simp only at A ov oX;have HA:=ah (f.alloc w1 136 [jJ 0,jJ 0,jM,jJ 0,aF,jJ 0,jJ 0,jM,jJ 0,jM]);clear hf hp;by_cases hid:id=own
  .rw[B? hid]at A;have b1:(id==own)=t?:=by simp[hid]
   have b2:decide (id=own)=t?:=by simp[hid]
   have Y:Hid (∀er,kA T.tb m.r.scope m.r.kind=.error er->er≠0):=λer e=>An e;have QC:Hid (∀W,Below w w W->jE Tryz.prog 74 #[jO g,jL m.r.scope,jJ m.r.kind] W (mU W (kA T.tb m.r.scope m.r.kind))):=λW y=>Fw (λb=>¬X b) g c T m.r.scope m.r.kind oX.tb α W (HT.later y) (HE.later y) (ov W y);generalize kA T.tb m.r.scope m.r.kind=r at*;clear hid;go_wp2_with fail;refine kf (λ_=>True) HA trivial (λV f _=>?_);clear x HA;have δ:w1.heap.size<V.heap.size:=(f.blk _ ab).2.lt;refine(QC V f.below).mono ?_;rintro e w3⟨t,L⟩;have θ:=t.size;replace f:=ah (f.call t);clear t QC;have x:=fk (f.facts)
   cases r with
   |error er=>
    simp only at L;subst L;have j:Hid (ln C own m.r.scope m.r.kind s.s id=s.s):=FI A;generalize ln C own m.r.scope m.r.kind s.s id=rr at*;have h0:¬er=0:=Y er rfl;have d:=(f.all 0 [jJ 0,jJ 0,jM,jJ 0,aF,jJ 0,jJ 0,jM,jJ 0,jM]).all 1 (aA s);simp only[xl,lp,au,ao,ak,am]at d;have o:=ah d;clear d A Zm Y;simp only[xl];go_wp2_with fail;refine kw (λ_=>True) o trivial (λV9 n _=>?_);have K:=fk (n.at_ 1);clear x o f;refine jF (v:=g? (aB s)) (by simp[results,Tryz.results59,go_sem,K]) rfl ?_;exact⟨n.below,s,j.symm,rfl,HS.later n.below,r? rfl⟩
   |ok p=>
    obtain⟨D,rfl,rfl,wA,uI⟩:=L;have j:Hid (ln C own m.r.scope m.r.kind s.s id=mZ s.s D.s):=step_ok A;have F:=ah (Zm D.s A);generalize ln C own m.r.scope m.r.kind s.s id=rr at*;have d:=aS (f.all 0 (aA D));have yH:=aS (jY.lp (g:=w1.heap.size) (uI.mono λb y=>jS) (aA D) 0 wA);have o:=ah d;have YA:=ah yH;clear d A Zm Y wA yH;unfold nT;go_wp2_with fail;refine kf (λV=>jY V V D) o YA (λJ q N=>?_);clear x o YA f;have η:w.heap.size+3<J.heap.size:=(q.blk _ (ac 1)).2.lt;have QM:=ah (vC s D yZ F.1 (by rw[Wv,F.2]) J (HE.later q.below) (HS.later q.below) N);unfold nT at QM;refine QM.mono ?_;rintro e w8⟨h,Mh,rfl,tQ,wC,z⟩;have ε:=z.size;replace q:=ah (q.call z);have Vv:=ah Mh;have Q:=wC.inn;have nZ:=aS ((jY.lp (g:=w.heap.size+3) (Q.mono λb(y:J.heap.size<=b)=>jS) (aA h) 0 tQ).later ((Below.refl _ (lp w8 (w.heap.size+3) 0 (aA h))).alloc aa (m? (aB h) 136)));have d:=aS ((q.all 1 (aA h)).alloc w8 136 (aA h) (qj _ _ _ _).symm);have o:=ah d;have YB:=ah nZ;have O8:Hid (lY (w.heap.size<= ·) h):=Q.mono λb(y:J.heap.size<=b)=>jS;clear QM z Mh tQ wC Q nZ d;have x:=fk (q.facts);unfold nT;go_wp2_with fail;refine kw (λV=>jY V V h) o YB (λV9 n R=>?_);have K:=fk (n.at_ 2);clear x o q YB;refine jF (v:=g? (aB h)) (by simp[results,Tryz.results59,go_sem,K]) rfl ?_;exact⟨n.below,h,by rw[Vv,j],rfl,R,s? O8⟩
  rw[A? hid]at A;have b1:(id==own)=u?:=by simp[hid]
  have b2:decide (id=own)=u?:=by simp[hid]
  have Y:Hid (∀er,qT T.gl own T.tb m.r.scope m.r.kind=.error er->er≠0):=λer e=>PS e;have QC:Hid (∀W,Below w w W->jE Tryz.prog 77 #[jO g,jK own,jL m.r.scope,jJ m.r.kind] W (mU W (qT T.gl own T.tb m.r.scope m.r.kind))):=λW y=>M6 (λb=>¬X b) g c T own m.r.scope m.r.kind oX.tb oX.gg α W (HT.later y) (HE.later y) (ov W y);generalize qT T.gl own T.tb m.r.scope m.r.kind=r at*;clear hid;go_wp2_with fail;refine kf (λ_=>True) HA trivial (λV f _=>?_);clear x HA;have δ:w1.heap.size<V.heap.size:=(f.blk _ ab).2.lt;refine(QC V f.below).mono ?_;rintro e w3⟨t,L⟩;have θ:=t.size;replace f:=ah (f.call t);clear t QC;have x:=fk (f.facts)
  cases r with
  |error er=>
   simp only at L;subst L;have j:Hid (ln C own m.r.scope m.r.kind s.s id=s.s):=FI A;generalize ln C own m.r.scope m.r.kind s.s id=rr at*;have h0:¬er=0:=Y er rfl;have d:=(f.all 0 [jJ 0,jJ 0,jM,jJ 0,aF,jJ 0,jJ 0,jM,jJ 0,jM]).all 1 (aA s);simp only[xl,lp,au,ao,ak,am]at d;have o:=ah d;clear d A Zm Y;simp only[xl];go_wp2_with fail;refine kw (λ_=>True) o trivial (λV9 n _=>?_);have K:=fk (n.at_ 1);clear x o f;refine jF (v:=g? (aB s)) (by simp[results,Tryz.results59,go_sem,K]) rfl ?_;exact⟨n.below,s,j.symm,rfl,HS.later n.below,r? rfl⟩
  |ok p=>
   obtain⟨D,rfl,rfl,wA,uI⟩:=L;have j:Hid (ln C own m.r.scope m.r.kind s.s id=mZ s.s D.s):=step_ok A;have F:=ah (Zm D.s A);generalize ln C own m.r.scope m.r.kind s.s id=rr at*;have d:=aS (f.all 0 (aA D));have yH:=aS (jY.lp (g:=w1.heap.size) (uI.mono λb y=>jS) (aA D) 0 wA);have o:=ah d;have YA:=ah yH;clear d A Zm Y wA yH;unfold nT;go_wp2_with fail;refine kf (λV=>jY V V D) o YA (λJ q N=>?_);clear x o YA f;have η:w.heap.size+3<J.heap.size:=(q.blk _ (ac 1)).2.lt;have QM:=ah (vC s D yZ F.1 (by rw[Wv,F.2]) J (HE.later q.below) (HS.later q.below) N);unfold nT at QM;refine QM.mono ?_;rintro e w8⟨h,Mh,rfl,tQ,wC,z⟩;have ε:=z.size;replace q:=ah (q.call z);have Vv:=ah Mh;have Q:=wC.inn;have nZ:=aS ((jY.lp (g:=w.heap.size+3) (Q.mono λb(y:J.heap.size<=b)=>jS) (aA h) 0 tQ).later ((Below.refl _ (lp w8 (w.heap.size+3) 0 (aA h))).alloc aa (m? (aB h) 136)));have d:=aS ((q.all 1 (aA h)).alloc w8 136 (aA h) (qj _ _ _ _).symm);have o:=ah d;have YB:=ah nZ;have O8:Hid (lY (w.heap.size<= ·) h):=Q.mono λb(y:J.heap.size<=b)=>jS;clear QM z Mh tQ wC Q nZ d;have x:=fk (q.facts);unfold nT;go_wp2_with fail;refine kw (λV=>jY V V h) o YB (λV9 n R=>?_);have K:=fk (n.at_ 2);clear x o q YB;refine jF (v:=g? (aB h)) (by simp[results,Tryz.results59,go_sem,K]) rfl ?_;exact⟨n.below,h,by rw[Vv,j],rfl,R,s? O8⟩
structure nG(X:O->Prop)(w:jC)(m:ReqM):Prop where
 i:pO X w m.ia (m.r.items.flatMap Q8)
 t:pO X w m.ta (qM m.r.jV)
 ic:m.r.items.length<=m.ic
 tc:m.r.jV.length<=m.tc
variable{m:ReqM}
def nG.ok(h:nG X w m):ReqOk w w m:=⟨h.i.rd,h.t.rd,h.ic,h.tc⟩
def nG.out{X:O->Prop}{w w':jC}{m:ReqM}(h:nG X w m)(a:Out X w w'):nG X w' m:=⟨h.i.out a,h.t.out a,h.ic,h.tc⟩
def nG.later(h:nG X w m)(a:(bJ w w')):nG X w' m:=h.out (Out.of a)
def nG.wide{X Y:O->Prop}{w:jC}{m:ReqM}(h:nG X w m)(a:∀b,Y b->X b\/w.heap.size<=b):nG Y w m:=⟨h.i.wide a,h.t.wide a,h.ic,h.tc⟩
def nG.gi(h:nG X w m)(j:X g):m.r.items≠[]->∀a,m.ia=M a->a.block≠g:=λe a f c=>h.i.x (λb=>e (by cases d:m.r.items with|nil=>rfl|cons y r=>rw[d]at b;simp[Q8]at b)) a f (c▸j)
variable{cb:O}{G:E O}{ka kb:I}
def kE.narrow{Y:O->Prop}(h:kE Y w cb G ka kb C)(c:∀b,X b->Y b)(o:∀g∈G,X g):kE X w cb G ka kb C:=by
 obtain⟨t,p,m,q,n,l,j⟩:=h.blk;exact⟨⟨t,p,m,q,n,⟨l.rd,λe f d a=>l.x e f d (c _ a)⟩,⟨j.rd,λe f d a=>j.x e f d (c _ a)⟩⟩,λe=>h.cx (c _ e),h.len,h.nd,o,h.g4,λk r s=>(h.ten k r s).mono λb a e=>a (c b e)⟩
def yj: "rollup".toByteArray=⟨#[114,111,108,108,117,112]⟩:=TO
def kE.fresh{a c:jC}{d:O}(h:kE X w cb G ka kb C)(f:(cF w a))(g:Out (λb=>b=d) a c)(j:w.heap.size<=d)(l:∀b,X b->b<w.heap.size):kE X c cb G ka kb C:=
 h.later ((f.then_ (X:=λ_=>False) g λk e=>s? jS).below aa λ_ e=>e.elim)
def Lo(X:O->Prop)(w:jC)(cb g:O)(G:E O)(ka kb:I)(C:Col)(k:O)(c:lO)(r:s9)(n:K? I (kM×Unit))(e:bi6)(w':jC):Prop:=
 Out (·=g) w w'/\match n with
 |.error er=>e=a? (d? #[cR,jJ er])/\er≠0/\kE X w' cb G ka kb C
 |.ok (a,_)=>e=a? (d? #[g? #[jJ 0,jK (rt (vm (C.set k (c,a)) c.id r.scope r.kind r.jV) r.h),jM,jM],jJ 0])/\kE X w' cb G ka kb (C.set k (c,a))
def M_{own:I}{ids:E I}(h:k<ids.length):vm C own sc kind (ids.take (k+1))=ln C own sc kind (vm C own sc kind (ids.take k)) ids[k]:=by
 unfold vm;rw[aj h,fE];try rfl
def Hx(X:O->Prop)(cb:O)(G:E O)(ka kb:I)(C:Col)(k:O)(g:O)(c:lO)(T:kM)(m:ReqM)(N4:nR C)(I1:C.length<=100)(D:C[k]? =M (c,T))(hg:G[k]? =M g)(hf:lN m.r)(w:jC)(hw:4<=w.heap.size)(hX:∀b,X b->b<w.heap.size)(hT:Tb w)(hE:Er w)(hC:kE X w cb G ka kb C)(hM:nG X w m):jE Tryz.prog 32 #[g? #[jO cb,jO g,jK c.id],g? (aD m)] w (Lo X w cb g G ka kb C k c m.r (qt c T m.r)):=by
 obtain⟨r,ia,ic,ta,tc⟩:=m;simp only at hf;show jE Tryz.prog 32 #[g? #[jO cb,jO g,jK c.id],g? #[jJ r.op,jK r.now,jL r.labels,jL r.scope,jJ r.kind,jN ia r.items ic,jK r.h,jK r.to,jK r.id,jN ta r.jV tc]] w (Lo X w cb g G ka kb C k c r (qt c T r));obtain⟨α,Δ⟩:=ci.1 D;obtain⟨Y,ν⟩:=ci.1 hg;have HT:=ah hT;have HE:=ah hE;have Q:=ah hC;have HG:=ah N4;have HM:=ah hM;have HF:=ah hf;have HX:=ah hX;have Zt:=ah Δ;have F:=ah ν;have hgm:g∈G:=ν▸ar Y;have δ:=ah (hC.gx g hgm);have h4:4<=g:=hC.g4 g hgm;have hgw:g<w.heap.size:=hX g δ;have κ:=ah (N4.at_ D);have HH:=ah ((((kj.nil (·=g) w).alloc w 88 [jO cb,jO g,jK c.id]).alloc (w.heap.size+1) 35 [jJ r.op,jK r.now,jL r.labels,jL r.scope,jJ r.kind,jN ia r.items ic,jK r.h,jK r.to,jK r.id,jN ta r.jV tc]).alloc (w.heap.size+2) 55 bQ);clear hT hE hC N4 hM hf hX D hg Δ ν;by_cases h8:8<r.jV.length
 .have HN:Hid (qt c T r=.error 181):=by show _=_;unfold qt;rw[B? h8]
  generalize qt c T r=rr at*;have d1:decide ((8:I)<r.jV.length)=t?:=ae;go_in;go_wp2_with fail;refine kh (λV=>(cF w V)) HH ((((Out.refl (λ_=>False) w).alloc _).alloc _).alloc _) (λV9 y d=>?_);have hq:=fk (y.at_ 0);clear HH;refine jF (v:=d? #[cR,jJ 181]) (by simp[results,Tryz.results32,go_sem,hq]) rfl ?_;exact⟨y.out.out,by rw[HN];exact⟨rfl,B8,Q.later (d.below aa λ_ h=>h.elim)⟩⟩
 have d1:decide ((8:I)<r.jV.length)=u?:=ag;have QR:Hid (∀W,(cF w W)->jE Tryz.prog 56 #[jL r.scope] W λe w'=>e=a? (h? (mw r.scope))/\Below W W w'):=λW ho=>uk r.scope (by have:=HF.scope;omega) W (HT.rH ho λb e=>e.elim);have H8:=ah h8;clear h8;generalize hrr:qt c T r=rr;have IT:=ah hrr;clear hrr;go_in;go_wp2_with fail;refine kq (λV=>(cF w V)) HH ((((Out.refl (λ_=>False) w).alloc _).alloc _).alloc _) (λV l ho=>?_);clear HH d1;refine(QR V ho).mono ?_;rintro e w1⟨rfl,η⟩;replace l:=ah (l.call η);have J:=ah (ho.call η);clear QR η ho;have x:=fk (l.facts)
 cases R:mw r.scope with
 |false=>
  have HN:Hid (rr=.error 50):=by show _=_;rw[<-IT];unfold qt;rw[A? H8,A? (by rw[R];decide)]
  clear IT R;go_wp2_with fail;have a:=aS (l.all 0 bQ);have d:=aS (Out.lp (X:=λb=>b=w.heap.size+2) (g:=w.heap.size+2) (r? rfl) bQ 0 (Out.refl _ w1));refine kh (λV=>Out (λb=>b=w.heap.size+2) w1 V) a d (λV9 y d=>?_);have hq:=fk (y.at_ 0);clear a;refine jF (v:=d? #[cR,jJ 50]) (by simp[results,Tryz.results32,go_sem,hq]) rfl ?_;exact⟨y.out.out,by rw[HN.out];exact⟨rfl,B8,(Q.out.fresh J.out d jS HX.out)⟩⟩
 |true=>
  have HSC:=ah R;clear R;go_wp2_with fail;by_cases D:1<=r.kind/\r.kind<=3
  .have HK:=ah D;have MQ:Hid (CV c T r.now "rollup".toByteArray=rr):=by show _=_;rw[<-IT.out];unfold qt;rw[A? H8.out,B? HSC.out,B? D]
   refine(AE r.kind D w1).mono ?_;rintro e N⟨s0,ξ,rfl,K,γ,o⟩;have hs2:=o.size;have hsO:=J.size;have O7:=ah ξ;have oH:=ah (K.later ((Below.refl _ N).alloc aa (m? (aB s0) 136)));have χ:=ah K.inn;have aC9:=ah γ.inn;replace l:=ah (l.call o);have xd:=ah ((J.call o).alloc (m? (aB s0) 136));have HA:=ah (l.alloc N 136 (aA s0));clear x D IT K γ o ξ J;have x:=fk (l.facts);unfold nT;go_wp2_with fail;have hw2:w.heap.size+2<N.heap.size:=x.1;refine kq (λV=>(cF w V)/\jY V V s0) HA ⟨xd,oH⟩ (λV l hV=>?_);obtain⟨ho,Θ⟩:=hV;clear x HA xd oH;have θ:Below w w V:=ho.below aa λ_ h=>h.elim;have V_:N.heap.size<V.heap.size:=(l.blk _ ab).2.lt;obtain⟨X',Ω⟩:∃X':O->Prop,X'=λb=>X b\/(w.heap.size<=b/\b<V.heap.size):=⟨_,rfl⟩;have L:Hid (∀b,X' b↔(X b\/(w.heap.size<=b/\b<V.heap.size))):=λb=>by rw[Ω]
   have β:Hid (kE X' V cb G ka kb C):=(Q.wide (λb f=>by rcases(L b).1 f with h|h;exact r? h;exact s? h.1) λg hg=>(L g).2 (r? (Q.gx g hg))).later θ;have Fi:Hid (kB V (λb=>¬X' b) g c T):=by
    have:=β.ten k α Y;rw[Zt,F]at this;exact this
   have QN:=ah (M2 (λb=>¬X' b) g c T r.now "rollup".toByteArray κ.1 κ.2 HF.now (by rw[yj];decide) h4 V (HT.later θ) Fi (λb f e=>f (by rw[e];exact(L g).2 (r? δ))));rw[MQ]at QN;rw[yj]at QN;clear Ω Fi;refine QN.mono ?_;rintro e z⟨Mf,h5⟩;have hs5:=Mf.size;replace l:=ah (l.wP Mf (λk e=>r? e) (λb f e=>by simp at f;rcases f with rfl|rfl|rfl|rfl<;>simp at e<;>omega));have BC:=ah Mf;have J:Hid (Out (·=g) w z):=(ho.mono λ_ _ h=>h.elim).trans Mf;have Ξ:Hid (jY z z s0):=Mf.sk Θ (lY.mono (lY.both χ aC9) λb f e=>by have:=J.size;have h1:w1.heap.size<=b:=f.2;omega);clear QN Mf ho Θ θ;have x:=fk (l.facts)
   cases rr with
   |error er=>
    obtain⟨rfl,h0,mo⟩:=h5;have H0:=ah h0;have Zy:Hid (kE X' z cb G ka kb C):=by
     have:=β.same α Y (by rw[F];exact BC) (by rw[F,Zt];exact mo) (λb f=>by rcases(L b).1 f with h|h;have:=HX b h;omega;exact h.2);exact this
    clear mo;replace h0:¬er=0:=h0;go_wp2_with fail;have a:=aS (l.all 1 bQ);have d:=aS (Out.lp (X:=λb=>b=w.heap.size+2) (g:=w.heap.size+2) (r? rfl) bQ 0 (Out.refl _ z));refine kh (λV=>Out (λb=>b=w.heap.size+2) z V) a d (λV9 y d=>?_);have hq:=fk (y.at_ 1);clear a x;refine jF (v:=d? #[cR,jJ er]) (by simp[results,Tryz.results32,go_sem,hq]) rfl ?_;exact⟨y.out.out,rfl,H0,(Zy.out.out d λb e=>⟨(L b).2 (s? jS),λhm=>by have:=HX.out b (Q.gx b hm);omega⟩).narrow (λb f=>(L b).2 (r? f)) Q.gx⟩
   |ok tu=>
    obtain⟨T',u⟩:=tu;obtain⟨⟨v,rfl,rfl⟩,mo⟩:=h5;have aD1:Hid (nH c T'):=(Qk κ.2 HF.now MQ).1.g;have Γ:Hid (kE X' z cb G ka kb (C.set k (c,T'))):=by
     have:=β.set α Y (T:=T') (by rw[F];exact BC) (by rw[F,Zt];exact mo) (λb f=>by rcases(L b).1 f with h|h;have:=HX b h;omega;exact h.2);rwa[Zt]at this
    have μ:Hid (nR (C.set k (c,T'))):=by
     have:=HG.set α (T:=T') (by rw[Zt];exact aD1);rwa[Zt]at this
    have aD9:Hid ((C.set k (c,T')).length<=100):=by show _<=_;rw[eq];exact I1
    have HTR:Hid (Rd z z ta (qM r.jV)):=J.rd HM.t.rd λh ad e e2=>HM.t.x h ad e (e2▸δ);have HTI:Hid (qM r.jV≠[]->∀ad,ta=M ad->ad.block<w.heap.size):=HM.t.lt;have HT5:Hid (Tb z):=HT.rH J λb e=>jS;have HE5:Hid (Er z):=HE.rH J λb e=>jS;clear mo β;go_wp2_with fail;have SJ:Hid (s0.s=vm (C.set k (c,T')) c.id r.scope r.kind (r.jV.take 0)):=O7;have ρ:Hid (lY (λb=>b≠N.heap.size) s0):=χ.mono λb f=>Nat.ne_of_lt f;generalize ω:C.set k (c,T')=C5 at*;have HCE:=ah ω;clear ω;clear x O7;have h10:r.jV.length<=10:=HF.jV;generalize hsb:N.heap.size=A at*;go_loopw[42] (λi wr=>∃(j:O)(s:SkM),i=(aJ j)/\j<=r.jV.length/\Hid (s.s=vm C5 c.id r.scope r.kind (r.jV.take j))/\Hid (kj (·=g) w wr [(A,136,aA s),(w.heap.size+2,55,bQ),(w.heap.size+1,35,[jJ r.op,jK r.now,jL r.labels,jL r.scope,jJ r.kind,jN ia r.items ic,jK r.h,jK r.to,jK r.id,jN ta r.jV tc]),(w,88,[jO cb,jO g,jK c.id])])/\Hid (jY wr wr s)/\Hid (lY (λb=>b≠A) s)/\Hid (Out (λb=>b=A) z wr)) (λi _=>r.jV.length-(av i).toNat)
    case atStart=>exact⟨0,s0,rfl,be _,SJ,l,Ξ,ρ,Out.refl _ _⟩
    clear l SJ Ξ ρ;obtain⟨j,s,rfl,hj,Zl,H,oH,I4,Ys⟩:=hrel;have x:=fk (H.facts);have hs6:=Ys.size;by_cases h1:j<r.jV.length
    .have d1:decide ((j:I)<r.jV.length)=t?:=ae;have hne:qM r.jV≠[]:=λe=>by have h9:=C? ez e;unfold qM at h9;rw[ax,dp]at h9;omega
     obtain⟨b,ε,rfl,f,hc⟩:=HTR hne;have hbl:b<w.heap.size:=HTI hne _ rfl;have aS1:w.heap.size<=A:=jS;have i0:wr.cell? ⟨b,ε+j,Z⟩=M (c? n? r.jV[j]):=(Ys.cell (p:=⟨b,ε+j,Z⟩) f (by show¬b=A;omega)).trans (hc j _ (by unfold qM;rw[eD,an h1];try rfl));have xO:(0:I)<=j:=jS;have xN:(j:I)<r.jV.length:=jS;have hbw:b<wr.heap.size:=jS;have Vo:Hid (GK s.s/\s.s.kind=r.kind):=by show _/\_;rw[Zl];exact Px μ HK _
     have HST:Hid (vm C5 c.id r.scope r.kind (r.jV.take (j+1))=ln C5 c.id r.scope r.kind s.s r.jV[j]):=by show _=_;rw[M_ h1,Zl]
     have QM:=ah (Ib X' cb g G ka kb C5 c.id r.jV[j] s ⟨r,ia,ic,M ⟨b,ε,Z⟩,tc⟩ μ aD9 Vo.1 Vo.2 (by have:=HF.scope;show r.scope.size<=1000;omega) wr (HT5.out.rH Ys λb e=>jS) (HE5.out.rH Ys λb e=>jS) (Γ.out.out Ys λb e=>⟨(L b).2 (s? jS),λhm=>by have:=HX.out b (Q.gx b hm);omega⟩) oH);unfold nT at QM;generalize r.jV[j]=tid at*;clear hc;go_wp2_with fail;refine QM.mono ?_;rintro e w8⟨q,s8,ψ,rfl,tQ,qO⟩;have HS8:Hid (s8.s=vm C5 c.id r.scope r.kind (r.jV.take (j+1))):=by show _=_;rw[ψ,HST]
     have hz8:=q.size;have aS2:A<wr.heap.size:=(H.blk _ ab).2.lt;have O8:Hid (lY (λb=>b≠A) s8):=by
      rcases qO with h|h
      .rw[h];exact I4
      exact h.mono λb(f:wr.heap.size<=b)=>jS
     replace H:=ah (H.call q);have a:=aS (H.all 0 (aA s8));have nZ:=aS (jY.lp (g:=A) O8 (aA s8) 0 tQ);have d:=aS (Out.lp (X:=λb=>b=A) (g:=A) (r? rfl) (aA s8) 0 (Ys.call q));have lH:=ah a;have YB:=ah nZ;have SM:=ah d;clear x a nZ d QM q tQ qO ψ i0 d1;have x:=fk (H.facts);unfold nT;go_wp2_with fail;clear x H;go_roundw
     case rel=>exact⟨j+1,s8,CJ,jS,HS8,lH,YB,O8,SM⟩
     exact No
    have hjn:j=r.jV.length:=jS;subst hjn;have d1:decide ((r.jV.length:I)<r.jV.length)=u?:=lV;have Vo:Hid (GK s.s/\s.s.kind=r.kind):=by show _/\_;rw[Zl];exact Px μ HK _
    have HS9:Hid (s.s=vm C5 c.id r.scope r.kind r.jV):=by show _=_;rw[Zl,dP]
    have QA:=ah (GO s Vo.1 r.h HF.h wr oH);unfold nT at QA;have e9:rt s.s r.h=rt (vm C5 c.id r.scope r.kind r.jV) r.h:=by rw[HS9]
    rw[e9]at QA;clear e9;generalize Ψ:rt (vm C5 c.id r.scope r.kind r.jV) r.h=n at*;have OT:=ah Ψ;clear Ψ;go_wp2_with fail;refine QA.mono ?_;rintro e w8⟨rfl,q⟩;replace H:=ah (H.call q);have HO8:=ah (Ys.call q);clear x QA q d1;have x:=fk (H.facts);have a:=aS (H.all 1 [jJ 0,jK n,jM,jM]);have d:=aS (Out.lp (X:=λb=>b=A\/b=w.heap.size+2) (g:=w.heap.size+2) (r? (s? rfl)) [jJ 0,jK n,jM,jM] 0 (HO8.mono λb _ e=>r? e));have lH:=ah a;have SM:=ah d;clear a d;go_wp2_with fail;refine kh (λV=>Out (λb=>b=A\/b=w.heap.size+2) z V) lH SM (λV9 y d=>?_);have hq:=fk (y.at_ 1);clear x H lH SM;refine jF (v:=d? #[g? #[jJ 0,jK n,jM,jM],jJ 0]) (by simp[results,Tryz.results32,go_sem,hq]) rfl ?_;refine⟨y.out.out,?_⟩;show _=_/\kE X V9 cb G ka kb (C.set k (c,T'));rw[HCE,OT];exact⟨rfl,(Γ.out.out d λb e=>⟨(L.out b).2 (s? jS),λhm=>by have:=HX.out b (Q.out.gx b hm);omega⟩).narrow (λb f=>(L.out b).2 (r? f)) Q.out.gx⟩
  have HN:Hid (rr=.error 101):=by show _=_;rw[<-IT.out];unfold qt;rw[A? H8.out,B? HSC.out,A? D]
  refine(JX r.kind D w1).mono ?_;rintro e N⟨rfl,o⟩;replace l:=ah (l.call o);have xd:=ah (J.call o);clear x D IT o J;simp only[xl];have x:=fk (l.facts);go_wp2_with fail;have a:=aS ((l.all 0 bQ).alloc N 136 [jJ 0,jJ 0,jM,jJ 0,aF,jJ 0,jJ 0,jM,jJ 0,jM] (qj _ _ _ _).symm);have d:=aS ((Out.lp (X:=λb=>b=w.heap.size+2) (g:=w.heap.size+2) (r? rfl) bQ 0 (Out.refl _ N)).alloc (m? #[jJ 0,jJ 0,jM,jJ 0,aF,jJ 0,jJ 0,jM,jJ 0,jM] 136));refine kh (λV=>Out (λb=>b=w.heap.size+2) N V) a d (λV9 y d=>?_);have hq:=fk (y.at_ 1);clear a x;refine jF (v:=d? #[cR,jJ 101]) (by simp[results,Tryz.results32,go_sem,hq]) rfl ?_;exact⟨y.out.out,by rw[HN];exact⟨rfl,B8,Q.fresh xd d jS HX⟩⟩
def qD(cb g:O)(id:I):x? bk4:=#[{key:=.int o? 1,val:=.func (.func 30) #[oZ 54 cb g id] #[],born:=0},{key:=.int o? 2,val:=.func (.func 31) #[oZ 54 cb g id] #[],born:=1},{key:=.int o? 3,val:=.func (.func 32) #[oZ 54 cb g id] #[],born:=2},{key:=.int o? 4,val:=.func (.func 33) #[oZ 54 cb g id] #[],born:=3},{key:=.int o? 5,val:=.func (.func 34) #[oZ 54 cb g id] #[],born:=4},{key:=.int o? 6,val:=.func (.func 35) #[oZ 54 cb g id] #[],born:=5},{key:=.int o? 7,val:=.func (.func 36) #[oZ 54 cb g id] #[],born:=6}]
def kj.map{X:Nat->Prop}{a w:jC}{bs:List (Nat×jH×List jD)}(h:kj X a w bs)(es:Array bk4)(k:Nat):kj X a (w.alloc (.map es k)) bs:=h.al _
def KF{a:Int}(p m k j c n o:jD)(h:¬(1<=a/\a<=7)):eI (.int .i64) (.int .i64 a) (#[{key:=.int .i64 1,val:=p,born:=0},{key:=.int .i64 2,val:=m,born:=1},{key:=.int .i64 3,val:=k,born:=2},{key:=.int .i64 4,val:=j,born:=3},{key:=.int .i64 5,val:=c,born:=4},{key:=.int .i64 6,val:=n,born:=5},{key:=.int .i64 7,val:=o,born:=6}]:Array bk4).toList 0=some none:=by
 have d:(a==1)=false:=O1;have g:(a==2)=false:=O1;have l:(a==3)=false:=O1;have b:(a==4)=false:=O1;have q:(a==5)=false:=O1;have f:(a==6)=false:=O1;have e:(a==7)=false:=O1;simp only[eI,Instr.sameNow,if_true,d,g,l,b,q,f,e]
def sK.err{r:Col×Rep}(h:r=(C,uJ er))(b:Out (·∈G) w w')(a:kE X w' cb G ka kb C):sK X w cb G ka kb r (a? (g? #[jJ er,jK 0,jM,jM])) w':=
 ⟨b,by rw[h];exact a,_,rfl,Z,0,Z,0,by rw[h];try rfl,by rw[h];exact⟨⟨Rd.none_,λ_ e=>LS⟩,Rd.none_,λ_ e=>LS⟩⟩
variable{x:Cu}{r:s9}
def R4(h:m6 C x.oK=Z):tW C x r=(C,uJ 170):=by unfold tW;rw[h]
def XS(h:m6 C x.oK=M k)(a:C[k]? =M (c,T))(b:¬(1<=r.op/\r.op<=7)):tW C x r=(C,uJ 191):=by unfold tW;rw[h];simp only;rw[a];simp only;rw[B? b]
def R1(h:m6 C x.oK=M k)(a:C[k]? =M (c,T))(b:1<=r.op/\r.op<=7)(d:zZ x.role r.op=u?):tW C x r=(C,uJ 190):=by unfold tW;rw[h];simp only;rw[a];simp only;rw[A? (λq=>q b),B? d]
def R6(h:m6 C x.oK=M k)(a:C[k]? =M (c,T))(b:1<=r.op/\r.op<=7)(d:zZ x.role r.op=t?):tW C x r=Hz C k c T r:=by unfold tW;rw[h];simp only;rw[a];simp only;rw[A? (λq=>q b),A? (by rw[d];decide)]
def UH(a:r.op≠3)(h:p6 c T r=.error er):Hz C k c T r=(C,uJ er):=by unfold Hz;rw[A? a,h]
def xR{T':kM}{y:Rep}(a:r.op≠3)(h:p6 c T r=.ok (T',y)):Hz C k c T r=(C.set k (c,T'),y):=by unfold Hz;rw[A? a,h]
def mNo(a:I):O:=if a=1 then 30 else if a=2 then 31 else if a=3 then 32 else if a=4 then 33 else if a=5 then 34 else if a=6 then 35 else 36
def NF{id a:Int}{m:Nat}(b:1<=a/\a<=7)(h:w.heap[m]? =some (.map (qD cb g id) k)):(eU 90 (.map (some m)) (.int .i64 a) true).run Tryz.prog w=.ok (.tuple #[.func (.func (mNo a)) #[oZ 54 cb g id] #[],.bool true]) w:=by
 have e:a=1\/a=2\/a=3\/a=4\/a=5\/a=6\/a=7:=jS;rcases e with rfl|rfl|rfl|rfl|rfl|rfl|rfl<;>exact FY h Tryz.underlying90 Tryz.underlying3 rfl
def Tn{P:bi3}{o:bk0}{a:gG}{next:gG->jC->Prop}{Q:bk7->gG->jC->Prop}{R:Result Next}{f:bl9}{args:x? jD}(e:R=.ok (.enter f args) w')
 (h:jE P f args w' fun
  |a? v,b=>next (a.put o.dst v) b
  |.panicked chain,b=>Q (.panic chain) a b
  |.outgrown,_=>LetsOut Q):Oper.upon P o a next Q R:=by subst e;exact h
def MM(X:O->Prop)(w:jC)(cb:O)(G:E O)(ka kb:I)(C:Col)(R:Col×Rep)(e:bi6)(w':jC):Prop:=
 Out (·∈G) w w'/\kE X w' cb G ka kb R.1/\∃(a n er:I)(A d:w? jG)(c c1 b c2:O),e=a? (d? #[g? #[jJ a,jK n,b? A c c1,b? d b c2],jJ er])/\((er≠0/\R=(C,uJ er))\/(er=0/\IR w' w (g? #[jJ a,jK n,b? A c c1,b? d b c2]) R.2))
section
variable{X:O->Prop}{w w':jC}{cb k g:O}{G:E O}{ka kb:I}{C:Col}{c:lO}{T:kM}{r:s9}{e:bi6}
def xG(p:kE X w cb G ka kb C)(o:∀b,X b->b<w.heap.size)(q:k<C.length)(l:k<G.length)(B:G[k]=g)(d:C[k]=(c,T))(s:r.op≠3)(h:l6 w (λb=>¬X b) g c T (p6 c T r) e w'):MM X w cb G ka kb C (Hz C k c T r) e w':=by
 subst B;obtain⟨j,h⟩:=h;have a:Out (·∈G) w w':=j.mono λb _(z:b=G[k])=>z▸ar l;unfold Hz;rw[A? s]
 cases m:p6 c T r with
 |error er=>
  rw[m]at h;obtain⟨⟨n,A,J,H,rfl⟩,t,f⟩:=h;exact⟨a,p.same q l j (by rw[d];exact f) o,_,_,_,_,_,_,_,_,_,rfl,r? ⟨t,rfl⟩⟩
 |ok D=>
  rw[m]at h;obtain⟨x,y⟩:=D;obtain⟨⟨v,rfl,A,L,N,K,rfl,F⟩,f⟩:=h;have:=p.set q l (T:=x) j (by rw[d];exact f) o;rw[d]at this;exact⟨a,this,_,_,_,_,_,_,_,_,_,rfl,s? ⟨rfl,_,_,_,_,rfl,F⟩⟩
def Uc(q:k<C.length)(p:k<G.length)(l:G[k]=g)(j:r.op=3)(h:Lo X w cb g G ka kb C k c r (qt c T r) e w'):MM X w cb G ka kb C (Hz C k c T r) e w':=by
 subst l;obtain⟨m,h⟩:=h;have a:Out (·∈G) w w':=m.mono λb _(o:b=G[k])=>o▸ar p;unfold Hz;rw[B? j]
 cases f:qt c T r with
 |error er=>
  rw[f]at h;obtain⟨rfl,n,d⟩:=h;exact⟨a,d,_,_,_,_,_,_,_,_,_,rfl,r? ⟨n,rfl⟩⟩
 |ok s=>
  rw[f]at h;obtain⟨rfl,d⟩:=h;exact⟨a,d,_,_,_,_,_,_,_,_,_,rfl,s? ⟨rfl,Z,0,Z,0,rfl,⟨Rd.none_,λ_ e=>LS⟩,Rd.none_,λ_ e=>LS⟩⟩
end
def Qo(X:O->Prop)(cb:O)(G:E O)(ka kb:I)(C:Col)(k g:O)(c:lO)(T:kM)(m:ReqM)(N:1<=m.r.op/\m.r.op<=7)(J:nR C)(L:C.length<=100)(f:k<C.length)(a:k<G.length)(j:G[k]=g)(q:C[k]=(c,T))(s:lN m.r)(w:jC)(y:4<=w.heap.size)(t:∀b,X b->b<w.heap.size)(x:Tb w)(z:Er w)(l:kE X w cb G ka kb C)(n:nG X w m):jE Tryz.prog (mNo m.r.op) #[g? #[jO cb,jO g,jK c.id],g? (aD m)] w (MM X w cb G ka kb C (Hz C k c T m.r)):=by
 have H:C[k]? =M (c,T):=by rw[an f,q]
 have o:X g:=j▸l.gx _ (ar a);have A:kB w (λb=>¬X b) g c T:=by have:=l.ten k f a;rwa[q,j]at this
 have d:=J.at_ H;obtain⟨⟨v,P,B,D,kind,F,h,to,id,R⟩,W,V,Q,Y⟩:=m;have e:v=1\/v=2\/v=3\/v=4\/v=5\/v=6\/v=7:=by simp only at N;omega
 rcases e with rfl|rfl|rfl|rfl|rfl|rfl|rfl
 case inr.inr.inl=>exact(Hx X cb G ka kb C k g c T _ J L H (by rw[an a,j]) s w y t x z l n).mono λe w' h=>Uc f a j rfl h
 case inl=>exact(Ic (λb=>¬X b) cb g c.id c T _ d.1 d.2 s (l.g4 g (j▸ar a)) w y x z A (λb p e=>p (e▸o)) n.ok (n.gi o)).mono λe w' h=>xG l t f a j q (by show(1:I)≠3;decide) (by simp only[p6];exact h)
 case inr.inl=>exact(KU (λb=>¬X b) cb g c.id c T _ d.1 d.2 s (l.g4 g (j▸ar a)) w y x z A (λb p e=>p (e▸o)) n.ok (n.gi o)).mono λe w' h=>xG l t f a j q (by show(2:I)≠3;decide) (by simp only[p6];exact h)
 case inr.inr.inr.inl=>exact(KV (λb=>¬X b) cb g c.id c T _ d.1 d.2 s (l.g4 g (j▸ar a)) w y x z A (λb p e=>p (e▸o)) n.ok (n.gi o)).mono λe w' h=>xG l t f a j q (by show(4:I)≠3;decide) (by simp only[p6];exact h)
 case inr.inr.inr.inr.inl=>exact(Hy (λb=>¬X b) cb g c.id c T _ d.1 d.2 s (l.g4 g (j▸ar a)) w y x z A (λb p e=>p (e▸o)) n.ok (n.gi o)).mono λe w' h=>xG l t f a j q (by show(5:I)≠3;decide) (by simp only[p6];exact h)
 case inr.inr.inr.inr.inr.inl=>exact(KX (λb=>¬X b) cb g c.id c T _ d.1 d.2 s (l.g4 g (j▸ar a)) w y x z A (λb p e=>p (e▸o)) n.ok (n.gi o)).mono λe w' h=>xG l t f a j q (by show(6:I)≠3;decide) (by simp only[p6];exact h)
 case inr.inr.inr.inr.inr.inr=>exact(Oy (λb=>¬X b) cb g c.id c T _ d.1 d.2 s (l.g4 g (j▸ar a)) w y x z A (λb p e=>p (e▸o)) n.ok (n.gi o)).mono λe w' h=>xG l t f a j q (by show(7:I)≠3;decide) (by simp only[p6];exact h)
def MB(X:Nat->Prop)(cb:Nat)(G:List Nat)(ka kb:Int)(C:Col)(x:Cu)(m:ReqM)(N4:nR C)(I1:C.length<=100)(hf:lN m.r)(w:jC)(hw:4<=w.heap.size)(hX:∀b,X b->b<w.heap.size)(hT:Tb w)(hE:Er w)(hC:kE X w cb G ka kb C)(hM:nG X w m):jE Tryz.prog 16 #[jO cb,.agg (Ij x).toArray,.agg (uD m).toArray] w (sK X w cb G ka kb (tW C x m.r)):=by
 have QM:=λ(X':Nat->Prop) k g c T t a1 a2 a3 a4=>Qo X' cb G ka kb C k g c T m t N4 I1 a1 a2 a3 a4 hf;obtain⟨⟨L,γ,j,p,kind,q,h,to,id,jV⟩,ia,ic,ta,tc⟩:=m;obtain⟨rq,N⟩:∃rq:s9,rq=⟨L,γ,j,p,kind,q,h,to,id,jV⟩:=⟨_,rfl⟩;have Z7:rq.op=L:=by rw[N]
 simp only[Ij,uD];simp only[<-N]at QM;have Ω:=ah QM;have HT:=ah hT;have HE:=ah hE;have J:=ah hC;have HG:=ah N4;have HM:=ah hM;have HX:=ah hX;have td:=ah N;have SK:=ah Z7;rw[<-N];have HH:=ah ((((kj.nil (·∈G) w).alloc w 30 [jK x.oK,jJ x.role,jK x.YR]).alloc (w.heap.size+1) 35 [jJ L,jK γ,jL j,jL p,jJ kind,jN ia q ic,jK h,jK to,jK id,jN ta jV tc]).alloc (w.heap.size+2) 55 bQ);clear hT hE hC N4 hM hf hX N QM Z7;go_in;go_wp2_with fail;refine kq (λV=>(cF w V)) HH ((((Out.refl (λ_=>False) w).alloc _).alloc _).alloc _) (λV s t=>?_);clear HH;have HO:=ah t;have D:Below w w V:=t.below aa λ_ h=>h.elim;have V_:w.heap.size+2<V.heap.size:=(s.blk _ ab).2.lt;refine(Ih _ V).mono ?_;rintro e w1⟨rfl,rfl⟩;have xx:=fk (s.facts);go_wp2_with fail;refine(uA X cb G ka kb C x.oK I1 w1 (J.later D)).mono ?_;rintro e H⟨rfl,rfl⟩;clear t
 cases Y:m6 C x.oK with
 |none=>
  have F:Hid (tW C x rq=(C,uJ 170)):=R4 Y;clear Y;unfold Ad;go_wp2_with fail;have d:=s.all 0 [jJ 170,jK 0,jM,jM];have o:=Out.lp (X:=λb=>b=w.heap.size+2) (g:=w.heap.size+2) (.inl rfl) [jJ 170,jK 0,jM,jM] 0 (Out.refl _ H);simp only[qD,lp,au,ao,ak,am]at d o;refine kh (λV=>Out (λb=>b=w.heap.size+2) H V) d o (λV9 y K=>?_);have hq:=fk (y.at_ 0);clear d o xx;refine jF (v:=.agg #[jJ 170,jK 0,jM,jM]) (by simp[results,Tryz.results16,go_sem,hq]) rfl ?_;exact sK.err F y.out.out (J.fresh HO K jS HX)
 |some k=>
  obtain⟨θ,Ut⟩:=EL Y;have μ:k<G.length:=by rw[J.len];exact θ
  have hp:Ad G (some k)=.pointer (some ⟨G[k],0,none⟩):=by simp only[Ad,an μ]
  rw[hp];have Γ:Hid (C[k]? =some C[k]):=an θ;have OV:Hid (G[k]∈G):=ar μ;have ξ:=ah Y;clear hp Y;generalize φ:G[k]=g at*;generalize Ξ:C[k]=ct at*;obtain⟨c,T⟩:=ct;have HHG:=ah φ;have HHC:=ah Ξ;have κ:Hid (C[k]? =some (c,T)):=Γ;simp only at Ut;clear φ Ξ Γ;have ω:x.oK=c.id:=Ut.symm;have hgw:g<w.heap.size:=HX g (J.gx g OV);rw[ω]at xx s⊢;clear ω Ut;have HA:=ah ((s.alloc H 88 [jO cb,jO g,jK c.id]).map (qD cb g c.id) 7);have ε:=ah ((HO.alloc (.cells #[jO cb,jO g,jK c.id] 88)).alloc (.map (qD cb g c.id) 7));have η:Hid ((((H.alloc (.cells #[jO cb,jO g,jK c.id] 88)).alloc (.map (qD cb g c.id) 7)).heap[H.heap.size+1]? :Option Obj)=some (.map (qD cb g c.id) 7)):=by
   show _=_;have:=du (H.alloc (.cells #[jO cb,jO g,jK c.id] 88)) (.map (qD cb g c.id) 7);rwa[show(H.alloc (.cells #[jO cb,jO g,jK c.id] 88)).heap.size=H.heap.size+1 by simp]at this
  have qq:∀(n:Int)(v:jD)(es:Array bk4)(ck:Nat)(_:eI (.int .i64) (.int .i64 n) es.toList 0=some none),_:=λn v es ck h=>nW (P:=Tryz.prog) (W:=H.alloc (.cells #[jO cb,jO g,jK c.id] 88)) (m:=H.heap.size+1) (T:=90) (c:=n) (v:=v) (es:=es) (clock:=ck) lV Tryz.underlying90 Tryz.underlying3 h;have q1:=λv=>qq 1 v #[] 0 rfl;have q2:=λv1 v=>qq 2 v #[{key:=.int .i64 1,val:=v1,born:=0}] 1 rfl;have q3:=λv1 v2 v=>qq 3 v #[{key:=.int .i64 1,val:=v1,born:=0},{key:=.int .i64 2,val:=v2,born:=1}] 2 rfl;have q4:=λv1 v2 v3 v=>qq 4 v #[{key:=.int .i64 1,val:=v1,born:=0},{key:=.int .i64 2,val:=v2,born:=1},{key:=.int .i64 3,val:=v3,born:=2}] 3 rfl;have q5:=λv1 v2 v3 v4 v=>qq 5 v #[{key:=.int .i64 1,val:=v1,born:=0},{key:=.int .i64 2,val:=v2,born:=1},{key:=.int .i64 3,val:=v3,born:=2},{key:=.int .i64 4,val:=v4,born:=3}] 4 rfl;have q6:=λv1 v2 v3 v4 v5 v=>qq 6 v #[{key:=.int .i64 1,val:=v1,born:=0},{key:=.int .i64 2,val:=v2,born:=1},{key:=.int .i64 3,val:=v3,born:=2},{key:=.int .i64 4,val:=v4,born:=3},{key:=.int .i64 5,val:=v5,born:=4}] 5 rfl;have q7:=λv1 v2 v3 v4 v5 v6 v=>qq 7 v #[{key:=.int .i64 1,val:=v1,born:=0},{key:=.int .i64 2,val:=v2,born:=1},{key:=.int .i64 3,val:=v3,born:=2},{key:=.int .i64 4,val:=v4,born:=3},{key:=.int .i64 5,val:=v5,born:=4},{key:=.int .i64 6,val:=v6,born:=5}] 6 rfl;simp only[fW,dz,dj,au,ao]at q1 q2 q3 q4 q5 q6 q7;clear qq;have hmm:=@run_makeMap Tryz.prog;have hmf:∀(fn:Fn)(first cap:Array jD)(w:jC),(gF fn first cap).run Tryz.prog w=.ok (.func fn first cap) w:=λ_ _ _ _=>rfl;have Yw:=η;simp only[qD]at HA ε Yw;go_wp2_with fail;clear q1 q2 q3 q4 q5 q6 q7 hmm hmf;by_cases t:1<=L/\L<=7
  .have Q:=NF t η;have ν:=ah t;simp only[qD]at Q;clear s t η Yw;generalize hmn:mNo L=f at*;have Θ:=ah hmn;clear hmn;rw[Q];go_wp2_with fail;refine kq (λV=>(cF w V)) HA ε (λV s t=>?_);clear xx HA ε Q;refine(Ue x.role L V).mono ?_;rintro e w5⟨rfl,ρ⟩;replace s:=ah (s.call ρ);have BC:=ah (t.call ρ);clear t ρ;have xx:=fk (s.facts);have α:Below w w w5:=BC.below aa λ_ h=>h.elim
   cases β:zZ x.role L with
   |false=>
    have F:Hid (tW C x rq=(C,uJ 190)):=R1 ξ κ (by rw[SK];exact ν) (by rw[SK];exact β);clear β;go_wp2_with fail;have d:=s.all 1 [jJ 190,jK 0,jM,jM];have o:=Out.lp (X:=λb=>b=w.heap.size+2) (g:=w.heap.size+2) (.inl rfl) [jJ 190,jK 0,jM,jM] 0 (Out.refl _ w5);simp only[qD,lp,au,ao,ak,am]at d o;refine kh (λV=>Out (λb=>b=w.heap.size+2) w5 V) d o (λV9 y K=>?_);have hq:=fk (y.at_ 1);clear d o xx;refine jF (v:=.agg #[jJ 190,jK 0,jM,jM]) (by simp[results,Tryz.results16,go_sem,hq]) rfl ?_;exact sK.err F y.out.out (J.fresh BC K jS HX)
   |true=>
    have F:Hid (tW C x rq=Hz C k c T rq):=R6 ξ κ (by rw[SK];exact ν) (by rw[SK];exact β);clear β;have hf:f=30\/f=31\/f=32\/f=33\/f=34\/f=35\/f=36:=by rw[<-Θ];unfold mNo;(repeat' split)<;>simp
    clear Θ
    all_goals
     go_wp2_with fail;obtain⟨X',Ψ⟩:∃X':Nat->Prop,X'=λb=>X b\/(w.heap.size<=b/\b<w5.heap.size):=⟨_,rfl⟩;have E8:Hid (∀b,X' b↔(X b\/(w.heap.size<=b/\b<w5.heap.size))):=λb=>by rw[Ψ]
     clear Ψ;have hz5:=BC.size;have hz6:w.heap.size+2<w5.heap.size:=(s.blk _ (ac 1)).2.lt;have QM:=Ω X' k g c T ν θ μ HHG HHC w5 jS (λb D=>by rcases(E8 b).1 D with h|h;have:=HX b h;omega;exact h.2) (HT.later α) (HE.later α)
      ((J.wide (λb D=>by rcases(E8 b).1 D with h|h;exact .inl h;exact .inr h.1) λg hg=>(E8 g).2 (.inl (J.gx g hg))).later α) (by rw[td];exact(HM.wide (λb D=>by rcases(E8 b).1 D with h|h;exact .inl h;exact .inr h.1)).later α)
     generalize Hz C k c T rq=R at*;refine Tn (f:=f) (args:=#[.agg #[jO cb,jO g,jK c.id],.agg #[jJ L,jK γ,jL j,jL p,jJ kind,jN ia q ic,jK h,jK to,jK id,jN ta jV tc]]) (w':=w5) (by clear QM Ω F;rcases hf with rfl|rfl|rfl|rfl|rfl|rfl|rfl<;>rfl) ?_;refine(show jE Tryz.prog _ #[.agg #[jO cb,jO g,jK c.id],.agg #[jJ L,jK γ,jL j,jL p,jJ kind,jN ia q ic,jK h,jK to,jK id,jN ta jV tc]] w5 (MM X' w5 cb G ka kb C R)from QM).mono ?_;clear QM;rintro e w6⟨δ,ψ,a,n,er,A,E,k1,c1,k2,c2,rfl,h6⟩;have hz7:=δ.size;replace s:=ah (s.wP δ (λk e=>.inl e) (λb D e=>by have:=HX _ (J.gx _ e);simp at D;rcases D with rfl|rfl|rfl|rfl<;>simp at this<;>omega));have Vz:=ah ψ;clear δ ψ xx;have xx:=fk (s.facts);rcases h6 with⟨h0,hR⟩|⟨rfl,hy⟩
     .rw[hR]at Vz F;replace h0:¬er=0:=h0;clear hR;go_wp2_with fail;have d:=(s.all 1 [jJ er,jK 0,jM,jM]).alloc w6 55 [jJ a,jK n,.slice A k1 c1,.slice E k2 c2] (qj _ _ _ _).symm;have o:=(Out.lp (X:=λb=>b=w.heap.size+2) (g:=w.heap.size+2) (.inl rfl) [jJ er,jK 0,jM,jM] 0 (Out.refl _ w6)).alloc (.cells #[jJ a,jK n,.slice A k1 c1,.slice E k2 c2] 55);simp only[qD,lp,au,ao,ak,am]at d o;refine kh (λV=>Out (λb=>b=w.heap.size+2) w6 V) d o (λV9 y K=>?_);have hq:=fk (y.at_ 2);clear d o xx;refine jF (v:=.agg #[jJ er,jK 0,jM,jM]) (by simp[results,Tryz.results16,go_sem,hq]) rfl ?_;exact sK.err F y.out.out ((Vz.out.out K λb e=>⟨(E8 b).2 (.inr jS),λhm=>by have:=HX.out b (J.gx b hm);omega⟩).narrow (λb D=>(E8 b).2 (.inl D)) J.gx)
     have HY:=ah hy;clear hy;go_wp2_with fail;have d:=(s.all 1 [jJ a,jK n,.slice A k1 c1,.slice E k2 c2]).alloc w6 55 [jJ a,jK n,.slice A k1 c1,.slice E k2 c2] (qj _ _ _ _).symm;have o:=(Out.lp (X:=λb=>b=w.heap.size+2) (g:=w.heap.size+2) (.inl rfl) [jJ a,jK n,.slice A k1 c1,.slice E k2 c2] 0 (Out.refl _ w6)).alloc (.cells #[jJ a,jK n,.slice A k1 c1,.slice E k2 c2] 55);simp only[qD,lp,au,ao,ak,am]at d o;refine kh (λV=>Out (λb=>b=w.heap.size+2) w6 V) d o (λV9 y K=>?_);have hq:=fk (y.at_ 2);clear d o xx;refine jF (v:=.agg #[jJ a,jK n,.slice A k1 c1,.slice E k2 c2]) (by simp[results,Tryz.results16,go_sem,hq]) rfl ?_;obtain⟨A',k1',E',k2',e4,⟨ha,χ⟩,he,Δ⟩:=HY;injection e4 with e4;have e5:=congrArg Array.toList e4;simp only[List.cons.injEq,Value.int.injEq,Value.slice.injEq,true_and,and_true]at e5;obtain⟨rfl,rfl,⟨rfl,rfl,rfl⟩,rfl,rfl,rfl⟩:=e5;exact⟨y.out.out,by rw[F];exact((Vz.out.out K λb e=>⟨(E8 b).2 (.inr jS),λhm=>by have:=HX.out b (J.gx b hm);omega⟩).narrow (λb D=>(E8 b).2 (.inl D)) J.gx),_,rfl,_,_,_,_,by rw[F],by rw[F];exact⟨K.rd ha λ_ ad e e2=>by have:=χ ad e;omega,λad e=>by have:=χ ad e;omega⟩,by rw[F];exact K.rd he λ_ ad e e2=>by have:=Δ ad e;omega,λad e=>by have:=Δ ad e;omega⟩
  have F:Hid (tW C x rq=(C,uJ 191)):=XS ξ κ (by rw[SK];exact t);have Q:=BV (P:=Tryz.prog) (T:=90) (c:=L) Yw Tryz.underlying90 Tryz.underlying3 (KF _ _ _ _ _ _ _ jS) (z:=.nilFunc) oo;clear t;rw[Q];go_wp2_with fail;have d:=((s.all 0 [jJ 191,jK 0,jM,jM]).alloc H 88 [jO cb,jO g,jK c.id] (qj _ _ _ _).symm).map (qD cb g c.id) 7;have o:=((Out.lp (X:=λb=>b=w.heap.size+2) (g:=w.heap.size+2) (.inl rfl) [jJ 191,jK 0,jM,jM] 0 (Out.refl _ H)).alloc (.cells #[jO cb,jO g,jK c.id] 88)).alloc (.map (qD cb g c.id) 7);simp only[qD,lp,au,ao,ak,am]at d o;refine kh (λV=>Out (λb=>b=w.heap.size+2) H V) d o (λV9 y K=>?_);have hq:=fk (y.at_ 1);clear d o xx;refine jF (v:=.agg #[jJ 191,jK 0,jM,jM]) (by simp[results,Tryz.results16,go_sem,hq]) rfl ?_;exact sK.err F y.out.out (J.fresh HO K jS HX)
end Go.Proofs.YtfcnedcahoifoaaGreatDoor

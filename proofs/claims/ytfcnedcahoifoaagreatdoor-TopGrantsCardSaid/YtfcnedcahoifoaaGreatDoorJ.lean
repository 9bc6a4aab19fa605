import Derived.Laws.IdiomCopy
import Derived.Test.YtfcnedcahoifoaaGreatDoorB
import Derived.Test.YtfcnedcahoifoaaGreatDoorH
import Derived.Laws.MakeOwn
import Derived.OneCell
import Derived.Test.YtfcnedcahoifoaaGreatDoorG
import Derived.Test.YtfcnedcahoifoaaGreatDoorQ
open Go.RowKit
open _root_ renaming Array→x?,Bool→z?,ByteArray→v?,Except→K?,Int→I,List→E,Nat→O,Option→w?,UInt8→y?,absurd→H?,beq_eq_false_iff_ne→G?,beq_false_of_ne→J?,congrArg→C?,decide_eq_false→E?,decide_eq_true_eq→D?,decide_eq_true→F?,if_neg→A?,if_pos→B?
open _root_.Array renaming getElem?_eq_some_iff→aw,length_toList→iA,toList_empty→gP
open _root_.Bool renaming and_eq_true→ba,false_and→eO,false→u?,or_eq_true→ft,true_and→eF,true→t?
open _root_.ByteArray renaming size_append→fc,size→iG
open _root_.Go renaming Addr→jG,Calls→jE,Code→bk9,Ending→bi6,Exit→bk7,FuncId→bl9,Oper→bk0,Program→bi3,TypeId→jH,Value→jD,World→jC,bodyPost_end→bl6,bodyPost_ret→jF,info_parts→bi5,ownsRow_setCell_other→bj0,results_cell_row→bl2,run_makeSlice_owned→bk8,run_underlying→bi8,wpAnyH_take→bk5,wpList_append_own→bk3,wpQuiet_nil→bl0,wp_region_held_drew→bi1
open _root_.Go.Act renaming put→gL
open _root_.Go.Addr renaming add→iU
open _root_.Go.Builtin renaming clear_→gE,zeroCells→d8
open _root_.Go.Code renaming region→jo
open _root_.Go.Ending renaming returned→a?
open _root_.Go.Instr renaming slice→gI
open _root_.Go.IntKind renaming i64→o?,u64→n?
open _root_.Go.IntWalk renaming i64_in→dv,u64_in→gC
open _root_.Go.Lib renaming BuilderAtF→fN,IsBuilderF→dX,OthersKept→eh,byteCells_length→ii,byteCells→dV,hid→ai,joinTail→iH,run_eql_slice_nil→fR,strCells→jh
open _root_.Go.Obj renaming cells→m?
open _root_.Go.Op renaming stringOp→fK
open _root_.Go.Oper renaming wp→je
open _root_.Go.Program renaming elem→gR
open _root_.Go.Region renaming free→iV,noSelect→gS,ready→eE,wanted→eQ
open _root_.Go.Result renaming andThen→dw
open _root_.Go.RowKit renaming intOf→av
open _root_.Go.Sem renaming run_bind→eT
open _root_.Go.Value renaming agg→g?,bool→h?,int→br,ownBlock→gy,pointer→e?,slice→b?,string→f?,tuple→d?
open _root_.Go.World renaming block_lt_of_cell?→b8,cell?_alloc_lt→dt,cell?_of_block→co,ownsRow_made→gO,ownsRow_nil→dY,ownsRow→gX,setCell→bj
open _root_.List renaming append_assoc→eH,append_nil→eB,cons_append→dj,drop_drop→gp,drop_eq_getElem_cons→dN,drop_eq_nil_of_le→ei,drop_succ_cons→jc,eq_nil_of_length_eq_zero→da,filter_append→gQ,filter_cons→eC,filter_eq_self→eY,flatMap_append→eZ,flatMap_cons→dg,getElem?_cons_succ→bo,getElem?_cons_zero→bm,getElem?_drop→fL,getElem?_eq_getElem→an,getElem?_eq_none→fS,getElem?_eq_some_iff→ci,getElem?_map→eD,getElem?_set_self→gM,getElem?_toArray→bh,getElem_cons_succ→ej,getElem_cons_zero→dQ,getElem_map→gD,getElem_mem→ar,getElem_of_mem→dR,getElem_set_self→fP,getElem_set→eW,getElem_take→jt,getElem_toArray→eK,getLast?_cons_cons→fj,getLast?_eq_getElem?→fv,length_append→cd,length_cons→c_,length_drop→dr,length_filter_le→fe,length_map→ax,length_nil→dp,length_range→fo,length_set→eq,length_singleton→fT,length_take→cv,length→ez,map_append→dH,map_cons→df,map_set→iJ,map_take→iR,mem_append→ed,mem_cons_of_mem→dS,mem_cons→cw,mem_filter→eN,mem_flatMap→ir,mem_map→dq,mem_of_getElem?→cm,mem_of_mem_drop→eJ,mem_of_mem_take→dy,mem_or_eq_of_mem_set→dO,mem_range→dh,nil_append→dz,pairwise_append→il,pairwise_cons→b6,pairwise_iff_getElem→cj,range_succ→fV,range→bu,setIfInBounds_toArray→bd,set_append_right→iN,set_cons_succ→am,set_cons_zero→ak,set_getElem_self→ie,size_toArray→jn,take_length→dP,take_nil→iT,take_of_length_le→cl,take_set_of_le→gm,take_sublist→js,take_succ_cons→iz,take_succ_eq_append_getElem→aj,take_zero→fO
open _root_.Nat renaming add_assoc→gW,add_zero→ip,eq_zero_or_pos→fM,le_refl→ay,le_succ→dU,le_trans→a_,lt_of_lt_of_le→cn,lt_or_eq_of_le→iE,lt_or_gt_of_ne→iD,lt_succ_self→fA,mod_lt→jj,mul_le_mul_right→fZ,reduceAdd→ao,zero_add→au,zero_le→be,zero_mul→fh
open _root_.Option renaming getD_some→jz,map_some→jb,none→Z,some→M
open _root_.Or renaming inl→ge,inr→s?
open _root_.Go.Ending renaming returned→ff
open _root_.Go.Value renaming int→c?
open _root_.Go.Value renaming slice→eo
open _root_.Or renaming inl→r?
set_option maxRecDepth 100000
set_option maxHeartbeats 16000000
set_option linter.unusedVariables false
set_option linter.unusedSimpArgs false
set_option linter.defProp false
namespace Go.Proofs.YtfcnedcahoifoaaGreatDoor
def pi(l m:E kI):z?:=decide (l=m)
def tM:∀{l m n:E kI},kV l m=t?->kV m n=t?->kV l n=t?
 |[],[],_,h,_=>by simp[kV]at h
 |[],_::_,[],_,h=>by simp[kV]at h
 |[],_::_,_::_,_,_=>rfl
 |_::_,[],_,h,_=>by simp[kV]at h
 |_::_,_::_,[],_,h=>by simp[kV]at h
 |x::l,y::m,z::n,h,k=>by
  rw[kV]at h k⊢;by_cases p1:tx x.1=tx y.1<;>by_cases a:tx y.1=tx z.1
  .by_cases b:tx x.2=tx y.2<;>by_cases c:tx y.2=tx z.2
   .rw[B? ⟨p1,b⟩]at h;rw[B? ⟨a,c⟩]at k;rw[B? ⟨p1.trans a,b.trans c⟩];exact tM h k
   .rw[A? (λe=>c e.2),B? a]at k;rw[A? (λe=>c (b.symm.trans e.2)),B? (p1.trans a),b];exact k
   .rw[A? (λe=>b e.2),B? p1]at h;rw[A? (λe=>b (e.2.trans c.symm)),B? (p1.trans a),<-c];exact h
   rw[A? (λe=>b e.2),B? p1]at h;rw[A? (λe=>c e.2),B? a]at k;have t:=qd h k;rw[A? (λe=>by rw[e.2,zk]at t;cases t),B? (p1.trans a)];exact t
  .rw[A? (λe=>a e.1),A? a]at k;rw[A? (λe=>a (p1.symm.trans e.1)),A? (λe=>a (p1.symm.trans e)),p1];exact k
  .rw[A? (λe=>p1 e.1),A? p1]at h;rw[A? (λe=>p1 (e.1.trans a.symm)),A? (λe=>p1 (e.trans a.symm)),<-a];exact h
  rw[A? (λe=>p1 e.1),A? p1]at h;rw[A? (λe=>a e.1),A? a]at k;have t:=qd h k;have d:tx x.1≠tx z.1:=λe=>by rw[e,zk]at t;cases t
  rw[A? (λe=>d e.1),A? d];exact t
def Xl{x y:kI}(b:tx x.1=tx y.1)(a:tx x.2=tx y.2):x=y:=Prod.ext (VL.1 b) (VL.1 a)
def Ax:∀l m:E kI,(kV l m=t?/\kV m l=u?/\pi l m=u?)\/(kV l m=u?/\kV m l=t?/\pi l m=u?)\/(kV l m=u?/\kV m l=u?/\pi l m=t?)
 |[],[]=>s? (s? ⟨rfl,rfl,rfl⟩)
 |[],y::m=>r? ⟨rfl,rfl,by simp[pi]⟩
 |x::l,[]=>s? (r? ⟨rfl,rfl,by simp[pi]⟩)
 |x::l,y::m=>by
  rw[kV,kV];by_cases a:tx x.1=tx y.1
  .by_cases b:tx x.2=tx y.2
   .rw[B? ⟨a,b⟩,B? ⟨a.symm,b.symm⟩];have e:=Xl a b;subst e;have c:pi (x::l) (x::m)=pi l m:=by simp[pi]
    rw[c];exact Ax l m
   rw[A? (show¬(tx x.1=tx y.1/\tx x.2=tx y.2)from λh=>b h.2),A? (show¬(tx y.1=tx x.1/\tx y.2=tx x.2)from λh=>b h.2.symm),B? a,B? a.symm];have c:pi (x::l) (y::m)=u?:=by
    simp only[pi,decide_eq_false_iff_not];intro e;injection e with e _;exact b (by rw[e])
   rw[c];rcases ur (tx x.2) (tx y.2)with h|h|h
   .exact r? ⟨h,qe h,rfl⟩
   .exact H? h b
   exact s? (r? ⟨qe h,h,rfl⟩)
  rw[A? (show¬(tx x.1=tx y.1/\tx x.2=tx y.2)from λh=>a h.1),A? (show¬(tx y.1=tx x.1/\tx y.2=tx x.2)from λh=>a h.1.symm),A? a,A? (Ne.symm a)];have c:pi (x::l) (y::m)=u?:=by
   simp only[pi,decide_eq_false_iff_not];intro e;injection e with e _;exact a (by rw[e])
  rw[c];rcases ur (tx x.1) (tx y.1)with h|h|h
  .exact r? ⟨h,qe h,rfl⟩
  .exact H? h a
  exact s? (r? ⟨qe h,h,rfl⟩)
def Mw:∀(n:O)(l:E y?),l.length<=n->l.length<=4*(cp l).length
 |0,l,h=>jS
 |n+1,l,h=>by
  by_cases e:l=[]
  .subst e;simp
  have b:=oQ l;have a:=Mw n (l.drop (nP l).2) (by rw[dr];omega);rw[Mx e,c_];rw[dr]at a;omega
variable{l:E kI}
def mt(h:setB l=t?):l.length<=6/\∀x∈l,x.1.size<=12/\x.2.size<=96:=by
 refine⟨?_,λx b=>?_⟩
 .unfold setB at h;simp only[ba,D?]at h;exact h.1.2
 obtain⟨a,d⟩:=FU h x b;simp only[nameB,mP,ba,D?]at a d;rw[lG]at a;have c:=Mw _ (tx x.2) aa;rw[lG]at c;exact⟨a.1.2,jS⟩
structure GS(s:mq):Prop where
 set:setB s.l=t?
 k:GK s.k
 seen:U s.seen
structure GT(t:E mq):Prop where
 len:t.length<=20
 all:∀s∈t,GS s
 up:t.Pairwise λa b=>kV a.l b.l=t?
def GT.nil:GT []:=⟨lV,λ_ h=>WY,List.Pairwise.nil⟩
def GT.filter{t:E mq}(h:GT t)(p:mq->z?):GT (t.filter p):=⟨a_ (fe _ _) h.len,λs a=>h.all s (eN.1 a).1,h.up.filter _⟩
variable{s:mq}
def GT.one(h:GS s):GT [s]:=⟨lV,λx a=>by simp at a;rw[a];exact h,lV⟩
def o_(t:E mq)(l:E kI):O:=(t.takeWhile λs=>kV s.l l).length
def mQ(t:E mq)(l:E kI):z?:=decide ((t[o_ t l]?).map (·.l)=M l)
def Lk(t:E mq)(l:E kI):o_ t l<=t.length:=(List.takeWhile_prefix _).length_le
def VN{p:mq->z?}:∀{t:E mq}(k:O)(h:k<(t.takeWhile p).length),p (t[k]'(cn h (List.takeWhile_prefix _).length_le))=t?
 |[],k,h=>WY
 |x::t,k,h=>by
  by_cases a:p x=t?
  .rw[List.takeWhile_cons_of_pos a]at h
   cases k with
   |zero=>exact a
   |succ k=>simpa using VN (t:=t) k S6
  rw[List.takeWhile_cons_of_neg a]at h;simp at h
def Cv{p:mq->z?}:∀{t:E mq}(h:(t.takeWhile p).length<t.length),p (t[(t.takeWhile p).length])=u?
 |[],h=>WY
 |x::t,h=>by
  by_cases a:p x=t?
  .have e:(x::t).takeWhile p=x::t.takeWhile p:=List.takeWhile_cons_of_pos a;have b:(t.takeWhile p).length<t.length:=by rw[e]at h;simpa using h
   have:=Cv b;simp only[e,c_,ej];exact this
  have e:(x::t).takeWhile p=[]:=List.takeWhile_cons_of_neg a;simp only[e,dp,dQ];simpa using a
variable{t:E mq}{k:O}
def E4(h:k<o_ t l):kV (t[k]'(cn h (Lk t l))).l l=t?:=VN (p:=λs=>kV s.l l) k h
def Sr(h:o_ t l<t.length):kV t[o_ t l].l l=u?:=Cv (p:=λs=>kV s.l l) h
def Ss(c:k<=t.length)(b:∀j(d:j<k),kV (t[j]'(by omega)).l l=t?)(a:∀h:k<t.length,kV t[k].l l=u?):o_ t l=k:=by
 rcases Nat.lt_trichotomy (o_ t l) k with h|h|h
 .have:=Sr (l:=l) (t:=t) jS;rw[b _ h]at this;cases this
 .exact h
 have:=E4 h;rw[a (by have:=Lk t l;omega)]at this;cases this
def zN(h:mQ t l=t?):∃a:o_ t l<t.length,t[o_ t l].l=l:=by
 unfold mQ at h;rw[decide_eq_true_iff]at h
 cases e:t[o_ t l]? with
 |none=>rw[e]at h;simp at h
 |some s=>
  obtain⟨a,b⟩:=ci.1 e;rw[e]at h;exact⟨a,by rw[b];simpa using h⟩
def CW(h:mQ t l=u?)(a:o_ t l<t.length):kV l t[o_ t l].l=t?:=by
 have b:=Sr a;rcases Ax t[o_ t l].l l with q|q|q
 .rw[b]at q;exact H? q.1 lV
 .exact q.2.1
 have e:t[o_ t l].l=l:=by have:=q.2.2;simpa[pi]using this
 unfold mQ at h;rw[an a]at h;simp[e]at h
def CL(t:E mq)(s:mq):E mq:=if mQ t s.l=t? then t.take (o_ t s.l)++s::t.drop (o_ t s.l+1)else t.take (o_ t s.l)++s::t.drop (o_ t s.l)
def Dm(t:E mq)(l:E kI):z?:= !mQ t l&&decide (t.length=20)
variable{j:O}
def P5(h:t.Pairwise λa b=>kV a.l b.l=t?)(n:∀i(c:i<t.length),i<k->kV t[i].l s.l=t?)(m:∀i(c:i<t.length),j<=i->kV s.l t[i].l=t?):(t.take k++s::t.drop j).Pairwise λa b=>kV a.l b.l=t?:=by
 have f:∀a∈t.take k,kV a.l s.l=t?:=λa e=>by
  obtain⟨i,c,rfl⟩:=dR e;rw[jt];exact n i (by simp at c;omega) (by simp at c;omega)
 have g:∀b∈t.drop j,kV s.l b.l=t?:=λb d=>by
  obtain⟨i,c,rfl⟩:=dR d;rw[List.getElem_drop];exact m (j+i) (by simp at c;omega) jS
 refine il.2 ⟨h.sublist (js _ _),b6.2 ⟨g,h.sublist (List.drop_sublist _ _)⟩,λa e b d=>?_⟩;rcases cw.1 d with rfl|d
 .exact f a e
 exact tM (f a e) (g b d)
def P7(h:GT t)(hs:GS s)(j:Dm t s.l=u?):GT (CL t s):=by
 have k:=cj.1 h.up;unfold CL;split
 .rename_i b;obtain⟨f,e⟩:=zN b;refine⟨?_,λx a=>?_,P5 h.up (λi d c=>E4 c) λi d c=>?_⟩
  .have:=h.len;simp;omega
  .rcases ed.1 a with a|a
   .exact h.all x (dy a)
   rcases cw.1 a with rfl|a
   .exact hs
   exact h.all x (eJ a)
  have:=k (o_ t s.l) i f d jS;rw[e]at this;exact this
 rename_i b;replace b:mQ t s.l=u?:=by simpa using b
 refine⟨?_,λx a=>?_,P5 h.up (λi d c=>E4 c) λi d c=>?_⟩
 .have:=h.len;have m:t.length≠20:=by unfold Dm at j;rw[b]at j;simpa using j
  simp;omega
 .rcases ed.1 a with a|a
  .exact h.all x (dy a)
  rcases cw.1 a with rfl|a
  .exact hs
  exact h.all x (eJ a)
 have f:o_ t s.l<t.length:=jS;rcases iE c with g|g
 .exact tM (CW b f) (k (o_ t s.l) i f d g)
 subst g;exact CW b f
def nF(s:mq):I:=wM s.k+16+((qR s.l).length:I)
def kJ(t:E mq):I:=(t.map nF).sum
def GT.kY(h:GT t)(k:O)(n:k<t.length){x:Sk}(m:GK x):GT (t.set k {t[k]with k:=x}):=by
 refine⟨by rw[eq];exact h.len,λs b=>?_,cj.2 λi j d g f=>?_⟩
 .rcases dO b with b|b
  .exact h.all s b
  have:=h.all t[k] (ar n);rw[b];exact⟨this.set,m,this.seen⟩
 have c:i<t.length:=by simpa using d
 have a:j<t.length:=by simpa using g
 have e:∀(i:O)(d:i<t.length),((t.set k {t[k]with k:=x})[i]'(by simpa using d)).l=t[i].l:=λi d=>by
  rw[eW];split
  .subst_vars;rfl
  rfl
 rw[e i c,e j a];exact cj.1 h.up i j c a f
def nN(t:List mq)(kind:Int):List Nat->Sk->Sk
 |[],a=>a
 |k::b,a=>nN t kind b (if(t[k]?.map (·.k.kind))=some kind then mZ a ((t[k]?.map (·.k)).getD a)else a)
def LI{t:E mq}{kind:I}(h:GT t):∀(b:E O){a:Sk},(∀k∈b,k<t.length)->GK a->a.kind=kind->GK (nN t kind b a)/\(nN t kind b a).kind=kind
 |[],a,_,f,d=>⟨f,d⟩
 |k::b,a,g,f,d=>by
  have c:=g k lV;rw[nN];refine LI h b (λj l=>g j (by simp[l])) ?_ ?_
  all_goals
   rw[an c];simp only[jb,Option.some.injEq,jz];split
   .rename_i e;have:=Ei f (h.all t[k] (ar c)).k (d.trans e.symm);first|exact this.1|exact this.2.trans d
   assumption
instance i3_(x0:jZ):CoeOut (sH 3 x0) (E jD):=⟨λ_=>[jN x0.la x0.s.l x0.lc,jJ x0.m.s.kind,jJ x0.m.s.level,jN x0.m.ea x0.m.s.e x0.m.ec,jJ x0.m.s.bits,jL x0.m.s.regs,jJ x0.m.s.rows,jJ x0.m.s.cols,jN x0.m.ca x0.m.s.c x0.m.cc,jJ x0.m.s.fine,jN x0.m.ga x0.m.s.g x0.m.gc,jK x0.s.seen]⟩
instance aZ4(x0:E jZ)(x1:jD):CoeOut (wU 34 x0 x1) O:=⟨λ_=>x0.length-(av x1).toNat⟩
structure oI(w:jC)(A:w? jG)(ms:E jZ):Prop where
 tab:Tab w w A ms
 g:GT (ms.map (·.s))
def oI.later{w w':jC}{A:w? jG}{ms:E jZ}(h:oI w A ms)(a:Below w w w'):oI w' A ms:=⟨h.tab.later a,h.g⟩
def oI.len{w:jC}{A:w? jG}{ms:E jZ}(h:oI w A ms):ms.length<=20:=by have:=h.g.len;rwa[ax]at this
variable{w:jC}{A:w? jG}{ms:E jZ}
def oI.gs(h:oI w A ms)(a:k<ms.length):GS ms[k].s:=h.g.all _ (dq.2 ⟨_,ar a,rfl⟩)
def oI.ok{w:jC}{A:w? jG}{ms:E jZ}(h:oI w A ms){k:O}(a:k<ms.length):my w w ms[k]:=h.tab.ok _ (ar a)
def oI.step(h:oI w A ms)(a:j+1<ms.length):kV ms[j].s.l ms[j+1].s.l=t?:=by
 have:=cj.1 h.g.up j (j+1) qlm qlm jS;simpa using this
def set_any(l:E kI)(A:w? jG)(c:O)(h:setB l=t?)(w:jC)(a:Tb w)(d:Lb w w A l):jE Tryz.prog 134 #[jN A l c] w λe w'=>e=a? (h? t?)/\Below w w w':=by
 have:=j_ A l c (λx b=>by have:=(mt h).2 x b;omega) w a d;rwa[h]at this
def Aa(m:jZ)(f:GS m.s)(w:jC)(o:Tb w)(g:my w w m):jE Tryz.prog 138 #[yV m] w λe w'=>e=a? (h? t?)/\Below w w w':=by
 have p:Hid (∀w',Below w w w'->jE Tryz.prog 134 #[jN m.la m.s.l m.lc] w' λe b=>e=a? (h? t?)/\Below w' w' b):=λw' h=>set_any _ _ _ f.set w' (o.later h) (g.later h).l;have j:Hid (∀w',Below w w w'->jE Tryz.prog 183 #[nT m.m] w' λe b=>e=a? (h? t?)/\Below w' w' b):=λw' h=>by
  have n:GK m.m.s:=by rw[m.hk];exact f.k
  exact Q5 m.m n.right w' (g.later h).k n.fit
 clear o g f;unfold nT at j;go_in;unfold yV;go_wp2_with fail;refine kf (λ_=>True) ((Hold.nil w).alloc w 197 (lz 3 m)) trivial (λV a _=>?_);refine(p V a.below).mono ?_;rintro e r⟨rfl,c⟩;replace a:=ah (a.call c);clear c p;have x:=fk (a.facts);go_wp2_with fail;refine(j _ a.below).mono ?_;rintro e q⟨rfl,d⟩;replace a:=(a.call d).below;clear d j x;go_wp2;go_ret;exact⟨rfl,a⟩
def ql(A:w? jG)(ms:E jZ)(cap:O)(w:jC)(hT:Tb w)(N:oI w A ms):jE Tryz.prog 98 #[jN A ms cap] w λe w'=>e=a? (h? t?)/\Below w w w':=by
 have κ:=N.len;have H:decide (20<(ms.length:I))=u?:=ag;have c:=ah N;have HT:=ah hT;clear N hT;go_in;go_wp2_with fail;clear H;go_loopw[10] (λi wr=>∃k:O,i=(aJ k)/\k<=ms.length/\(bB w wr)) (λi _=>(lI 34 ms i))
 case atStart=>exact⟨0,rfl,be _,jQ _⟩
 obtain⟨k,rfl,hk,HB⟩:=hrel;by_cases o:k<ms.length
 .have d1:decide ((k:I)<ms.length)=t?:=ae;obtain⟨b,q,rfl,hb,X⟩:=c.tab.at_ jS;obtain⟨i0,i1,i2,i3,i4,i5,i6,i7,i8,i9,W,T⟩:=(X k o).below HB hb;have δ:b<wr.heap.size:=qes;have η:(0:I)<=k:=jS;have μ:(k:I)<ms.length:=jS;have L:Hid (∀w',Below w w w'->jE Tryz.prog 138 #[yV ms[k]] w' λe n=>e=a? (h? t?)/\Below w' w' n):=λw' h=>Aa _ (c.gs o) w' (HT.later h) ((c.ok o).later h);have Lt:Hid (∀j,k=j+1->∃m:jZ,w.cell? ⟨b,q+j*12,Z⟩=M (b? m.la m.s.l.length m.lc)/\∀w',Below w w w'->jE Tryz.prog 135 #[jN m.la m.s.l m.lc,b? ms[k].la ms[k].s.l.length ms[k].lc] w' λe n=>e=a? (h? t?)/\Below w' w' n):=λj e=>by
   subst e;have Y:j<ms.length:=jS;refine⟨ms[j],(X j Y).c0,λw' h=>?_⟩;have:=Gy ms[j].la ms[j+1].la ms[j].s.l ms[j+1].s.l ms[j].lc ms[j+1].lc (by have:=(mt (c.gs Y).set).1;omega) (by have:=(mt (c.gs o).set).1;omega) w' ((c.ok Y).later h).l ((c.ok o).later h).l;rwa[c.step o]at this
  clear X;generalize ms[k]=m at*
  unfold yV at L;go_wp2_with fail;refine kf (λV=>Below w w V) ((Hold.nil wr).alloc wr 197 (lz 3 m)) (jP HB _) (λV G R=>?_);refine(L V R).mono ?_;rintro e d⟨rfl,g⟩;replace G:=ah (G.call g);have f:=ah (Below.two R g);clear g R L HB;have x:=fk (G.facts);have x0:=x.2.2.1;have β:wr.heap.size<d.heap.size:=x.1;clear x G i0 i1 i2 i3 i4 i5 i6 i7 i8 i9 W T;generalize wr.heap.size=bx at*
  haveI hAW:=After.some d;have F0:=After.cell x0 β;by_cases F:k=0
  .have g1:decide ((0:I)<k)=u?:=mO;have g2:decide (0<k)=u?:=mO;clear Lt F;go_wp2;refine rgb ?_;repeat(go_big_quiet_step (first|fail))
   refine bl0 ?_;rintro z⟨D,C⟩;have BI:(bB w z):=f.trans ((show Below d d z by rw[C];exact D.is).mono f.size);clear C D;go_wp2;go_roundw
   case rel=>exact⟨k+1,CJ,jS,BI⟩
   exact No
  obtain⟨j,rfl⟩:∃j,k=j+1:=⟨k-1,jS⟩;have g1:decide ((0:I)<((j+1:O):I))=t?:=ae;obtain⟨p,v,r⟩:=Lt j rfl;have J:=(f.cell (p:=⟨b,q+j*12,Z⟩) hb).trans v;have α:b<d.heap.size:=by have:=f.size;omega
  have F1:=After.cell J α;have QL:Hid (∀y:After d,jE Tryz.prog 135 #[jN p.la p.s.l p.lc,jN m.la m.s.l m.lc] y.at_ λe w'=>e=a? (h? t?)/\Below y.at_.heap.size y.at_ w'):=λy=>r y.at_ (f.trans (y.is.mono f.size));have ε:(0:I)<=j:=jS;have θ:(j:I)<ms.length:=jS;clear v r F Lt;go_wp2_with fail;refine rgb ?_;repeat(go_big_quiet_step (first|with_reducible exact na (QL.out _)))
  refine bl0 ?_;rintro z⟨D,C⟩;have BI:(bB w z):=f.trans ((show Below d d z by rw[C];exact D.is).mono f.size);clear C D;go_wp2;go_roundw
  case rel=>exact⟨j+1+1,CJ,jS,BI⟩
  exact No
 have γ:k=ms.length:=jS;subst γ;have d1:decide ((ms.length:I)<ms.length)=u?:=lV;go_wp2;go_ret;exact⟨rfl,HB⟩
def drop_eq{m:E kI}(d:k<l.length)(b:k<m.length):decide (l.drop k=m.drop k)=(decide (k7 l k=k7 m k)&&decide (l.drop (k+1)=m.drop (k+1))):=by
 rw[wL d,wL b];by_cases a:k7 l k=k7 m k<;>by_cases c:l.drop (k+1)=m.drop (k+1)<;>simp[a,c]
def Kd(A C:w? jG)(l m:E kI)(cap XX:O)(hl:l.length<=4294967296)(w:jC)(T:Lb w w A l)(Q:Lb w w C m):jE Tryz.prog 136 #[jN A l cap,jN C m XX] w λe w'=>e=a? (h? (decide (l=m)))/\Below w w w':=by
 by_cases d:m.length=l.length
 .have HS:=ah T;have HM:=ah Q;have Y:=ah d;rw[d];clear T Q d;go_in;go_wp2_with fail;go_loopw[13] (λi wr=>∃k:O,i=(aJ k)/\k<=l.length/\Hid (decide (l=m)=decide (l.drop k=m.drop k))/\(bB w wr)) (λi _=>l.length-(av i).toNat)
  case atStart=>exact⟨0,rfl,be _,rfl,jQ _⟩
  obtain⟨k,rfl,hk,N,t⟩:=hrel;by_cases h1:k<l.length
  .have d1:decide ((k:I)<l.length)=t?:=ae;have R:k<m.length:=by have:=Y.out;omega
   obtain⟨b,c,rfl,hb,X⟩:=HS.at_ jS;obtain⟨c1,c2⟩:=X k h1;obtain⟨g,a,rfl,D,B⟩:=HM.at_ jS;obtain⟨c3,c4⟩:=B k R;have J:=(t.cell (p:=(cP b c k)) hb).trans c1;have G:=(t.cell (p:=(cE b c k)) hb).trans c2;have L:=(t.cell (p:=(cP g a k)) D).trans c3;have F:=(t.cell (p:=(cE g a k)) D).trans c4;have β:(0:I)<=k:=jS;have γ:(k:I)<l.length:=jS;have s:Hid (decide (l=m)=(decide (k7 l k=k7 m k)&&decide (l.drop (k+1)=m.drop (k+1)))):=N.trans (drop_eq h1 R);have W:=ah t.drew;clear X B c1 c2 c3 c4 R N;generalize k7 l k=x at*;generalize k7 m k=y at*;obtain⟨q,n⟩:=x;obtain⟨r,o⟩:=y;simp only at J G L F;by_cases K:q.toList=r.toList
   .have b1:(q.toList==r.toList)=t?:=by rw[beq_iff_eq];exact K
    have j:q=r:=rX (by rw[<-km,<-km,K]);by_cases H:n.toList=o.toList
    .have b2:(n.toList==o.toList)=t?:=by rw[beq_iff_eq];exact H
     have z:n=o:=rX (by rw[<-km,<-km,H]);have f:Hid (decide (l=m)=decide (l.drop (k+1)=m.drop (k+1))):=by show _=_;rw[s,j,z];simp
     clear j z s;go_wp2;go_region_held(λw'=>w'.cell? (cP b c k)=M (f? q)/\w'.cell? (cE b c k)=M (f? n)/\w'.cell? (cP g a k)=M (f? r)/\w'.cell? (cE g a k)=M (f? o)) (first|assumption|exact⟨J,G,L,F⟩|go_keep) (fail);go_wp2;go_roundw
     case rel=>exact⟨k+1,CJ,jS,f,W⟩
     exact No
    have b2:(n.toList==o.toList)=u?:=by rw[G?];exact H
    have f:Hid (decide (l=m)=u?):=by show _=_;rw[s];simp;intro _ h;exact H? (by rw[h]) H
    clear j s;go_wp2;go_region_held(λw'=>w'.cell? (cP b c k)=M (f? q)/\w'.cell? (cE b c k)=M (f? n)/\w'.cell? (cP g a k)=M (f? r)/\w'.cell? (cE g a k)=M (f? o)) (first|assumption|exact⟨J,G,L,F⟩|go_keep) (fail);go_wp2;go_ret;exact⟨jU f.symm,W⟩
   have b1:(q.toList==r.toList)=u?:=by rw[G?];exact K
   have f:Hid (decide (l=m)=u?):=by show _=_;rw[s];simp;intro h;exact H? (by rw[h]) K
   clear s;go_wp2;go_region_held(λw'=>w'.cell? (cP b c k)=M (f? q)/\w'.cell? (cE b c k)=M (f? n)/\w'.cell? (cP g a k)=M (f? r)/\w'.cell? (cE g a k)=M (f? o)) (first|assumption|exact⟨J,G,L,F⟩|go_keep) (fail);go_wp2;go_ret;exact⟨jU f.symm,W⟩
  have V:k=l.length:=jS;subst V;have d1:decide ((l.length:I)<l.length)=u?:=lV;have f:Hid (decide (l=m)=t?):=by show _=_;rw[N,ei aa,ei (by have:=Y.out;omega)];simp
  go_wp2;go_ret;exact⟨jU f.symm,t⟩
 have b1:((l.length:I)==(m.length:I))=u?:=O1;have b2:(l.length==m.length)=u?:=O1;have b3:decide (l.length=m.length)=u?:=mO;have f:Hid (decide (l=m)=u?):=by show _=_;simp;intro h;exact d (by rw[h])
 clear d T Q;go_in;go_wp2;go_ret;exact⟨jU f.symm,jQ _⟩
def RQ(A:w? jG)(ms:E jZ)(cap:O)(B:w? jG)(l:E kI)(L:O)(hl:l.length<=1000)(w:jC)(hT:Tb w)(n:oI w A ms)(T:Lb w w B l):jE Tryz.prog 94 #[jN A ms cap,jN B l L] w λe w'=>e=a? (d? #[jJ (o_ (ms.map (·.s)) l:O),h? (mQ (ms.map (·.s)) l)])/\Below w w w':=by
 have HS:=ah n;have Y:=ah (ql A ms cap w hT n);have γ:=n.len;have QL:Hid (∀k(h:k<ms.length) w',Below w w w'->jE Tryz.prog 135 #[b? ms[k].la ms[k].s.l.length ms[k].lc,jN B l L] w' λe r=>e=a? (h? (kV ms[k].s.l l))/\Below w' w' r):=λk h w' t=>
  Gy _ _ _ _ _ _ (by have:=(mt (n.gs h).set).1;omega) jS w' ((n.ok h).later t).l (T.later t)
 have QE:Hid (∀k(h:k<ms.length) w',Below w w w'->jE Tryz.prog 136 #[b? ms[k].la ms[k].s.l.length ms[k].lc,jN B l L] w' λe r=>e=a? (h? (decide (ms[k].s.l=l)))/\Below w' w' r):=λk h w' t=>
  Kd _ _ _ _ _ _ (by have:=(mt (n.gs h).set).1;omega) w' ((n.ok h).later t).l (T.later t)
 clear n hT T;go_in;go_wp2_with fail;refine Y.mono ?_;rintro e w1⟨rfl,z⟩;have X:=ah z;clear z Y;go_wp2_with fail;go_loopw[6] (λi wr=>∃k:O,i=(aJ k)/\k<=ms.length/\Hid (∀j(o:j<(ms.map (·.s)).length),j<k->kV (ms.map λx:jZ=>x.s)[j].l l=t?)/\(bB w wr)) (λi _=>(lI 34 ms i))
 case atStart=>exact⟨0,rfl,be _,λj _ h=>jS,X⟩
 obtain⟨k,rfl,hk,y,v⟩:=hrel;by_cases J:k<ms.length
 .have d1:decide ((k:I)<ms.length)=t?:=ae;obtain⟨b,C,rfl,t,K⟩:=HS.tab.at_ jS;have N:=(v.cell (p:=⟨b,C+k*12,Z⟩) t).trans (K k J).c0;have β:(0:I)<=k:=jS;have δ:(k:I)<ms.length:=jS;have g:=ah (QL k J);have G:=ah (QE k J);have q:(ms.map (·.s))[k]? =M ms[k].s:=by rw[eD,an J];rfl
  cases c:kV ms[k].s.l l with
  |true=>
   have W:Hid (∀j(o:j<(ms.map (·.s)).length),j<k+1->kV (ms.map λx:jZ=>x.s)[j].l l=t?):=λj o Q=>by
    rcases iE (Nat.le_of_lt_succ Q)with h|h
    .exact y j o h
    subst h;rw[gD];exact c
   rw[c]at g;clear K q c y G;generalize ms[k]=m at*;go_wp2_with fail;refine(g _ v).mono ?_;rintro e w2⟨rfl,d⟩;have f:=ah (Below.two v d);clear d;go_wp2;go_roundw
   case rel=>exact⟨k+1,CJ,jS,W,f⟩
   exact No
  |false=>
   have a:o_ (ms.map (·.s)) l=k:=Ss (by rw[ax];exact hk) (λj o=>y j _ o) (λh=>by rw[gD];exact c);have F:Hid (o_ (ms.map (·.s)) l=k/\mQ (ms.map (·.s)) l=decide (ms[k].s.l=l)):=⟨a,by unfold mQ;rw[a,q];simp⟩;rw[c]at g;clear K q c y a;generalize ms[k]=m at*;go_wp2_with fail;refine(g _ v).mono ?_;rintro e w2⟨rfl,d⟩;have f:=ah (Below.two v d);have N:=(d.cell (p:=⟨b,C+k*12,Z⟩) (b8 _ _ N)).trans N;clear d v;go_wp2_with fail;refine(G _ f).mono ?_;rintro e w3⟨rfl,H⟩;have R:=ah (Below.two f H);clear H f;go_wp2;go_ret2;exact⟨by rw[F.1,F.2];rfl,R⟩
 have V:k=ms.length:=jS;subst V;have d1:decide ((ms.length:I)<ms.length)=u?:=lV;have F:Hid (o_ (ms.map (·.s)) l=ms.length/\mQ (ms.map (·.s)) l=u?):=by
  have a:o_ (ms.map (·.s)) l=ms.length:=Ss (by rw[ax];exact ay _) (λj o=>y j _ o) (λh=>by rw[ax]at h;omega);exact⟨a,by unfold mQ;rw[a,fS (by rw[ax];exact ay _)];simp⟩
 clear y;go_wp2;go_ret2;exact⟨by rw[F.1,F.2];rfl,v⟩
instance i1_(x0:jC)(x1:O)(x2:O)(x3:jZ):CoeOut (IN 1 x0 x1 x2 x3) jC:=⟨λ_=>(bj (bj (bj (bj (bj (bj (bj (bj (bj (bj (bj x0 ⟨x1,x2*12,Z⟩ (b? x3.la x3.s.l.length x3.lc)) ⟨x1,x2*12+1,Z⟩ (c? o? x3.m.s.kind)) ⟨x1,x2*12+2,Z⟩ (c? o? x3.m.s.level)) ⟨x1,x2*12+3,Z⟩ (b? x3.m.ea x3.m.s.e.length x3.m.ec)) ⟨x1,x2*12+4,Z⟩ (c? o? x3.m.s.bits)) ⟨x1,x2*12+5,Z⟩ (f? x3.m.s.regs)) ⟨x1,x2*12+6,Z⟩ (c? o? x3.m.s.rows)) ⟨x1,x2*12+7,Z⟩ (c? o? x3.m.s.cols)) ⟨x1,x2*12+8,Z⟩ (b? x3.m.ca x3.m.s.c.length x3.m.cc)) ⟨x1,x2*12+9,Z⟩ (c? o? x3.m.s.fine)) ⟨x1,x2*12+10,Z⟩ (b? x3.m.ga x3.m.s.g.length x3.m.gc))⟩
instance ba0(x0:jZ):CoeOut (sH 13 x0) (x? jD):=⟨λ_=>#[jN x0.la x0.s.l x0.lc,jJ x0.m.s.kind,jJ x0.m.s.level,jN x0.m.ea x0.m.s.e x0.m.ec,jJ x0.m.s.bits,jL x0.m.s.regs,jJ x0.m.s.rows,jJ x0.m.s.cols,jN x0.m.ca x0.m.s.c x0.m.cc,jJ x0.m.s.fine,jN x0.m.ga x0.m.s.g x0.m.gc,jK x0.s.seen]⟩
instance aZ3(x0:jC)(x1:O)(x2:O)(x3:jD)(x4:jD)(x5:jD)(x6:jD)(x7:jD)(x8:jD)(x9:jD)(x10:jD)(x11:jD)(x12:jD)(ZF:jD):CoeOut (Wn 37 x0 x1 x2 x3 x4 x5 x6 x7 x8 x9 x10 x11 x12 ZF) jC:=⟨λ_=>(bj (bj (bj (bj (bj (bj (bj (bj (bj (bj (bj x0 ⟨x1,x2*12,Z⟩ x3) ⟨x1,x2*12+1,Z⟩ x4) ⟨x1,x2*12+2,Z⟩ x5) ⟨x1,x2*12+3,Z⟩ x6) ⟨x1,x2*12+4,Z⟩ x7) ⟨x1,x2*12+5,Z⟩ x8) ⟨x1,x2*12+6,Z⟩ x9) ⟨x1,x2*12+7,Z⟩ x10) ⟨x1,x2*12+8,Z⟩ x11) ⟨x1,x2*12+9,Z⟩ x12) ⟨x1,x2*12+10,Z⟩ ZF)⟩
def tn(m:jZ):x? jD:= (lz 13 m)
def ot(seen now life:I):z?:=decide (seen<now/\life<now-seen)
def Na(c0 c1 c2 g f d m n j k a:jD)(B:c0.oneCell'=t?)(D:c1.oneCell'=t?)(v:c2.oneCell'=t?)(t:g.oneCell'=t?)(x:f.oneCell'=t?)(z:d.oneCell'=t?)(y:m.oneCell'=t?)(s:n.oneCell'=t?)(F:j.oneCell'=t?)(A:k.oneCell'=t?)(q:a.oneCell'=t?)(seen now life:I) (p:U seen) (o:U now) (w:jC):jE Tryz.prog 205 #[g? #[c0,c1,c2,g,f,d,m,n,j,k,a,jK seen],jK now,jK life] w λe w'=>e=a? (h? (ot seen now life))/\Below w w w':=by
 obtain⟨p,C⟩:=p;obtain⟨o,r⟩:=o;have l:=ah (jP (jQ w) (m? #[c0,c1,c2,g,f,d,m,n,j,k,a,jK seen] 197));by_cases h:seen<now
 .by_cases c:life<now-seen
  .have b:Hid (ot seen now life=t?):=by show _=_;simp[ot,h,c]
   go_in;go_wp2;go_ret;exact⟨by rw[b];simp[c],l⟩
  have b:Hid (ot seen now life=u?):=by show _=_;simp[ot,c]
  go_in;go_wp2;go_ret;exact⟨by rw[b];simp[c],l⟩
 have b:Hid (ot seen now life=u?):=by show _=_;simp[ot,h]
 go_in;go_wp2;go_ret;exact⟨by rw[b];first|rfl|simp[h]|simp;omega,l⟩
def Nb(m:jZ)(b:n_ m.s)(now life:I)(a:U now)(w:jC):jE Tryz.prog 205 #[yV m,jK now,jK life] w λe w'=>e=a? (h? (ot m.s.seen now life))/\Below w w w':=
 Na _ _ _ _ _ _ _ _ _ _ _ rfl rfl rfl rfl rfl rfl rfl rfl rfl rfl rfl m.s.seen now life b.seen a w
def zF(m:jZ)(d:n_ m.s)(now life:I)(a:U now)(w:jC):jE Tryz.prog 168 #[cI now life,yV m] w λe w'=>e=a? (h? (ot m.s.seen now life))/\Below w w w':=by
 have Q:Hid (∀w,jE Tryz.prog 205 #[yV m,jK now,jK life] w λe w'=>e=a? (h? (ot m.s.seen now life))/\Below w w w'):=λw=>Nb m d now life a w;have f:=ah (jP (jP (jQ w) (m? #[jK now,jK life] 306)) (m? (tn m) 197));generalize ot m.s.seen now life=b at*;unfold yV tn at*;go_in;go_wp2_with fail;refine(Q _).mono ?_;rintro r g⟨rfl,c⟩;go_wp2;go_ret;exact⟨rfl,Below.two f c⟩
def Tryz.zo:(Tryz.prog.info? 197).map (λi=>(i.zero,i.size,i.bytes))=M (M (g? #[jM,jJ 0,jJ 0,jM,jJ 0,aF,jJ 0,jJ 0,jM,jJ 0,jM,jK 0]),12,168):=oo
def Ap(A:w? jG)(xs:E jD)(g:w? O):Prop:=xs≠[]->∀a,A=M a->M a.block≠g
def Apart(g:w? O)(m:jZ):Prop:=Ap m.la (k_ m.s.l) g/\Ap m.m.ea (m.m.s.e.map (br n?)) g/\Ap m.m.ca (m.m.s.c.map (br n?)) g/\Ap m.m.ga (Hi.mD m.m.s.g) g
variable{B:O}{xs:E jD}
def Dz{q:O}(h:Rd w B A xs)(g:B<=q):Ap A xs (M q):=λc j e d=>by
 obtain⟨b,f,a,l,_⟩:=h c;rw[e]at a
 cases a
 have k:b=q:=Option.some.inj d;omega
variable{m:jZ}
def my.apart{q:O}(h:my w B m)(a:B<=q):Apart (M q) m:=⟨Dz h.l a,Dz h.k.e a,Dz h.k.c a,Dz h.k.g a⟩
structure lF(w:jC)(B:O)(v:jD)(cs:E jZ):Prop where
 own:w.ownsRow B 197 12 v cs.length (lS cs)
 ok:∀m∈cs,my w w m
 ap:∀m∈cs,Apart v.ownBlock m
def lF.later{w w':jC}{B:O}{v:jD}{cs:E jZ}(h:lF w B v cs)(a:Below w w w'):lF w' B v cs:=⟨lf h.own a,λm b=>(h.ok m b).later a,h.ap⟩
variable{w':jC}{row:w? O}
def tF(h:Rd w w A xs)(d:w.grownBy w' row)(a:Ap A xs row):Rd w' w' A xs:=λf=>by
 obtain⟨b,c,e,g,k⟩:=h f;exact⟨b,c,e,cn g d.size,λj v l=>(co (d.block b g (a f _ e))).trans (k j v l)⟩
def my.grown(h:my w w m)(b:w.grownBy w' row)(a:Apart row m):my w' w' m:=
 ⟨tF h.l b a.1,tF h.k.e b a.2.1,tF h.k.c b a.2.2.1,tF h.k.g b a.2.2.2⟩
variable{n:O}{cs:E jZ}
def lF.tab{c:O}(h:lF w B (b? A n c) cs):Tab w w A cs:=by
 obtain⟨b,d,e,_,a,_⟩:=li h.own
 cases e
 exact⟨a,h.ok⟩
variable{sz:O}{v:jD}
def pf{t:jH}(h:w.ownsRow B t sz v n xs)(g:O)(a:v.ownBlock=M g):B<=g/\g<w.heap.size:=by
 obtain⟨_,⟨h,e⟩|⟨r,cap,cur,b,c,d,_⟩⟩:=h
 .subst h;cases a
 subst b;cases a;exact⟨c,(aw.1 d).1⟩
def FV(m:jZ):∀u∈ng m,u.oneCell'=t?:=λu a=>by
 simp[ng,YS]at a;rcases a with rfl|rfl|rfl|rfl|rfl|rfl|rfl|rfl|rfl|rfl|rfl|rfl<;>rfl
def WR(m:jZ):tn m=(ng m).toArray:=rfl
def M7(cs:E jZ)(m:jZ):lS (cs++[m])=lS cs++ng m:=by simp[lS]
variable{g:O}
def P1{t:jH}(h:jR w g t (tn m)):Rd w (g+1) (aC g) (ng m):=λ_=>
 ⟨g,0,rfl,fA _,λj u a=>by rw[au];exact(h.cell j).trans (by rw[WR];simpa using a)⟩
def OI{b:O}{v:w? O}(j:∀c,m.la=M c->b<=c.block)(k:∀c,m.m.ea=M c->b<=c.block)(e:∀c,m.m.ca=M c->b<=c.block)(f:∀c,m.m.ga=M c->b<=c.block)(g:∀q,v=M q->q<b):Apart v m:=by
 have d:∀(a:w? jG)(xs:E jD),(∀c,a=M c->b<=c.block)->Ap a xs v:=λa xs h _ c l n=>by
  have:=h c l;have:=g _ n.symm;omega
 exact⟨d _ _ j,d _ _ k,d _ _ e,d _ _ f⟩
def VP:∀(ms:E jZ)(i:O)(d q k j g f o p r n a b:jD)(m:jZ),i<ms.length->ng m=[d,q,k,j,g,f,o,p,r,n,a,b]->(((((((((((((lS ms).set (i*12) d).set (i*12+1) q).set (i*12+2) k).set (i*12+3) j).set (i*12+4) g).set (i*12+5) f).set (i*12+6) o).set (i*12+7) p).set (i*12+8) r).set (i*12+9) n).set (i*12+10) a).set (i*12+11) b)=lS (ms.set i m)
 |[],i,_,_,_,_,_,_,_,_,_,_,_,_,_,h,_=>WY
 |y::ms,0,_,_,_,_,_,_,_,_,_,_,_,_,m,_,t=>by
  rw[ak];unfold lS;rw[dg,dg,t];rfl
 |y::ms,i+1,d,q,k,j,g,f,o,p,r,n,a,b,m,h,t=>by
  have v:=VP ms i d q k j g f o p r n a b m S6 t;rw[am];have e:∀l:E jZ,lS (y::l)=ng y++lS l:=λl=>by simp[lS]
  rw[e,e,<-v];have s:∀(l:E jD)(c:O)(u:jD),(ng y++l).set ((i+1)*12+c) u=ng y++l.set (i*12+c) u:=λl c u=>by
   rw[iN _ _ (by rw[l7];omega),l7];congr 2;omega
  have w:∀(l:E jD)(u:jD),(ng y++l).set ((i+1)*12) u=ng y++l.set (i*12) u:=λl u=>s l 0 u;simp only[s,w]
def ZU{cap:O}{i:O}(h:w.ownsRow B 197 12 (b? (aC g) n cap) n (lS ms))(hi:i<ms.length)(c r j k f e o p s l a b:jD)(H:ng m=[c,r,j,k,f,e,o,p,s,l,a,b]):(bj (ad8 37 w g i c r j k f e o p s l a) ⟨g,i*12+11,Z⟩ b).ownsRow B 197 12 (b? (aC g) n cap) n (lS (ms.set i m))/\w.grownBy (bj (ad8 37 w g i c r j k f e o p s l a) ⟨g,i*12+11,Z⟩ b) (M g):=by
 have G:=h.stored (i*12) c;have D:=G.1.stored (i*12+1) r;have v:=D.1.stored (i*12+2) j;have F:=v.1.stored (i*12+3) k;have A:=F.1.stored (i*12+4) f;have z:=A.1.stored (i*12+5) e;have C:=z.1.stored (i*12+6) o;have t:=C.1.stored (i*12+7) p;have x:=t.1.stored (i*12+8) s;have y:=x.1.stored (i*12+9) l;have q:=y.1.stored (i*12+10) a;have d:=q.1.stored (i*12+11) b;have:=d.1;rw[VP ms i c r j k f e o p s l a b m hi H]at this;refine⟨this,?_⟩;exact(jW (jW (jW (jW (jW (jW (jW (jW (jW (jW (jW G.2 D.2) v.2) F.2) A.2) z.2) C.2) t.2) x.2) y.2) q.2) d.2)
def se(h:w.ownsRow B 197 12 v n xs)(j:0<n):∃g cap a,v=b? (aC g) n cap/\B<=g/\g<w.heap.size/\jR w g 197 a/\n<=cap/\cap<=9223372036854775807:=by
 rcases h with⟨_,⟨_,k⟩|⟨g,cap,cur,e,f,d,b,c,_⟩⟩
 .omega
 exact⟨g,cap,cur,e,f,(aw.1 d).1,d,b,by unfold maxLen at c;omega⟩
def r_{i cap:O}{t:jH}(h:w.ownsRow B t sz (b? (aC g) n cap) n xs)(hi:i<=n):w.ownsRow B t sz (b? (aC g) i cap) i (xs.take (i*sz)):=by
 rcases h with⟨k,⟨h,_⟩|⟨o,e,cur,j,f,l,d,c,a,b⟩⟩
 .cases h
 cases j
 have m:i*sz<=n*sz:=fZ _ hi;refine⟨by rw[cv,k];omega,s? ⟨g,cap,cur,rfl,f,l,a_ hi d,c,a,?_⟩⟩;rw[<-b,List.take_take];congr 1;omega
def sd{B n g cap sz:O}{t:jH}:∀(b:E jD)(o:O)(w:jC)(xs:E jD),w.ownsRow B t sz (b? (aC g) n cap) n xs->∃a,(w.setCells g o b).ownsRow B t sz (b? (aC g) n cap) n a/\a.take o=xs.take o/\w.grownBy (w.setCells g o b) (M g)
 |[],o,w,xs,h=>⟨xs,h,rfl,World.grownBy.refl w _⟩
 |v::r,o,w,xs,h=>by
  obtain⟨f,d⟩:=h.stored o v;obtain⟨a,e,j,c⟩:=sd r (o+1) _ _ f;refine⟨a,e,?_,jW d c⟩;have:=C? (List.take o) j;rw[List.take_take,List.take_take,show min o (o+1)=o by omega]at this;rw[this,gm aa]
def Tryz.DS(w:jC):(Go.sizeOf (Tryz.prog.elem 108)).run Tryz.prog w=.ok 12 w:=by
 have c:Tryz.prog.elem 108=197:=by simp[gR,Tryz.underlying108]
 obtain⟨f,b,e,a,d⟩:=bi5 Tryz.zo;rw[c];simp[Go.sizeOf,typeInfo,b,a]
def Jt(A:Option jG)(n cap k:Nat)(c:k<=cap)(w:jC):(gI 108 (.slice A n cap) none (some (aJ k)) none).run Tryz.prog w=.ok (.slice A k cap) w:=by
 have a:Tryz.prog.underlying 108=some (.slice (Tryz.prog.elem 108)):=by
  have b:Tryz.prog.elem 108=197:=by simp[gR,Tryz.underlying108]
  rw[b];exact Tryz.underlying108
 rw[run_slice_h (P:=Tryz.prog) w 108 A n cap a .i64 (k:Int) jS jS,Tryz.DS];have e:Option.map (λx:jG=>x.add 0) A=A:=by cases A<;>simp[Addr.add_zero']
 simp[dw,sliced,e]
def pU(A:w? jG)(k cap:O):w? jG:=if cap=k then A else A.map (·.add (k*12))
def zT(A:Option jG)(n cap k:Nat)(c:k<=n)(w:jC):(gI 108 (.slice A n cap) (some (aJ k)) none none).run Tryz.prog w=.ok (.slice (pU A k cap) (n-k) (cap-k)) w:=by
 have a:Tryz.prog.underlying 108=some (.slice (Tryz.prog.elem 108)):=by
  have b:Tryz.prog.elem 108=197:=by simp[gR,Tryz.underlying108]
  rw[b];exact Tryz.underlying108
 rw[run_slice_l (P:=Tryz.prog) w 108 A n cap a .i64 (k:Int) jS jS,Tryz.DS];simp[dw,sliced,pU]
def pX:x? jD:=#[jM,jJ 0,jJ 0,jM,jJ 0,aF,jJ 0,jJ 0,jM,jJ 0,jM,jK 0]
def Fm:∀v∈(d8 pX n).toList,v.oneCell'=t?:=λv b=>by
 have a:∀k,k<12->(pX[k]!).oneCell'=t?:=B8;unfold d8 at b;rw[Array.toList_map]at b;obtain⟨i,_,rfl⟩:=dq.1 b;exact a _ (jj _ B8)
def Fo(n:O):(d8 pX n).toList.length=n*12:=by
 unfold d8;simp;rfl
def BW{cap:O}(h:w.ownsRow B 197 12 (b? (aC g) n cap) n xs)(A:k<=n)(q:jH):∃W,(gE #[108] q #[b? (pU (aC g) k cap) (n-k) (cap-k)]).run Tryz.prog w=.ok (d? #[]) W/\W.ownsRow B 197 12 (b? (aC g) k cap) k (xs.take (k*12))/\(bY w W g):=by
 by_cases e:k=n
 .subst e;refine⟨w,?_,r_ h aa,World.grownBy.refl w _⟩;rw[Nat.sub_self];simp only[gE,eT,bi8 Tryz.underlying108,dw]
  cases pU (aC g) k cap<;>simp[bi8 Tryz.underlying108]
 have y:0<n:=jS;obtain⟨K,o,r,D,J,H,b,C,_⟩:=se h y
 cases D
 have F:pU (aC g) k cap=M ⟨g,k*12,Z⟩:=by
  unfold pU;rw[A? jS];show M (iU _ _)=_;unfold iU;split
  .rename_i G;rw[G]
  simp
 rw[F];have d:=Fo (n-k);have a:=run_storeCells_cells (P:=Tryz.prog) g (k*12) (d8 pX (n-k)).toList 0 w
  (λj l=>by
   rw[d]at l;have c:k*12+0+j<n*12:=jS;rw[h.cellAt _ c,an (by rw[h.1];exact c)];rfl)
  (λj l=>b.frozen _) (Fm)
 obtain⟨s,v,x,t⟩:=sd (d8 pX (n-k)).toList (k*12) w xs h;refine⟨w.setCells g (k*12) (d8 pX (n-k)).toList,?_,?_,t⟩
 .obtain⟨m,z⟩:∃m,n-k=m+1:=⟨n-k-1,jS⟩;rw[z]at a⊢;have p:∀w,(zeroValue 197).run Tryz.prog w=.ok (g? pX) w:=λw=>oo;have f:(Value.agg pX).cells=pX:=rfl;simp only[ip]at a;simp[gE,bi8 Tryz.underlying108,p,f,a]
 rw[<-x];exact r_ v A
def stM(now life:I)(m:jZ):z?:=ot m.s.seen now life
abbrev PD(now life:Int):jD:=.func (.func 168) #[cI now life] #[]
def SG(w:jC)(now life:I)(ms:E jZ)(e:bi6)(w':jC):Prop:=
 Below w w w'/\((e=a? (c? o? (-1))/\∀m∈ms,stM now life m=u?)\/(∃(k:O)(h:k<ms.length),e=a? (aJ k)/\stM now life ms[k]=t?/\∀j(a:j<k),stM now life (ms[j]'(by omega))=u?))
def NV(A:Option jG)(ms:List jZ)(cap:Nat)(now life:Int)(N:U now)(hl:ms.length<=1000)(C:∀m∈ms,n_ m.s)(w:jC)(W:Tab w w A ms):jE Tryz.prog 204 #[jN A ms cap,PD now life] w (SG w now life ms):=by
 have G:=ah W;have B:=ah C;go_in;go_wp2_with fail;go_loopw[8] (λi wr=>∃k:Nat,i=(aJ k)/\∃K:k<=ms.length,Hid (∀j(d:j<k),stM now life (ms[j]'jS)=false)/\(bB w wr)) (λi _=>(lI 34 ms i))
 case atStart=>exact⟨0,rfl,be _,λj d=>absurd d jS,jQ _⟩
 obtain⟨k,rfl,K,o,l⟩:=hrel;by_cases f:k<ms.length
 .have d1:decide ((k:Int)<ms.length)=true:=ae;obtain⟨b,H,rfl,T,z⟩:=G.at_ jS;obtain⟨i0,i1,i2,i3,i4,i5,i6,i7,i8,i9,β,α⟩:=(z k f).below l T;have F:(0:Int)<=k:=jS;have R:(k:Int)<ms.length:=by omega
  have n:=ah (zF ms[k] (B _ (ar f)) now life N wr);obtain⟨r,y⟩:∃r,stM now life ms[k]=r:=⟨_,rfl⟩;have q:=ah y;have t:ot ms[k].s.seen now life=r:=y;rw[t]at n;have J:Hid (r=false->∀j(d:j<k+1),stM now life (ms[j]'jS)=false):=λe j d=>by
   by_cases V:j=k
   .subst V;rw[q,e]
   exact o j jS
  have Q:Hid (r=true->∃(k:Nat)(h:k<ms.length),ff (aJ k)=ff (aJ k)/\stM now life ms[k]=true):=λe=>⟨k,f,rfl,by rw[q,e]⟩;unfold yV at n
  cases r with
  |true=>
   have X:Hid (SG w now life ms (.returned (aJ k)) w->True):=λ_=>trivial;go_wp2_with fail;refine n.mono ?_;rintro r L⟨rfl,c⟩;have a:=ah (Below.two l c);go_wp2;go_ret;exact⟨a,.inr ⟨k,f,rfl,q,o⟩⟩
  |false=>
   go_wp2_with fail;refine n.mono ?_;rintro r L⟨rfl,c⟩;have a:=ah (Below.two l c);go_wp2;go_roundw
   case rel=>exact⟨k+1,CJ,f,J (by first|rfl|trivial),a⟩
   exact No
 have x:k=ms.length:=jS;subst x;have d1:decide ((ms.length:Int)<ms.length)=false:=lV;have v:Hid (∀m∈ms,stM now life m=false):=λm Y=>by
  obtain⟨j,d,e⟩:=dR Y;rw[<-e];exact o j d
 go_wp2;go_ret;exact⟨l,.inl ⟨rfl,v⟩⟩
def nv(now life:I)(m:jZ):z?:= !stM now life m
def pp{p:jZ->z?}{l:E jZ}(h:j<l.length):(l.take (j+1)).filter p=(l.take j).filter p++(if p l[j]=t? then[l[j]]else[]):=by
 rw[aj h,gQ];congr 1;simp[List.filter];split<;>simp_all
def Ju(h:wV w g (0+k*12) m):wV w g (k*12) m:=by rwa[au]at h
structure s_(w:jC)(B g n cap:O)(now life:I)(ms:E jZ)(i j:O)(cur:E jZ):Prop where
 own:w.ownsRow B 197 12 (b? (aC g) n cap) n (lS cur)
 len:cur.length=n
 ij:i<j
 take:cur.take i=(ms.take j).filter (nv now life)
 drop:cur.drop j=ms.drop j
 mem:∀m∈cur,m∈ms
variable{now life:I}{cur:E jZ}
def s_.at_{cap:O}{i:O}(h:s_ w B g n cap now life ms i j cur)(c:ms.length=n)(b:j<n):∃a:j<cur.length,cur[j]=ms[j]'(by omega):=by
 have a:j<cur.length:=by rw[h.len];exact b
 refine⟨a,?_⟩;have e:=h.drop;rw[dN a,dN (l:=ms) (i:=j) jS]at e;exact(List.cons.inj e).1
def s_.skip{cap:O}{i:O}(h:s_ w B g n cap now life ms i j cur)(a:ms.length=n)(b:j<n)(hs:stM now life (ms[j]'(by omega))=t?):s_ w B g n cap now life ms i (j+1) cur:=
 ⟨h.own,h.len,Nat.lt_succ_of_lt h.ij,by rw[pp jS,<-h.take];simp[nv,hs],by
  have:=C? (List.drop 1) h.drop
  rwa[gp,gp]at this,h.mem⟩
variable{W:jC}
def s_.keep{cap:O}{i:O}(h:s_ w B g n cap now life ms i j cur)(f:ms.length=n)(k:j<n)(hs:stM now life (ms[j]'(by omega))=u?)(e:W.ownsRow B 197 12 (b? (aC g) n cap) n (lS (cur.set i (ms[j]'(by omega))))):s_ W B g n cap now life ms (i+1) (j+1) (cur.set i (ms[j]'(by omega))):=by
 have d:=h.ij;have b:=h.len;refine⟨e,by rw[eq];exact b,jS,?_,?_,λm a=>?_⟩
 .have c:i<(cur.set i (ms[j]'jS)).length:=by rw[eq];omega
  rw[aj c,fP,gm aa,h.take,pp jS];simp[nv,hs]
 .rw[List.drop_set_of_lt jS];have:=C? (List.drop 1) h.drop;rwa[gp,gp]at this
 rcases dO a with a|a
 .exact h.mem m a
 rw[a];exact ar _
def s_.lf{w w':jC}{B g n cap:O}{now life:I}{ms:E jZ}{i j:O}{cur:E jZ}(h:s_ w B g n cap now life ms i j cur)(a:Below w w w'):s_ w' B g n cap now life ms i j cur:=⟨Go.Proofs.YtfcnedcahoifoaaGreatDoor.lf h.own a,h.len,h.ij,h.take,h.drop,h.mem⟩
def Cw(ms:E jZ)(i:O):(lS ms).take (i*12)=lS (ms.take i):=by
 induction ms generalizing i with
 |nil=>simp[lS]
 |cons m ms a=>
  cases i with
  |zero=>simp[lS]
  |succ i=>
   have e:∀l:E jZ,lS (m::l)=ng m++lS l:=λl=>by simp[lS]
   rw[iz,e,e,<-a,List.take_append,l7,cl (by rw[l7];omega)];congr 2;omega
def KW(v:jD)(ms:List jZ)(now life:Int)(hu:U now)(hl:ms.length<=1000)(hf:∀m∈ms,n_ m.s)(B:Nat)(w:jC)(hB:B<=w.heap.size)(hO:lF w B v ms):jE Tryz.prog 166 #[v,PD now life] w λe w'=>(∃v',e=.returned v'/\lF w' B v' (ms.filter (nv now life)))/\Below B w w':=by
 obtain⟨A,cap,rfl,χ,Θ,hA⟩:=li hO.own;have HT:=ah hO.tab;have K:=ah hO;have HF:=ah hf;have QI:=ah (NV A ms cap now life hu hl hf w hO.tab);clear hO hf Θ hA;go_in;go_wp2_with fail;refine QI.mono ?_;rintro r w1⟨y,⟨rfl,hno⟩|⟨J,ψ,rfl,n,N⟩⟩
 .have ν:Hid (ms.filter (nv now life)=ms):=eY.2 λm hm=>by simp[nv,hno m hm]
  have xe:=ah (K.later y);have F:=ah (y.mono hB);go_wp2;go_ret;exact⟨⟨_,rfl,by rw[ν];exact xe⟩,F⟩
 obtain⟨g,Q,arr,e1,δ,hgw,d,hnc,hcm⟩:=se K.own jS;injection e1 with e1 _ e2;subst e1 e2;have xe:=ah (K.later y);have F:=ah (y.mono hB);have hw1:=y.size;have HI0:Hid (s_ w1 B g ms.length cap now life ms J (J+1) ms):=⟨xe.own,rfl,fA _,by
  rw[pp ψ]
  have H:(ms.take J).filter (nv now life)=ms.take J:=eY.2 λm hm=>by
   obtain⟨j,hj,e⟩:=dR hm;rw[cv]at hj;rw[jt]at e;rw[<-e];simp[nv,N j jS]
  rw[H];simp[nv,n],rfl,λm h=>h⟩
 have hkn:((J:Int)== -1)=false:=O1;go_wp2_with fail;go_loopw[5,6] (λa b wr=>∃(i j:Nat)(cur:List jZ),a=(aJ i)/\b=(aJ j)/\j<=ms.length/\Hid (s_ wr B g ms.length cap now life ms i j cur)/\Hid (∀m∈ms,my wr wr m)/\Hid (Below B w1 wr)) (λ_ b _=>(lI 34 ms b))
 case atStart=>exact⟨J,J+1,ms,rfl,CJ,jS,HI0,xe.ok,Below.refl _ _⟩
 obtain⟨i,j,cur,rfl,rfl,hj,z,Yp,HB⟩:=hrel;have hij:=z.ij;have hcl:=z.len;have hwz:=HB.size;by_cases H:j<ms.length
 .have d1:decide ((j:Int)<ms.length)=true:=ae;obtain⟨hc,Γ⟩:=z.at_ rfl H;have X:Hid (Tab wr wr (aC g) cur):=by
   obtain⟨A',c',e,_,hr,_⟩:=li z.own
   cases e
   exact⟨hr,λm hm=>Yp m (z.mem m hm)⟩
  obtain⟨b',off',e3,Δ,f⟩:=X.at_ jS
  cases e3
  obtain⟨i0,i1,i2,i3,i4,i5,i6,i7,i8,i9,η,ε⟩:=Ju (f j hc);have κ:=ah (Ju (f i jS));rw[Γ]at i0 i1 i2 i3 i4 i5 i6 i7 i8 i9 η ε;have hi1:(0:Int)<=j:=jS;have hi2:(j:Int)<ms.length:=jS;have hi3:(0:Int)<=i:=jS;have hi4:(i:Int)<ms.length:=jS;have BH:=ah (HF _ (ar H));have aZ9:=ah (ar H);have φ:Hid (stM now life ms[j]=true->∀W,s_ W B g ms.length cap now life ms i j cur->s_ W B g ms.length cap now life ms i (j+1) cur):=λhs W h=>h.skip rfl H hs;have ak9:Hid (stM now life ms[j]=false->∀W V:jC,s_ W B g ms.length cap now life ms i j cur->V.ownsRow B 197 12 (.slice (aC g) ms.length cap) ms.length (lS (cur.set i ms[j]))->s_ V B g ms.length cap now life ms (i+1) (j+1) (cur.set i ms[j])):=λhs W V h ho=>h.keep rfl H hs ho;generalize ms[j]=m at*
  go_wp2_with fail;have γ:=ah (jP (jQ wr) (.cells (tn m) 197));have QS:=ah (zF m BH now life hu (wr.alloc (.cells (tn m) 197)));have α:=ah (jR.new wr 197 (tn m));unfold tn yV at*
  refine QS.mono ?_;rintro r D⟨rfl,G⟩;have o:=ah (Below.two γ.out G);have XB:=ah (α.later G);have C:=ah (z.lf o);have R:Hid (∀m∈ms,my D D m):=λx h=>(Yp x h).later o;have θ:=ah (HB.trans (o.mono jS));have Ω:=ah (κ.below o Δ);have hz2:=o.size;clear γ G QS α z Yp HB κ X i0 i1 i2 i3 i4 i5 i6 i7 i8 i9 η ε
  cases n:stM now life m with
  |true=>
   have t:ot m.s.seen now life=true:=n;have HR:=ah (φ n D C);rw[t];go_wp2;go_roundw
   case rel=>exact⟨i,j+1,cur,rfl,CJ,jS,HR,R,θ⟩
   exact No
  |false=>
   have t:ot m.s.seen now life=false:=n;obtain⟨g',Q,arr,e4,_,_,d,_,_⟩:=se C.out.own (by omega)
   cases e4
   have x0:=ce XB 0;have x1:=ce XB 1;have x2:=ce XB 2;have x3:=ce XB 3;have x4:=ce XB 4;have x5:=ce XB 5;have x6:=ce XB 6;have x7:=ce XB 7;have x8:=ce XB 8;have x9:=ce XB 9;have x10:=ce XB 10;have x11:=ce XB 11;obtain⟨y0,y1,y2,y3,y4,y5,y6,y7,y8,y9,y10,y11⟩:=Ω.out;have f0:=d.frozen (i*12);have f1:=d.frozen (i*12+1);have f2:=d.frozen (i*12+2);have f3:=d.frozen (i*12+3);have f4:=d.frozen (i*12+4);have f5:=d.frozen (i*12+5);have f6:=d.frozen (i*12+6);have f7:=d.frozen (i*12+7);have f8:=d.frozen (i*12+8);have f9:=d.frozen (i*12+9);have f10:=d.frozen (i*12+10);have f11:=d.frozen (i*12+11);have Uq:=ZU (i:=i) (m:=m) C.out.own (by omega) (.slice m.la m.s.l.length m.lc) (.int .i64 m.m.s.kind) (.int .i64 m.m.s.level) (.slice m.m.ea m.m.s.e.length m.m.ec) (.int .i64 m.m.s.bits) (.string m.m.s.regs) (.int .i64 m.m.s.rows) (.int .i64 m.m.s.cols) (.slice m.m.ca m.m.s.c.length m.m.cc) (.int .i64 m.m.s.fine) (.slice m.m.ga m.m.s.g.length m.m.gc) (.int .u64 m.s.seen) rfl;have HR:Hid (s_ (bj (rU 1 D g i m) ⟨g,i*12+11,none⟩ (.int .u64 m.s.seen)) B g ms.length cap now life ms (i+1) (j+1) (cur.set i m)):=ak9.out n D _ C.out Uq.1;have ω:Hid (∀x∈ms,my (bj (rU 1 D g i m) ⟨g,i*12+11,none⟩ (.int .u64 m.s.seen)) ((bj (rU 1 D g i m) ⟨g,i*12+11,none⟩ (.int .u64 m.s.seen))).heap.size x):=λx h=>(R.out x h).grown Uq.2 (K.out.ap x h);have Ξ:Hid (Below B w1 (bj (rU 1 D g i m) ⟨g,i*12+11,none⟩ (.int .u64 m.s.seen))):=θ.out.grown Uq.2 (by omega) (λq e=>by cases e;exact δ);clear Uq;rw[t];go_wp2;go_roundw
   case rel=>exact⟨i+1,j+1,cur.set i m,CJ,CJ,jS,HR,ω,Ξ⟩
   exact No
 have Ψ:j=ms.length:=jS;subst Ψ;have Y:cur.take i=ms.filter (nv now life):=by
  have:=z.take;rwa[dP]at this
 have β:(ms.filter (nv now life)).length=i:=by rw[<-Y,cv];omega
 obtain⟨W9,aT4,Wb,T⟩:=BW (k:=i) z.own jS 0;have ξ:(lS cur).take (i*12)=lS (ms.filter (nv now life)):=by rw[<-Y,Cw]
 rw[ξ]at Wb;have ρ:Hid (lF W9 B (.slice (aC g) i cap) (ms.filter (nv now life))):=⟨by rw[β];exact Wb,λx h=>(Yp x ((eN.1 h).1)).grown T (K.ap x ((eN.1 h).1)),λx h=>K.ap x ((eN.1 h).1)⟩;have BI:=ah (F.trans (HB.grown T jS (λq e=>by cases e;exact δ)));have d1:decide ((ms.length:Int)<ms.length)=false:=lV;have kF:=zT (aC g) ms.length cap i jS;have kT:=Jt (aC g) ms.length cap i jS;go_wp2;go_ret;exact⟨⟨_,rfl,ρ⟩,BI⟩
def vD(now life:I)(s:mq):z?:= !ot s.seen now life
def wI(now life:I):∀cs:E jZ,(cs.filter (nv now life)).map (·.s)=(cs.map (·.s)).filter (vD now life)
 |[]=>rfl
 |m::cs=>by
  have a:=wI now life cs;have e:nv now life m=vD now life m.s:=rfl;rw[df,eC,eC,e];split
  .rw[df,a]
  exact a
def RO(h:cs.map (·.s)=ms.map (·.s))(b:∀m∈ms,n_ m.s):∀m∈cs,n_ m.s:=λm d=>by
 have:m.s∈ms.map (·.s):=by rw[<-h];exact dq.2 ⟨m,d,rfl⟩
 obtain⟨a,e,c⟩:=dq.1 this;rw[<-c];exact b a e
def own_base{C:O}{t:jH}(h:w.ownsRow C t sz v n xs)(e:B<=C):w.ownsRow B t sz v n xs:=by
 obtain⟨a,c|⟨g,cap,cur,d,f,b⟩⟩:=h
 .exact⟨a,r? c⟩
 exact⟨a,s? ⟨g,cap,cur,d,a_ e f,b⟩⟩
instance aZ6(x0:jZ)(x1:w? jG)(x2:O)(x3:w? jG)(x4:O)(x5:w? jG)(x6:O)(x7:w? jG)(x8:O):CoeOut (ag8 24 x0 x1 x2 x3 x4 x5 x6 x7 x8) jZ:=⟨λ_=>(⟨x0.s,⟨x0.m.s,x1,x2,x3,x4,x5,x6⟩,x7,x8,x0.hk⟩:jZ)⟩
structure mr(B:O)(m:jZ):Prop where
 l:∀ad,m.la=M ad->B<=ad.block
 k:Fr B m.m
def GS.fit{s:mq}(h:GS s):n_ s:=⟨by have:=(mt h.set).1;omega,λx a=>by have:=(mt h.set).2 x a;omega,h.k.fit,h.seen⟩
def oq(w:jC)(v:jD)(A:w? jG)(ms:E jZ):Prop:=Tab w w A ms/\Ap A (lS ms) v.ownBlock/\∀m∈ms,Apart v.ownBlock m
def oq.later{w w':jC}{v:jD}{A:w? jG}{ms:E jZ}(h:oq w v A ms)(a:Below w w w'):oq w' v A ms:=⟨h.1.later a,h.2⟩
def oq.grow{v':jD}(h:oq w v A ms)(b:w.grownBy w' v.ownBlock)(c:v'.ownBlock=v.ownBlock\/v'.ownBlock=M w):oq w' v' A ms:=by
 refine⟨⟨tF h.1.rd b h.2.1,λm a=>(h.1.ok m a).grown b (h.2.2 m a)⟩,?_⟩;rcases c with e|e
 .rw[e];exact h.2
 rw[e];exact⟨Dz h.1.rd aa,λm a=>(h.1.ok m a).apart aa⟩
def lF.snoc{v':jD}(h:lF w B v cs)(c:w'.ownsRow B 197 12 v' (cs.length+1) (lS cs++ng m))(g:w.grownBy w' v.ownBlock)(j:v'.ownBlock=v.ownBlock\/v'.ownBlock=M w)(f:my w w m)(d:Apart v.ownBlock m):lF w' B v' (cs++[m]):=by
 have b:∀x∈cs++[m],my w w x/\Apart v.ownBlock x:=λx a=>by
  rcases ed.1 a with a|a
  .exact⟨h.ok x a,h.ap x a⟩
  simp at a;rw[a];exact⟨f,d⟩
 refine⟨by rw[cd,M7];exact c,λx a=>(b x a).1.grown g (b x a).2,λx a=>?_⟩;rcases j with e|e
 .rw[e];exact(b x a).2
 rw[e];exact(b x a).1.apart aa
def nL{t:jH}{f:E jD}(h:Rd w B A xs)(c:W.ownsRow B t sz v n f):Ap A xs v.ownBlock:=λd k e g=>by
 obtain⟨b,j,a,l,_⟩:=h d;rw[e]at a;cases a;have:=(pf c b g.symm).1;omega
def J4{p:E mq}{a:jZ}(h:cs.map (·.s)=p++(ms.take k).map (·.s))(b:k<ms.length)(c:a.s=ms[k].s):(cs++[a]).map (·.s)=p++(ms.take (k+1)).map (·.s):=by
 rw[dH,h,aj b,dH,eH];simp[c]
abbrev AdL(w0:jC)(n0:O)(p0:E mq)(A:w? jG)(ms:E jZ)(v i:jD)(wr:jC):Prop:=∃(k:O)(cs:E jZ),i=(aJ k)/\k<=ms.length/\cs.length=n0+k/\Hid (cs.map (·.s)=p0++(ms.take k).map (·.s))/\Hid (lF wr w0 v cs)/\Hid (∀m∈cs,mr w0 m)/\Hid (oq wr v A ms)/\(bB w0 wr)
def II(A:w? jG)(ms:E jZ)(cap:O)(hl:ms.length<=20)(hf:∀m∈ms,n_ m.s)(f:jC):(∀(v0:jD)(j:E jZ),j.length<=30->∀w:jC,Below f f w->lF w f v0 j->(∀m∈j,mr f m)->oq w v0 A ms->jE Tryz.prog 139 #[v0,jN A ms cap] w λe w'=>(∃v cs,e=a? v/\cs.map (·.s)=j.map (·.s)++ms.map (·.s)/\lF w' f v cs/\∀m∈cs,mr f m)/\Below f f w')/\(Tab f f A ms->jE Tryz.prog 167 #[jN A ms cap] f λe w'=>(∃v cs,e=a? v/\cs.map (·.s)=ms.map (·.s)/\lF w' f v cs/\∀m∈cs,mr f m)/\Below f f w'):=by
 have HF:=ah hf;obtain⟨i0,φ,α,β,γ⟩:=bi5 Tryz.zo;clear hf;refine⟨λv0 j hn0 w hB hO Θ hS=>?a,λhS=>?b⟩
 case' a=>
  have O7:=ah hS;have D:=ah hB;have T:=ah hO;have ρ:=ah Θ;obtain⟨p0,G⟩:∃p,j.map (·.s)=p:=⟨_,rfl⟩;obtain⟨n0,hn⟩:∃n,j.length=n:=⟨_,rfl⟩;have X:=ah G;rw[G];clear hS hB hO Θ G;go_in;go_wp2_with fail;go_loopw[0,9] (λv i wr=>AdL f n0 p0 A ms v i wr) (λ_ i _=>(lI 34 ms i))
  case atStart=>exact⟨0,j,rfl,be _,hn,by show _=_;rw[X];simp,T,ρ,O7,D⟩
  clear D T ρ O7;obtain⟨uv,δ⟩:∃uv,uv=u0:=⟨_,rfl⟩;subst δ
 case' b=>
  obtain⟨p0,G⟩:∃p:E mq,p=[]:=⟨_,rfl⟩;obtain⟨n0,hn⟩:∃n:O,n=0:=⟨_,rfl⟩;have X:=ah G;obtain⟨W0,hmk,R,Δ⟩:=bk8 (P:=Tryz.prog) f f 108 197 i0 _ 12 Tryz.underlying108 φ α β o? o? ms.length jS (by rw[γ];omega) O0 aa;have D:(bB f W0):=(Below.refl _ f).grown Δ aa (λq e=>LS);have T:=ah R;have O7:=ah (hS.later D);have SJ:=ah hS;clear hS R Δ G;go_in;go_wp2_with fail;clear hmk;go_loopw[3,11] (λv i wr=>AdL f n0 p0 A ms v i wr) (λ_ i _=>(lI 34 ms i))
  case atStart=>exact⟨0,[],rfl,be _,by rw[hn];rfl,by show _=_;rw[X];simp,⟨T,λm W=>(by simp at W),λm W=>(by simp at W)⟩,λm W=>(by simp at W),⟨O7,nL SJ.rd T,λm W=>⟨nL (SJ.ok m W).l T,nL (SJ.ok m W).k.e T,nL (SJ.ok m W).k.c T,nL (SJ.ok m W).k.g T⟩⟩,D⟩
  clear D T O7 SJ;obtain⟨uv,δ⟩:∃uv,uv=u3:=⟨_,rfl⟩;subst δ
 all_goals
  obtain⟨k,cs,rfl,hk,hcl,HE,HO,BG,Lr,HB⟩:=hrel;by_cases h1:k<ms.length
  .have d1:decide ((k:I)<ms.length)=t?:=ae;obtain⟨b,off,rfl,hb,hc⟩:=Lr.1.at_ jS;obtain⟨Y_,i1,i2,i3,i4,i5,i6,i7,i8,i9,i10,i11⟩:=hc k h1;have hi1:(0:I)<=k:=jS;have hi2:(k:I)<ms.length:=jS;have oH:=ah (Lr.1.ok _ (ar h1));have BH:=ah (HF _ (ar h1));have IU:Hid (∀m':jZ,m'.s=ms[k].s->(cs++[m']).map (·.s)=p0++(ms.take (k+1)).map (·.s)):=λm' he=>J4 HE h1 he;have hw0:=HB.size;clear hc HE;generalize ms[k]=m at*;go_wp2_with fail;refine kf (λ_=>True) ((Hold.nil wr).alloc wr 197 (lz 3 m)) trivial (λV0 H0 _=>?_);clear Y_ i1 i2 i3 i4 i5 i6 i7 i8 i9 i10 i11;have hz0:wr.heap.size<V0.heap.size:=(H0.blk _ ab).2.lt;refine(Bi _ m.s.l _ (by have:=BH.l;omega) _ (oH.later H0.below).l).mono ?_;rintro e w1⟨⟨r,c1,rfl,Ψ,Ω⟩,Ξ⟩;replace H0:=ah (H0.call Ξ);have L0:∀d,r=M d->wr.heap.size+1<=d.block:=λd e=>by have:=Ω d e;omega
   clear Ω Ξ;have x:=fk (H0.facts);go_wp2_with fail;have Q:=aT (H0.put 0 0 (b? r m.s.l.length c1));have N:=mi (g:=wr.heap.size) (o:=0) (u:=b? r m.s.l.length c1) Ψ (λd e=>by have:=L0 d e;omega);refine kf (λV=>Lb V V r m.s.l) Q N (λV1 H1 hT=>?_);have J:=hT;clear x Q H0 Ψ N;have hz1:wr.heap.size<V1.heap.size:=(H1.blk _ ab).2.lt;refine(pq _ m.m.s.e _ (by have:=BH.k.e;rw[<-m.hk]at this;omega) _ (oH.later H1.below).k.e).mono ?_;rintro e w2⟨⟨y,c2,rfl,ν,ω⟩,Y⟩;replace H1:=ah (H1.call Y);have L1:∀d,y=M d->wr.heap.size+1<=d.block:=λd e=>by have:=ω d e;omega
   replace J:=(Rd.below J Y).more Y.size;clear ω Y;have x:=fk (H1.facts);go_wp2_with fail;have Q:=aT (H1.put 0 3 (b? y m.m.s.e.length c2));have N:=mi (g:=wr.heap.size) (o:=3) (u:=b? y m.m.s.e.length c2) J (λd e=>by have:=L0 d e;omega);have q1:=mi (g:=wr.heap.size) (o:=3) (u:=b? y m.m.s.e.length c2) ν (λd e=>by have:=L1 d e;omega);refine kf (λV=>Lb V V r m.s.l/\Sl V V y m.m.s.e) Q ⟨N,q1⟩ (λV2 H2 hT=>?_);obtain⟨J,T1⟩:=hT;clear x Q H1 ν N q1;have hz2:wr.heap.size<V2.heap.size:=(H2.blk _ ab).2.lt;refine(pq _ m.m.s.c _ (by have:=BH.k.c;rw[<-m.hk]at this;omega) _ (oH.later H2.below).k.c).mono ?_;rintro e w3⟨⟨t,H,rfl,ξ,θ⟩,F⟩;replace H2:=ah (H2.call F);have L2:∀d,t=M d->wr.heap.size+1<=d.block:=λd e=>by have:=θ d e;omega
   replace J:=(Rd.below J F).more F.size;replace T1:=(Rd.below T1 F).more F.size;clear θ F;have x:=fk (H2.facts);go_wp2_with fail;have Q:=aT (H2.put 0 8 (b? t m.m.s.c.length H));have N:=mi (g:=wr.heap.size) (o:=8) (u:=b? t m.m.s.c.length H) J (λd e=>by have:=L0 d e;omega);have q1:=mi (g:=wr.heap.size) (o:=8) (u:=b? t m.m.s.c.length H) T1 (λd e=>by have:=L1 d e;omega);have q2:=mi (g:=wr.heap.size) (o:=8) (u:=b? t m.m.s.c.length H) ξ (λd e=>by have:=L2 d e;omega);refine kf (λV=>Lb V V r m.s.l/\Sl V V y m.m.s.e/\Sl V V t m.m.s.c) Q ⟨N,q1,q2⟩ (λV3 H3 hT=>?_);obtain⟨J,T1,T2⟩:=hT;clear x Q H2 ξ N q1 q2;have hz3:wr.heap.size<V3.heap.size:=(H3.blk _ ab).2.lt;refine(vI _ m.m.s.g _ (by have:=BH.k.g;rw[<-m.hk]at this;omega) _ (oH.later H3.below).k.g).mono ?_;rintro e w4⟨⟨z,C,rfl,κ,S8⟩,h⟩;replace H3:=ah (H3.call h);have L3:∀d,z=M d->wr.heap.size+1<=d.block:=λd e=>by have:=S8 d e;omega
   replace J:=(Rd.below J h).more h.size;replace T1:=(Rd.below T1 h).more h.size;replace T2:=(Rd.below T2 h).more h.size;clear S8 h;have x:=fk (H3.facts);have Q:=aT (H3.put 0 10 (b? z m.m.s.g.length C));have N:=mi (g:=wr.heap.size) (o:=10) (u:=b? z m.m.s.g.length C) J (λd e=>by have:=L0 d e;omega);have q1:=mi (g:=wr.heap.size) (o:=10) (u:=b? z m.m.s.g.length C) T1 (λd e=>by have:=L1 d e;omega);have q2:=mi (g:=wr.heap.size) (o:=10) (u:=b? z m.m.s.g.length C) T2 (λd e=>by have:=L2 d e;omega);have q3:=mi (g:=wr.heap.size) (o:=10) (u:=b? z m.m.s.g.length C) κ (λd e=>by have:=L3 d e;omega);have H5:=ah (Q.alloc w4 197 [jN r m.s.l c1,jJ m.m.s.kind,jJ m.m.s.level,jN y m.m.s.e c2,jJ m.m.s.bits,jL m.m.s.regs,jJ m.m.s.rows,jJ m.m.s.cols,jN t m.m.s.c H,jJ m.m.s.fine,jN z m.m.s.g C,jK m.s.seen]);have χ:=my.later (m:=(XM 24 m y c2 t H z C r c1)) ⟨N,⟨q1,q2,q3⟩⟩ (jP (jQ _) (m? #[jN r m.s.l c1,jJ m.m.s.kind,jJ m.m.s.level,jN y m.m.s.e c2,jJ m.m.s.bits,jL m.m.s.regs,jJ m.m.s.rows,jJ m.m.s.cols,jN t m.m.s.c H,jJ m.m.s.fine,jN z m.m.s.g C,jK m.s.seen] 197));clear Q κ J T1 T2 N q1 q2 q3;have ψ:=OI (b:=wr.heap.size+1) (v:=(uv:jD).ownBlock) (m:=(XM 24 m y c2 t H z C r c1)) L0 L1 L2 L3 (λq e=>by have:=(pf HO.own q e).2;omega);have SO:Hid (mr f (XM 24 m y c2 t H z C r c1)):=⟨λd e=>by have:=L0 d e;omega,⟨λd e=>by have:=L1 d e;omega,λd e=>by have:=L2 d e;omega,λd e=>by have:=L3 d e;omega⟩⟩;have μ:=P1 (m:=(XM 24 m y c2 t H z C r c1)) (H5.blk _ ab).2;have BC:=ah (HO.later H5.below);have η:=ah (Lr.later H5.below);have hww:=HB.size;have hcs:cs.length<=1000:=jS;have y_:=ah (HB.trans (H5.below.mono hww));have Γ:=y_.size;clear HO Lr HB;go_wp2_with(at_builtin;refine kr _ rfl _ _ 108 rfl f 197 i0 _ 12 168 Tryz.underlying108 φ α β γ rfl B8 _ cs.length _ rfl BC.own (dE w4) (aM w4) 1 1 (ng (XM 24 m y c2 t H z C r c1)) rfl (by rw[l7]) μ (FV _) O0 jS jS ?_;intro v' W6 L Wc ε);have Td:=ah (BC.snoc L Wc ε χ ψ);have aA8:=ah (η.grow Wc ε);have VA:(bB f W6):=y_.grown Wc y_.size (λq e=>(pf BC.own q e).1);have HM6:=ah (IU (XM 24 m y c2 t H z C r c1) rfl);have HL6:Hid (∀x∈cs++[(⟨m.s,⟨m.m.s,y,c2,t,H,z,C⟩,r,c1,m.hk⟩:jZ)],mr f x):=λx hx=>by
    rcases ed.1 hx with hx|hx
    .exact BG x hx
    simp at hx;rw[hx];exact SO
   clear L Wc ε BC η y_ χ ψ μ IU BG SO x H5 Γ;go_wp2;go_roundw
   case rel=>exact⟨k+1,_,CJ,jS,by rw[cd,fT];omega,HM6,Td,HL6,aA8,VA⟩
   exact No
  have hkk:k=ms.length:=jS;subst hkk;have d1:decide ((ms.length:I)<ms.length)=u?:=lV;rw[dP]at HE;go_wp2;go_ret;first|exact⟨⟨_,rfl,cs,HE,HO,BG⟩,HB⟩|exact⟨⟨_,rfl,cs,by rw[HE,X];rfl,HO,BG⟩,HB⟩
def PQ(b:jC)(c:jD)(a:E jZ)(d:a.length<=30)(A:w? jG)(ms:E jZ)(cap:O)(j:ms.length<=20)(l:∀m∈ms,n_ m.s)(w:jC)(k:Below b b w)(g:lF w b c a)(f:∀m∈a,mr b m)(h:oq w c A ms):jE Tryz.prog 139 #[c,jN A ms cap] w λe w'=>(∃v cs,e=a? v/\cs.map (·.s)=a.map (·.s)++ms.map (·.s)/\lF w' b v cs/\∀m∈cs,mr b m)/\Below b b w':=(II A ms cap j l b).1 c a d w k g f h
def K5(A:w? jG)(ms:E jZ)(cap:O)(b:ms.length<=20)(c:∀m∈ms,n_ m.s)(a:jC)(d:Tab a a A ms):jE Tryz.prog 167 #[jN A ms cap] a λe w'=>(∃v cs,e=a? v/\cs.map (·.s)=ms.map (·.s)/\lF w' a v cs/\∀m∈cs,mr a m)/\Below a a w':=(II A ms cap b c a).2 d
structure ScU(x0:w? jG)(x1:E jZ)(x2:O) where
def cU(c:w? jG)(a:E jZ)(b:O):ScU c a b:=⟨⟩
instance aY2(x0:w? jG)(x1:E jZ)(x2:O):CoeOut (ScU x0 x1 x2) jD:=⟨λ_=>b? x0 x1.length x2⟩
def we(t:E mq)(s:mq):w? (E mq):=if Dm t s.l=t? then Z else M (CL t s)
def rz(w:jC)(r:w? (E mq))(e:bi6)(w':jC):Prop:=Below w w w'/\match r with
 |none=>e=a? (d? #[jM,jJ 120])
 |some t=>∃A c cs,e=a? (d? #[jN A cs c,jJ 0])/\cs.map (·.s)=t/\lF w' w (cU A cs c) cs/\∀m∈cs,mr w m
def mr.mono{B C:O}{m:jZ}(h:mr B m)(b:C<=B):mr C m:=⟨λa e=>a_ b (h.l a e),h.k.mono b⟩
def lF.base{C:O}(h:lF w B v cs)(a:C<=B):lF w C v cs:=⟨own_base h.own a,h.ok,h.ap⟩
variable{r:w? (E mq)}
def rz.no(h:r=Z)(a:Below w w w'):rz w r (a? (d? #[jM,jJ 120])) w':=⟨a,by rw[h]⟩
def rz.yes(h:r=M (cs.map (·.s)))(f:Below w w w')(b:w.heap.size<=B)(a:lF w' B v cs)(e:∀m∈cs,mr B m):rz w r (a? (d? #[v,jJ 0])) w':=by
 refine⟨f,?_⟩;rw[h];obtain⟨A,c,rfl,g,_⟩:=lB a.own;exact⟨A,c,cs,rfl,rfl,a.base b,λm d=>(e m d).mono b⟩
def Tab.take{w:jC}{B:O}{A:w? jG}{ms:E jZ}(h:Tab w B A ms)(k:O):Tab w B A (ms.take k):=⟨by rw[<-Cw];exact Rd.take h.rd _,λm a=>h.ok m (dy a)⟩
def Cy:∀(ms:E jZ)(k:O),(lS ms).drop (k*12)=lS (ms.drop k)
 |[],k=>by simp[lS]
 |m::ms,0=>lV
 |m::ms,k+1=>by
  rw[jc,<-Cy ms k];show(ng m++lS ms).drop _=_;rw[show(k+1)*12=(ng m).length+k*12 by rw[l7];omega,<-gp,List.drop_left]
def Tab.drop{w:jC}{B cap:O}{A:w? jG}{ms:E jZ}(h:Tab w B A ms)(k:O)(b:ms.length<=cap):Tab w B (pU A k cap) (ms.drop k):=by
 refine⟨?_,λm a=>h.ok m (eJ a)⟩;rw[<-Cy];unfold pU;have:=Rd.cut h.rd (k*12) (cap*12) (by rw[vS];omega);by_cases e:cap=k
 .subst e;rw[B? rfl]at this⊢;exact this
 rw[A? e];rwa[A? jS]at this
def oq.old(h:Tab w B A ms)(a:lF W B v cs)(d:Tab W W A ms):oq W v A ms:=
 ⟨d,nL h.rd a.own,λm b=>⟨nL (h.ok m b).l a.own,nL (h.ok m b).k.e a.own,nL (h.ok m b).k.c a.own,nL (h.ok m b).k.g a.own⟩⟩
def oq.one(h:my w B m)(a:lF W B v cs)(f:my W W m):oq (W.alloc (m? (tn m) 197)) v (aM W) [m]:=by
 have d:=jR.new W 197 (tn m);have ok:=f.later (jP (jQ W) (m? (tn m) 197));refine⟨⟨?_,λx b=>by simp at b;rw[b];exact ok⟩,λ_ n e j=>?_,λx b=>?_⟩
 .have:=(P1 d).more (B':=(W.alloc (m? (tn m) 197)).heap.size) lV;simpa[lS]using this
 .cases e
  have:=(pf a.own _ j.symm).2;simp at this
 simp at b;rw[b];exact⟨nL h.l a.own,nL h.k.e a.own,nL h.k.c a.own,nL h.k.g a.own⟩
def xp(b:jC)(c:jD)(a:E jZ)(d:a.length<=30)(A:w? jG)(ms:E jZ)(cap n:O)(j:n=ms.length)(k:ms.length<=20)(o:∀m∈ms,n_ m.s)(w:jC)(l:Below b b w)(g:lF w b c a)(f:∀m∈a,mr b m)(h:oq w c A ms):jE Tryz.prog 139 #[c,b? A n cap] w λe w'=>(∃v cs,e=a? v/\cs.map (·.s)=a.map (·.s)++ms.map (·.s)/\lF w' b v cs/\∀m∈cs,mr b m)/\Below b b w':=by
 subst j;exact PQ b c a d A ms cap k o w l g f h
def FL(A:w? jG)(ms:E jZ)(cap:O)(v:ms.length<=cap)(m:jZ)(hG:GS m.s)(w:jC)(hT:Tb w)(hS:oI w A ms)(C:my w w m):jE Tryz.prog 96 #[jN A ms cap,yV m] w (rz w (we (ms.map (·.s)) m.s)):=by
 have Ω:=hS.len;obtain⟨i0,ψ,ε,η,θ⟩:=bi5 Tryz.zo;have HS:=ah hS;have HM:=ah C;have HG:=ah hG;have HF:Hid (∀x∈ms,n_ x.s):=λx z=>(hS.g.all _ (dq.2 ⟨x,z,rfl⟩)).fit;have QR:Hid (∀w',Below w w w'->jE Tryz.prog 98 #[jN A ms cap] w' λe X=>e=a? (h? t?)/\Below w' w' X):=λw' h=>ql A ms cap w' (hT.later h) (hS.later h);have QS:Hid (∀w',Below w w w'->jE Tryz.prog 138 #[g? (lz 13 m)] w' λe X=>e=a? (h? t?)/\Below w' w' X):=λw' h=>Aa m hG w' (hT.later h) (C.later h);have QF:Hid (∀w',Below w w w'->jE Tryz.prog 94 #[jN A ms cap,jN m.la m.s.l m.lc] w' λe X=>e=a? (d? #[jJ (o_ (ms.map (·.s)) m.s.l:O),h? (mQ (ms.map (·.s)) m.s.l)])/\Below w' w' X):=λw' h=>RQ A ms cap _ _ _ (by have:=(mt hG.set).1;omega) w' (hT.later h) (hS.later h) (C.later h).l;have Γ:o_ (ms.map (·.s)) m.s.l<=ms.length:=by have:=Lk (ms.map (·.s)) m.s.l;rwa[ax]at this
 have χ:mQ (ms.map (·.s)) m.s.l=t?->o_ (ms.map (·.s)) m.s.l<ms.length:=λh=>by obtain⟨hk,_⟩:=zN h;rwa[ax]at hk
 have HP:Hid (we (ms.map (·.s)) m.s=if(!mQ (ms.map (·.s)) m.s.l&&decide (ms.length=20))=t? then Z else M (if mQ (ms.map (·.s)) m.s.l=t? then(ms.map (·.s)).take (o_ (ms.map (·.s)) m.s.l)++m.s::(ms.map (·.s)).drop (o_ (ms.map (·.s)) m.s.l+1)else(ms.map (·.s)).take (o_ (ms.map (·.s)) m.s.l)++m.s::(ms.map (·.s)).drop (o_ (ms.map (·.s)) m.s.l))):=by unfold Hid we Dm CL;rw[ax]
 generalize we (ms.map (·.s)) m.s=r at*;generalize mQ (ms.map (·.s)) m.s.l=th at*;generalize o_ (ms.map (·.s)) m.s.l=k at*;clear hT hS C hG;go_in;unfold yV;go_wp2_with fail;refine kf (λ_=>True) ((Hold.nil w).alloc w 197 (lz 3 m)) trivial (λV a _=>?_);have hz:w.heap.size<V.heap.size:=(a.blk _ ab).2.lt;refine(QR V a.below).mono ?_;rintro e w1⟨rfl,ρ⟩;replace a:=ah (a.call ρ);replace hz:=cn hz ρ.size;clear ρ QR;have x:=fk (a.facts);go_wp2_with fail;refine(QS _ a.below).mono ?_;rintro e w2⟨rfl,ξ⟩;replace a:=ah (a.call ξ);replace hz:=cn hz ξ.size;clear ξ QS x;have x:=fk (a.facts);go_wp2_with fail;refine(QF _ a.below).mono ?_;rintro e f⟨rfl,φ⟩;replace a:=ah (a.call φ);replace hz:=cn hz φ.size;clear φ QF x
 cases th with
 |true=>
  have Δ:=χ rfl;have DF:Hid (r=M ((ms.map (·.s)).take k++m.s::(ms.map (·.s)).drop (k+1))):=by show _=_;rw[HP];simp
  have Ψ:k+1<=ms.length:=Δ;clear HP;have κ:=ah a.below;obtain⟨W0,F,b,K⟩:=bk8 (P:=Tryz.prog) f f 108 197 i0 _ 12 Tryz.underlying108 ψ ε η o? o? (ms.length+1) jS (by rw[θ];omega) O0 aa;rw[show((ms.length+1:O):I)=(ms.length:I)+1 by omega]at F;have n:(bB f W0):=(Below.refl _ f).grown K aa (λq e=>LS);have Fj:Hid (lF W0 f (b? (aM f) 0 (ms.length+1)) []):=⟨b,λm C=>(by simp at C),λm C=>(by simp at C)⟩;have ω:=λw=>Jt A ms.length cap k jS w;have μ:=λw=>zT A ms.length cap (k+1) jS w;rw[show((k+1:O):I)=(k:I)+1 by omega]at μ;have d:=ah (HS.tab.later a.below);have Fk:=ah (HM.later a.below);have W:=ah (xp f _ [] lV A (ms.take k) cap k qlt qlt (λx z=>HF x (dy z)) W0 n Fj (λx z=>(by simp at z)) (oq.old (d.take k) Fj ((d.take k).later n)));clear b K;go_wp2_with fail;refine W.mono ?_;rintro e D⟨⟨v1,N,rfl,t,R,J⟩,o⟩;have c:=ah o;have yT:=ah t;have xe:=ah R;have Yz:=ah J;have Θ:N.length=k:=by have:=C? ez t;simp at this;omega
  replace a:=ah (a.call o);clear W F Fj n o t R J;have x:=fk (a.facts);go_wp2_with fail;have HA:Hid (Below D D (D.alloc (m? (tn m) 197))):=jP (jQ D) _;have Yk:=ah (xp f v1 N jS (aM D) [m] 1 1 rfl lV (λy hy=>by simp at hy;rw[hy];exact HG.fit) _ (c.trans (HA.mono c.size)) (xe.later HA) Yz (oq.one Fk xe (Fk.later c)));unfold tn at Yk;refine Yk.mono ?_;rintro e w5⟨⟨v2,γ,rfl,j,G,δ⟩,Y⟩;have y_:=ah Y;have ν:=ah j;have xd:=ah G;have L:=ah δ;have Ξ:γ.length=k+1:=by have:=C? ez j;simp at this;omega
  clear Yk xe c Yz Y j G δ x HA;go_wp2_with fail;have H:=ah (xp f v2 γ jS (pU A (k+1) cap) (ms.drop (k+1)) (cap-(k+1)) (ms.length-(k+1)) (by rw[dr]) (by rw[dr];omega) (λx z=>HF x (eJ z)) w5 y_ xd L (oq.old (d.drop (k+1) v) xd ((d.drop (k+1) v).later y_)));refine H.mono ?_;rintro e w6⟨⟨v3,XV,rfl,Q,T,β⟩,α⟩;have VA:=ah α;have Lw:=ah Q;have w_:=ah T;have SS:=ah β;clear H xd y_ L α Q T β;go_wp2;go_ret2;refine rz.yes ?_ ((κ).trans (VA.mono jS)) jS w_ SS;rw[DF,Lw,ν,yT];simp[iR,List.map_drop]
 |false=>
  clear χ;by_cases h9:ms.length=20
  .have DF:Hid (r=Z):=by show _=_;rw[HP];simp[h9]
   have d1:decide ((ms.length:I)=20)=t?:=ae;clear HP;go_wp2;go_ret2;exact rz.no DF a.below
  have DF:Hid (r=M ((ms.map (·.s)).take k++m.s::(ms.map (·.s)).drop k)):=by show _=_;rw[HP];simp[h9]
  have d1:decide ((ms.length:I)=20)=u?:=ag;have Ψ:k<=ms.length:=Γ;clear HP;have κ:=ah a.below;obtain⟨W0,F,b,K⟩:=bk8 (P:=Tryz.prog) f f 108 197 i0 _ 12 Tryz.underlying108 ψ ε η o? o? (ms.length+1) jS (by rw[θ];omega) O0 aa;rw[show((ms.length+1:O):I)=(ms.length:I)+1 by omega]at F;have n:(bB f W0):=(Below.refl _ f).grown K aa (λq e=>LS);have Fj:Hid (lF W0 f (b? (aM f) 0 (ms.length+1)) []):=⟨b,λm C=>(by simp at C),λm C=>(by simp at C)⟩;have ω:=λw=>Jt A ms.length cap k jS w;have μ:=λw=>zT A ms.length cap (k) jS w;rw[show((k:O):I)=(k:I) by omega]at μ;have d:=ah (HS.tab.later a.below);have Fk:=ah (HM.later a.below);have W:=ah (xp f _ [] lV A (ms.take k) cap k qlt qlt (λx z=>HF x (dy z)) W0 n Fj (λx z=>(by simp at z)) (oq.old (d.take k) Fj ((d.take k).later n)));clear b K;go_wp2_with fail;refine W.mono ?_;rintro e D⟨⟨v1,N,rfl,t,R,J⟩,o⟩;have c:=ah o;have yT:=ah t;have xe:=ah R;have Yz:=ah J;have Θ:N.length=k:=by have:=C? ez t;simp at this;omega
  replace a:=ah (a.call o);clear W F Fj n o t R J;have x:=fk (a.facts);go_wp2_with fail;have HA:Hid (Below D D (D.alloc (m? (tn m) 197))):=jP (jQ D) _;have Yk:=ah (xp f v1 N jS (aM D) [m] 1 1 rfl lV (λy hy=>by simp at hy;rw[hy];exact HG.fit) _ (c.trans (HA.mono c.size)) (xe.later HA) Yz (oq.one Fk xe (Fk.later c)));unfold tn at Yk;refine Yk.mono ?_;rintro e w5⟨⟨v2,γ,rfl,j,G,δ⟩,Y⟩;have y_:=ah Y;have ν:=ah j;have xd:=ah G;have L:=ah δ;have Ξ:γ.length=k+1:=by have:=C? ez j;simp at this;omega
  clear Yk xe c Yz Y j G δ x HA;go_wp2_with fail;have H:=ah (xp f v2 γ jS (pU A (k) cap) (ms.drop (k)) (cap-(k)) (ms.length-(k)) (by rw[dr]) (by rw[dr];omega) (λx z=>HF x (eJ z)) w5 y_ xd L (oq.old (d.drop (k) v) xd ((d.drop (k) v).later y_)));refine H.mono ?_;rintro e w6⟨⟨v3,XV,rfl,Q,T,β⟩,α⟩;have VA:=ah α;have Lw:=ah Q;have w_:=ah T;have SS:=ah β;clear H xd y_ L α Q T β;go_wp2;go_ret2;refine rz.yes ?_ ((κ).trans (VA.mono jS)) jS w_ SS;rw[DF,Lw,ν,yT];simp[iR,List.map_drop]
def Pq:∀u∈lS ms,u.oneCell'=t?:=λu a=>by
 unfold lS at a;obtain⟨m,_,h⟩:=ir.1 a;exact FV m u h
def Cx:∀(ms:E jZ)(i c:O)(a:jZ)(u:jD)(h:i<ms.length),c<12->ng a=(ng ms[i]).set c u->(lS ms).set (i*12+c) u=lS (ms.set i a)
 |[],i,_,_,_,h,_,_=>WY
 |y::ms,0,c,a,u,_,d,b=>by
  simp only[dQ]at b;rw[ak];show(ng y++lS ms).set _ u=ng a++lS ms;rw[fh,au,List.set_append_left _ _ (by rw[l7];exact d),b]
 |y::ms,i+1,c,a,u,h,d,b=>by
  have e:=Cx ms i c a u S6 d (by simpa using b);rw[am];show(ng y++lS ms).set _ u=ng y++lS (ms.set i a);rw[iN _ _ (by rw[l7];omega),l7,<-e];congr 2;omega
def lF.as2{cap:O}(h:lF w B (b? (aC g) n cap) cs)(m:n=cs.length)(i c:O)(hi:i<cs.length)(l:c<12)(u:jD)(d:jZ)(o:ng d=(ng cs[i]).set c u)(f:my w w d)(e:Apart (M g) d):lF (w.setCell ⟨g,i*12+c,Z⟩ u) B (b? (aC g) n cap) (cs.set i d)/\w.grownBy (w.setCell ⟨g,i*12+c,Z⟩ u) (M g):=by
 subst m;obtain⟨k,j⟩:=h.own.stored (i*12+c) u;rw[Cx cs i c d u hi l o]at k;have b:∀x∈cs.set i d,my w w x/\Apart (M g) x:=λx a=>by
  rcases dO a with a|a
  .exact⟨h.ok x a,h.ap x a⟩
  rw[a];exact⟨f,e⟩
 exact⟨⟨by rw[eq];exact k,λx a=>(b x a).1.grown j (b x a).2,λx a=>(b x a).2⟩,j⟩
def lF.PL{cap:O}(h:lF w B (b? (aC g) n cap) cs)(i:O)(hi:i<cs.length):wV w g (i*12) cs[i]:=by
 obtain⟨b,c,e,d,a⟩:=(lF.tab h).at_ jS
 cases e
 exact Ju (a i hi)
def K9(A:w? jG)(ms:E jZ)(cap:O)(V:ms.length<=1000)(w:jC)(z:Tab w w A ms):jE Tryz.prog 185 #[jN A ms cap] w λe w'=>(∃v,e=a? v/\lF w' w v ms/\(ms=[]\/∃g c,v=b? (aC g) ms.length c))/\Below w w w':=by
 obtain⟨L,B,q,y,s⟩:=bi5 Tryz.zo;have Q:∀(w:jC)(a:w? jG)(n c p t:O),(binOp .eql 108 (b? a n c) (b? Z p t)).run Tryz.prog w=.ok (h? a.isNone) w:=λw a n c p t=>fR w _ _ a n c p t Tryz.underlying108;have j:=ah z;have K:Hid (A=Z->ms=[]):=λe=>by
  subst e
  cases ms with
  |nil=>rfl
  |cons x r=>
   obtain⟨_,_,h,_⟩:=z.rd (by intro e;have:=C? ez e;rw[vS]at this;simp at this)
   cases h
 clear z
 cases A with
 |none=>
  obtain rfl:=K rfl;go_in;go_wp2_with fail;have D:Hid (lF w w aO []):=⟨dY _ _ _ _,λm f=>(by simp at f),λm f=>(by simp at f)⟩;go_ret;exact⟨⟨_,rfl,D⟩,jQ _⟩
 |some T=>
  go_in;go_wp2_with(at_builtin;refine kr _ rfl _ _ 108 rfl w 197 L _ 12 168 Tryz.underlying108 B q y s rfl B8 _ 0 _ rfl (gO w #[] 0 aa (be _) lV) _ _ ms.length cap (lS ms) rfl (by rw[vS];omega) (Rd.below j.rd (jP (jQ w) _)) Pq O0 jS lV ?_;intro F G b d o);have C:Below w w G:=((Below.refl _ w).alloc aa _).grown d lV (by intro k J;cases J;exact ay _);rw[au]at b;simp only[fO,gP,iT,dz,fh]at b;have D:Hid (lF G w F ms):=⟨b,λm f=>(j.ok m f).later C,λm f=>⟨nL (j.ok m f).l b,nL (j.ok m f).k.e b,nL (j.ok m f).k.c b,nL (j.ok m f).k.g b⟩⟩;have H:Hid (ms=[]\/∃g c,F=b? (aC g) ms.length c):=by
   rcases fM ms.length with h|h
   .exact r? (da h)
   obtain⟨g,c,N,e,_⟩:=se b h;exact s? ⟨g,c,e⟩
  have R:=ah C;clear b d o C;go_wp2;go_ret;exact⟨⟨_,rfl,D,H⟩,R⟩
def MH(h:∀a,A=M a->B<=a.block)(c:g<B):Ap A xs (M g):=λ_ a e b=>by
 have:=h a e;cases b;omega
def QI(w:jC)(g c:O)(ms:E jZ)(k:O)(m:jZ)(W:jC):Prop:=
 ∃cs:E jZ,cs.length=ms.length/\cs.map (·.s)=ms.map (·.s)/\cs[k]? =M m/\lF W w (b? (aC g) ms.length c) cs/\(∀(j:O)(h:j<cs.length),j<k->mr w cs[j])/\Below w w W
section
variable{w W W':jC}{g c k:O}{ms:E jZ}{m:jZ}
def QI.call(h:QI w g c ms k m W)(b:Below W W W'):QI w g c ms k m W':=by
 obtain⟨cs,f,e,j,d,l,a⟩:=h;exact⟨cs,f,e,j,d.later b,l,a.trans (b.mono a.size)⟩
def QI.at_(h:QI w g c ms k m W):wV W g (k*12) m/\(∀j,W.frozen? ⟨g,j,Z⟩=u?)/\my W W m/\Apart (M g) m/\g<W.heap.size/\w.heap.size<=g:=by
 obtain⟨cs,z,s,r,b,t,y⟩:=h;obtain⟨d,e⟩:=ci.1 r;obtain⟨A,f,n,p,o,q,a,_⟩:=se b.own jS;injection p with l v x
 cases l
 have:=b.PL k d;rw[e]at this;exact⟨this,a.frozen,e▸b.ok _ (ar d),e▸b.ap _ (ar d),q,o⟩
def QI.put(h:QI w g c ms k m W)(j:O)(r:j<12)(u:jD)(a:jZ)(A:ng a=(ng m).set j u)(hs:a.s=m.s)(f:my W W a)(d:Apart (M g) a):QI w g c ms k a (W.setCell ⟨g,k*12+j,Z⟩ u):=by
 have o:=h.at_.2.2.2.2.2;obtain⟨cs,n,q,z,x,v,y⟩:=h;obtain⟨l,e⟩:=ci.1 z;obtain⟨p1,B⟩:=x.as2 n.symm k j l r u a (by rw[e];exact A) f d;refine⟨cs.set k a,by rw[eq];exact n,?_,by rw[gM l],p1,λi t b=>?_,y.setCell (p:=⟨g,k*12+j,Z⟩) o u⟩
 .rw[iJ,hs,<-e,<-q];have:(cs[k]).s=(cs.map (·.s))[k]'(by simpa using l):=by rw[gD]
  rw[this,ie]
 rw[List.getElem_set_ne jS];exact v i (by simpa using t) b
def QI.fit(h:QI w g c ms k m W)(d:∀m∈ms,n_ m.s):n_ m.s:=by
 obtain⟨cs,e,b,a,_⟩:=h;exact RO b d _ (cm a)
def zi{P:bi3}{f:bl9}{args:x? jD}{R:bi6->jC->Prop}(F:jC->Prop)(h:F W)(k:∀V,F V->jE P f args V R):jE P f args W R:=k W h
def Ql{P:bi3}{a:Act}{c:bk9}{Q:bk7->Act->jC->Prop}(F:jC->Prop)(h:F W)(k:∀V,F V->c.wp P Q a V):c.wp P Q a W:=k W h
end
def Gh(A:w? jG)(ms:E jZ)(cap:O)(hl:ms.length<=20)(hf:∀m∈ms,n_ m.s)(w:jC)(hS:Tab w w A ms):jE Tryz.prog 141 #[jN A ms cap] w λe w'=>(∃v cs,e=a? v/\cs.map (·.s)=ms.map (·.s)/\lF w' w v cs/\∀m∈cs,mr w m)/\Below w w w':=by
 have HF:=ah hf;have QC:=ah (K9 A ms cap jS w hS);clear hS hf;go_in;go_wp2_with fail;refine QC.mono ?_;rintro e w1⟨⟨v,rfl,ho,hv⟩,r⟩;have xe:=ah ho;have N:=ah r;clear QC ho r;rcases hv with rfl|⟨g,c,rfl⟩
 .obtain⟨H,c1,rfl,ω,_⟩:=lB xe.own;go_wp2_with fail;go_loopw[10] (λi wr=>i=c? o? 0/\(bB w wr)/\Hid (lF wr w (b? H 0 c1) [])) (λi _=>0)
  case atStart=>exact⟨rfl,N,xe⟩
  obtain⟨rfl,HB,X⟩:=hrel;go_wp2;go_ret;exact⟨⟨_,[],rfl,rfl,X,λm hm=>(by simp at hm)⟩,HB⟩
 have b:=pf xe.own g rfl;go_wp2_with fail;go_loopw[10] (λi wr=>∃(k:O)(cs:E jZ),i=(aJ k)/\k<=ms.length/\cs.length=ms.length/\Hid (cs.map (·.s)=ms.map (·.s))/\Hid (lF wr w (b? (aC g) ms.length c) cs)/\Hid (∀j(h:j<cs.length),j<k->mr w cs[j])/\(bB w wr)) (λi _=>(lI 34 ms i))
 case atStart=>exact⟨0,ms,rfl,be _,rfl,rfl,xe,λj _ h=>jS,N⟩
 clear xe N;obtain⟨k,cs,rfl,hk,η,HE,X,BG,HB⟩:=hrel;have χ:=(pf X.own g rfl).2;by_cases h1:k<ms.length
 .have d1:decide ((k:I)<ms.length)=t?:=ae;have μ:k<cs.length:=jS;have φ:(0:I)<=k:=jS;have ψ:(k:I)<ms.length:=jS;obtain⟨a,β⟩:∃m,cs[k]? =M m:=⟨_,an μ⟩;have H0:Hid (QI w g c ms k a wr):=⟨cs,η,HE,β,X,BG,HB⟩;have BH:=ah (H0.fit HF);obtain⟨⟨Q,_,_,R,_,_,_,_,J,_,n,_⟩,G,ok,z,o,_⟩:=H0.at_;have d:=ah ok;have f:=ah z;clear β HE X BG HB ok z;go_wp2_with fail;refine(Bi _ a.s.l _ (by have:=BH.l;omega) _ d.l).mono ?_;rintro e w1⟨⟨H,c1,rfl,γ,K⟩,r⟩;have Yz:Hid (aX H w):=λT e=>by have:=K T e;omega
  have q:=H0.call r;have H1:=ah (q.put 0 B8 (b? H a.s.l.length c1) ⟨a.s,a.m,H,c1,a.hk⟩ rfl rfl ⟨γ,(d.later r).k⟩ ⟨MH K o,f.2⟩);obtain⟨⟨t,_,_,x,_,_,_,_,Y,_,V,_⟩,G,_,_,o,b⟩:=q.at_;clear γ K r d f q Q R J n;go_wp2_with fail;refine zi _ H1 (λV1 C=>?_);clear H1 H0 t x Y V G o b;have H1:=ah C;obtain⟨⟨Q,_,_,R,_,_,_,_,J,_,n,_⟩,G,ok,z,o,b⟩:=C.at_;have d:=ah ok;have f:=ah z;clear C ok z;refine(pq _ a.m.s.e _ (by have:=BH.k.e;rw[<-a.hk]at this;omega) _ d.k.e).mono ?_;rintro e w2⟨⟨W,c2,rfl,ε,L⟩,B⟩;have κ:Hid (aX W w):=λT e=>by have:=L T e;omega
  have q:=H1.call B;have H2:=ah (q.put 3 B8 (b? W a.m.s.e.length c2) ⟨a.s,⟨a.m.s,W,c2,a.m.ca,a.m.cc,a.m.ga,a.m.gc⟩,H,c1,a.hk⟩ rfl rfl ⟨(d.later B).l,⟨ε,(d.later B).k.c,(d.later B).k.g⟩⟩ ⟨f.1,MH L o,f.2.2⟩);obtain⟨⟨t,_,_,x,_,_,_,_,Y,_,V,_⟩,G,_,_,o,b⟩:=q.at_;clear ε L B d f q Q R J n;go_wp2_with fail;refine zi _ H2 (λV2 C=>?_);clear H2 H1 t x Y V G o b;have H2:=ah C;obtain⟨⟨Q,_,_,R,_,_,_,_,J,_,n,_⟩,G,ok,z,o,b⟩:=C.at_;have d:=ah ok;have f:=ah z;clear C ok z;refine(pq _ a.m.s.c _ (by have:=BH.k.c;rw[<-a.hk]at this;omega) _ d.k.c).mono ?_;rintro e w3⟨⟨A3,c3,rfl,α,S8⟩,F⟩;have SS:Hid (aX A3 w):=λT e=>by have:=S8 T e;omega
  have q:=H2.call F;have H3:=ah (q.put 8 B8 (b? A3 a.m.s.c.length c3) ⟨a.s,⟨a.m.s,W,c2,A3,c3,a.m.ga,a.m.gc⟩,H,c1,a.hk⟩ rfl rfl ⟨(d.later F).l,⟨(d.later F).k.e,α,(d.later F).k.g⟩⟩ ⟨f.1,f.2.1,MH S8 o,f.2.2.2⟩);obtain⟨⟨t,_,_,x,_,_,_,_,Y,_,V,_⟩,G,_,_,o,b⟩:=q.at_;clear α S8 F d f q Q R J n;go_wp2_with fail;refine zi _ H3 (λV3 C=>?_);clear H3 H2 t x Y V G o b;have H3:=ah C;obtain⟨⟨Q,_,_,R,_,_,_,_,J,_,n,_⟩,G,ok,z,o,b⟩:=C.at_;have d:=ah ok;have f:=ah z;clear C ok z;refine(vI _ a.m.s.g _ (by have:=BH.k.g;rw[<-a.hk]at this;omega) _ d.k.g).mono ?_;rintro e w4⟨⟨A4,c4,rfl,δ,XD⟩,D⟩;have Lu:Hid (aX A4 w):=λT e=>by have:=XD T e;omega
  have q:=H3.call D;have H4:=ah (q.put 10 B8 (b? A4 a.m.s.g.length c4) ⟨a.s,⟨a.m.s,W,c2,A3,c3,A4,c4⟩,H,c1,a.hk⟩ rfl rfl ⟨(d.later D).l,⟨(d.later D).k.e,(d.later D).k.c,δ⟩⟩ ⟨f.1,f.2.1,f.2.2.1,MH XD o⟩);obtain⟨⟨t,_,_,x,_,_,_,_,Y,_,V,_⟩,G,_,_,o,b⟩:=q.at_;clear δ XD D d f q Q R J n;go_wp2_with fail;have SO:Hid (mr w (XM 24 a W c2 A3 c3 A4 c4 H c1)):=⟨Yz,⟨κ,SS,Lu⟩⟩;go_roundw
  case rel=>
   obtain⟨ν,q1,q2,q3,q4,q5,q6⟩:=H4;refine⟨k+1,ν,CJ,jS,q1,q2,q4,λj hj θ=>?_,q6⟩;rcases iE (Nat.le_of_lt_succ θ)with h|h
   .exact q5 j hj h
   subst h;have:=ci.1 q3;rw[this.2];exact SO
  exact No
 have ξ:k=ms.length:=jS;subst ξ;have d1:decide ((ms.length:I)<ms.length)=u?:=lV;go_wp2;go_ret;exact⟨⟨_,rfl,cs,HE,X,λm hm=>by obtain⟨j,hj,rfl⟩:=dR hm;exact BG j hj jS⟩,HB⟩
def vO(t:E mq)(a:O×I×z?)(k:O):O×I×z?:=
 match t[k]? with
 |none=>a
 |some s=>if kn s.k.kind<=s.k.level then a else if a.2.2=u?\/a.2.1<nF s then(k,nF s,t?)else a
def nM(t:E mq)(n:O):O×I×z?:=(bu n).foldl (vO t) (0,0,u?)
def zJ(t:E mq)(n:O):nM t (n+1)=vO t (nM t n) n:=by simp[nM,fV]
def rC(t:E mq):O×z?:=((nM t t.length).1,(nM t t.length).2.2)
def DL(t:E mq):∀n,n<=t.length->(nM t n).2.2=t?->∃h:(nM t n).1<t.length,t[(nM t n).1].k.level<kn t[(nM t n).1].k.kind
 |0,_,h=>by simp[nM]at h
 |n+1,f,h=>by
  have d:=DL t n jS;rw[zJ]at h⊢;generalize nM t n=a at*;have e:t[n]? =M t[n]:=an jS;simp only[vO,e]at h⊢;split at h
  .rename_i c;simp only[B? c];exact d h
  rename_i c;simp only[A? c];by_cases b:a.2.2=u?\/a.2.1<nF t[n]
  .simp only[B? b];exact⟨jS,jS⟩
  rw[A? b]at h;simp only[A? b];exact d h
def Aw(t:E mq)(k:O):E mq:=match t[k]? with|none=>t|some s=>t.set k {s with k:=mG s.k}
def En(h:k<t.length):Aw t k=t.set k {t[k]with k:=mG t[k].k}:=by simp[Aw,h]
def Qw(h:GT t)(a:k<t.length)(b:t[k].k.level<kn t[k].k.kind):GT (Aw t k):=by
 rw[En a];exact h.kY k a (uW (h.all _ (ar a)).k b).1
def pI(a:I):O->E mq->E O->w? (E mq×E O)
 |0,_,_=>Z
 |n+1,t,b=>if kJ t<=a then M (t,b)else if(rC t).2=t? then pI a n (Aw t (rC t).1) (b++[(rC t).1])else Z
def C8(s:mq):O:=(kn s.k.kind-s.k.level).toNat
def pg(t:E mq):O:=(t.map C8).sum
def GE:∀(t:E mq)(k:O)(a:k<t.length)(s:mq),C8 s+1=C8 t[k]->pg (t.set k s)+1=pg t
 |x::t,0,_,s,h=>by simp[pg]at h⊢;omega
 |x::t,k+1,a,s,h=>by
  have:=GE t k (by simpa using a) s S6;simp[pg]at this⊢;omega
def GF(h:GT t)(a:k<t.length)(d:t[k].k.level<kn t[k].k.kind):pg (Aw t k)+1=pg t:=by
 rw[En a];obtain⟨_,b,c⟩:=uW (h.all _ (ar a)).k d;refine GE t k a _ ?_;simp only[C8,b,c];omega
def left_le(h:GS s):C8 s<=4:=by
 obtain⟨c,a,d,b⟩:=sI h.k;unfold C8;have:kn s.k.kind<=4:=by unfold kn;split;omega;split<;>omega
 omega
def GH:∀(t:E mq),(∀s∈t,GS s)->pg t<=4*t.length
 |[],_=>by simp[pg]
 |x::t,h=>by
  have c:=left_le (h x lV);have b:=GH t λs a=>h s (by simp[a]);simp[pg]at b⊢;omega
def Qy(h:GT t):pg t<=80:=by have:=GH t h.all;have:=h.len;omega
def Wf(a:I):∀(n:O)(t:E mq)(b:E O){r:E mq×E O},GT t->pI a n t b=M r->GT r.1/\kJ r.1<=a
 |0,_,_,_,_,h=>by simp[pI]at h
 |n+1,t,b,r,c,h=>by
  rw[pI]at h;split at h
  .rename_i d
   cases h
   exact⟨c,d⟩
  split at h
  .rename_i e;obtain⟨f,g⟩:=DL t t.length aa e;exact Wf a n _ _ (Qw c f g) h
  cases h
end Go.Proofs.YtfcnedcahoifoaaGreatDoor
namespace Go.Proofs.YtfcnedcahoifoaaGreatDoor
instance i8_(x0:jC)(x1:jC)(x2:I)(x3:I):CoeOut (IN 8 x0 x1 x2 x3) Prop:=⟨λ_=>x0.cell? ⟨x1,0,Z⟩=M (c? n? x2)/\x0.cell? ⟨x1,1,Z⟩=M (c? n? x3)⟩
instance aY9(x0:jC)(x1:jC)(x2:I)(x3:I):CoeSort (IN 8 x0 x1 x2 x3) Prop:=⟨λ_=>x0.cell? ⟨x1,0,Z⟩=M (c? n? x2)/\x0.cell? ⟨x1,1,Z⟩=M (c? n? x3)⟩
instance aZ1:CoeOut (Cp 59) v?:=⟨λ_=>⟨#[116,101,110,97,110,116]⟩⟩
instance aZ0:CoeOut (Cp 62) Obj:=⟨λ_=>(m? #[jK 0,jK 0] 24)⟩
def Bj(a b:I)(s:v?):I×I:=(Sp.sumF a b (⟨#[0]⟩++s),Sp.sumF a b (⟨#[1]⟩++s))
def Br(a b:v?):(a++b).size=a.size+b.size:=lV
def OE(a b:I)(s:v?)(hs:s.size<=90000)(w:jC):jE Tryz.prog 51 #[cI a b,jL s] w λe w'=>e=a? (g? #[jK (Bj a b s).1,jK (Bj a b s).2])/\Below w w w':=by
 have k0:fK .add (⟨#[0]⟩:v?) s=pure (f? (⟨#[0]⟩++s)):=oL (by show 1+_<=_;omega);have k1:fK .add (⟨#[1]⟩:v?) s=pure (f? (⟨#[1]⟩++s)):=oL (by show 1+_<=_;omega);have T:=ah (Sp.sum_any a b (⟨#[0]⟩++s) (by rw[Br];show 1+s.size<=_;omega));have W:=ah (Sp.sum_any a b (⟨#[1]⟩++s) (by rw[Br];show 1+s.size<=_;omega));have j:=ah (jR.new w 24 #[jK a,jK b]);have A:=ah (jR.new (w.alloc (aW a b)) 24 #[jK 0,jK 0]);have C:=ah (jP (jP (jQ w) (aW a b)) (rO 62));have J:(w.alloc (aW a b)).heap.size=w.heap.size+1:=lV;rw[J]at A;replace j:=ah (j.alloc (rO 62));clear J;unfold Bj;generalize(⟨#[0]⟩++s:v?)=D at*;generalize(⟨#[1]⟩++s:v?)=F at*;go_in;go_wp2_with fail;generalize(w.alloc (aW a b)).alloc (rO 62)=V at*;have r:=ce j 0;have z:=ce j 1;have k:=j.lt;have Y:=A.lt;refine bi1 (S:=λX=>(rU 8 X w a b)) oo ⟨r,z⟩ (λc=>?_);refine re c ?_;replace A:=ah A.drew;replace C:=ah C.drew;replace k:w.heap.size<V.drew.heap.size:=k;replace r:V.drew.cell? ⟨w,0,Z⟩=M (c? n? a):=r;replace z:V.drew.cell? ⟨w,1,Z⟩=M (c? n? b):=z;clear j;generalize V.drew=V2 at*;refine pL 3 λK d=>?_;go_simp;refine(T _).mono ?_;rintro e H⟨rfl,f⟩;have G:=ah f;have m:(rU 8 H w a b):=⟨(G.cell (p:=⟨w,0,Z⟩) k).trans r,(G.cell (p:=⟨w,1,Z⟩) k).trans z⟩;refine d.out _ _ m (λc=>?_);clear d K f m;refine az ?_;refine pL 7 λK d=>?_;go_simp;refine(W H).mono ?_;rintro e t⟨rfl,h⟩;have B:=ah (Below.two G h);have m:(rU 8 t w a b):=⟨(B.cell (p:=⟨w,0,Z⟩) k).trans r,(B.cell (p:=⟨w,1,Z⟩) k).trans z⟩;refine d.out _ _ m (λc=>?_);clear d K h m;refine az ?_;refine re c ?_;refine pL 9 λK d=>?_;have n:=ah (A.later B);have N:=sD (x:=c? n? (Sp.sumF a b D)) (y:=c? n? (Sp.sumF a b F)) n;have R:=ah (((Below.trans C (B.mono C.size)).setCell (p:=(aE w)) (dU _) (c? n? (Sp.sumF a b D))).setCell (p:=(bS w)) (dU _) (c? n? (Sp.sumF a b F)));have fz:∀i,t.frozen? ⟨w.heap.size+1,i,Z⟩=u?:=λi=>n.frozen i;have y0:=ce n 0;have y1:=ce n 1;have L:=n.lt;go_simp;have q:Below (w.heap.size+1) t ((t.setCell (aE w) (c? n? (Sp.sumF a b D))).setCell (bS w) (c? n? (Sp.sumF a b F))):=((Below.refl (w.heap.size+1) t).setCell (p:=(aE w)) aa _).setCell (p:=(bS w)) aa _;refine d.out _ _ ⟨(q.cell (p:=⟨w,0,Z⟩) (fA _)).trans c.1,(q.cell (p:=⟨w,1,Z⟩) (fA _)).trans c.2⟩ (λc=>?_);clear d K;refine az ?_;refine hdn ?_;go_wp2;exact jF (bl2 rfl _ _ (w.heap.size+1) _ _ _ _ rfl N Tryz.underlying24 rfl oo) rfl ⟨rfl,R⟩
noncomputable def Kl(a b id:I):I×I:=Bj a b ((rO 59)++r8 id)
def Mb(a b id:I)(hi:U id)(w:jC):jE Tryz.prog 28 #[cI a b,jK id] w λe w'=>e=a? (g? #[jK (Kl a b id).1,jK (Kl a b id).2])/\Below w w w':=by
 have D:=xA id;have k0:fK .add ((rO 59):v?) (r8 id)=pure (f? ((rO 59)++r8 id)):=oL (by show 6+_<=_;omega);have X:=ah (put_any id hi);have Y:=ah (OE a b ((rO 59)++r8 id) (by rw[Br];show 6+(r8 id).size<=_;omega));have j:=ah (jR.new w 24 #[jK a,jK b]);have A:=ah (jR.new (w.alloc (aW a b)) 24 #[jK 0,jK 0]);have C:=ah (jP (jP (jQ w) (aW a b)) (rO 62));have L:(w.alloc (aW a b)).heap.size=w.heap.size+1:=lV;rw[L]at A;replace j:=ah (j.alloc (rO 62));clear L D;unfold Kl;generalize((rO 59)++r8 id:v?)=T at*;generalize r8 id=s0 at*;generalize Bj a b T=r at*;obtain⟨F,G⟩:=r;go_in;go_wp2_with fail;generalize(w.alloc (aW a b)).alloc (rO 62)=V at*;have s:=ce j 0;have z:=ce j 1;have k:=j.lt;have hc:=A.lt;refine bi1 (S:=λw9=>(rU 8 w9 w a b)) oo ⟨s,z⟩ (λc=>?_);refine re c ?_;replace A:=ah A.drew;replace C:=ah C.drew;replace k:w.heap.size<V.drew.heap.size:=k;replace s:V.drew.cell? ⟨w,0,Z⟩=M (c? n? a):=s;replace z:V.drew.cell? ⟨w,1,Z⟩=M (c? n? b):=z;clear j;generalize V.drew=V2 at*;refine pL 2 λK d=>?_;go_simp;refine(X _).mono ?_;rintro e J⟨rfl,f⟩;have H:=ah f;have m:(rU 8 J w a b):=⟨(H.cell (p:=⟨w,0,Z⟩) k).trans s,(H.cell (p:=⟨w,1,Z⟩) k).trans z⟩;refine d.out _ _ m (λc=>?_);clear d K f m;refine az ?_;refine re c ?_;refine pL 4 λK d=>?_;go_simp;refine(Y J).mono ?_;rintro e t⟨rfl,h⟩;have B:=ah (Below.two H h);have m:(rU 8 t w a b):=⟨(B.cell (p:=⟨w,0,Z⟩) k).trans s,(B.cell (p:=⟨w,1,Z⟩) k).trans z⟩;refine d.out _ _ m (λc=>?_);clear d K h m;refine az ?_;refine pL 5 λK d=>?_;have n:=ah (A.later B);have R:=sD (x:=c? n? F) (y:=c? n? G) n;have W:=ah (((Below.trans C (B.mono C.size)).setCell (p:=(aE w)) (dU _) (c? n? F)).setCell (p:=(bS w)) (dU _) (c? n? G));have fz:∀i,t.frozen? ⟨w.heap.size+1,i,Z⟩=u?:=λi=>n.frozen i;have y0:=ce n 0;have y1:=ce n 1;have N:=n.lt;go_simp;have q:Below (w.heap.size+1) t ((t.setCell (aE w) (c? n? F)).setCell (bS w) (c? n? G)):=((Below.refl (w.heap.size+1) t).setCell (p:=(aE w)) aa _).setCell (p:=(bS w)) aa _;refine d.out _ _ ⟨(q.cell (p:=⟨w,0,Z⟩) (fA _)).trans c.1,(q.cell (p:=⟨w,1,Z⟩) (fA _)).trans c.2⟩ (λc=>?_);clear d K;refine az ?_;refine hdn ?_;go_wp2;exact jF (bl2 rfl _ _ (w.heap.size+1) _ _ _ _ rfl R Tryz.underlying24 rfl oo) rfl ⟨rfl,W⟩
structure SbL(x0:mV) where
def bL(a:mV):SbL a:=⟨⟩
instance aY5(x0:mV):CoeOut (SbL x0) (x? jD):=⟨λ_=>#[jK x0.seq,jK x0.tm,jL x0.text,jK x0.sum]⟩
instance aZ8(x0:mV):CoeOut (sH 16 x0) (x? jD):=⟨λ_=>#[c? n? x0.seq,c? n? x0.tm,f? x0.text,c? n? x0.sum]⟩
variable{w w':jC}{b:O}{e:jH}
def t6{g:O}{t:jH}{cs:x? jD}(h:jR w g t cs)(f:eh e (M b) w w')(d:g≠b)(a:t≠e):jR w' g t cs:=
 f g _ h (λe=>d (by injection e)) (λc k e=>by injection e with _ j;exact a j)
variable{B:O}
def Q9{T:jH}{B':O}{bs:E jD}(h:dX T e B' b bs w)(s:B<=B'):dX T e B b bs w:=by
 have q:∀p,fN T e B' b p bs w->fN T e B b p bs w:=λp⟨r,v,f,⟨m,l⟩,j⟩=>⟨jS,v,f,⟨m,l.imp id λ⟨g,c,a,k,n,o,d⟩=>⟨g,c,a,k,n,jS,d⟩⟩,j⟩;exact h.imp (q _) (q _)
def Km{T:jH}{bs:E jD}(h:dX T e B b bs w)(j:Below w w w'):dX T e B b bs w':=by
 have q:∀p,fN T e B b p bs w->fN T e B b p bs w':=λp⟨r,v,f,⟨s,o⟩,k⟩=>
  ⟨r,v,(j.block _ (aw.1 f).1).trans f,⟨s,o.imp id λ⟨g,c,a,n,t,m,d,l⟩=>⟨g,c,a,n,t,m,(j.block _ (aw.1 d).1).trans d,l⟩⟩,k⟩
 exact h.imp (q _) (q _)
noncomputable def uF(l:E I):E y?:=l.flatMap λn=>(r8 n).data.toList
def Am(l:E I):(uF l).length<=9*l.length:=by
 induction l with
 |nil=>simp[uF]
 |cons n l a=>
  have:=xA n;unfold uF at a⊢;rw[dg,cd,c_];have e:(r8 n).data.toList.length=(r8 n).size:=by rw[iA];rfl
  omega
def Nu(l:E I)(n:I):uF (l++[n])=uF l++(r8 n).data.toList:=by unfold uF;rw[eZ,dg,List.flatMap_nil,eB]
noncomputable def Ca(b:I)(x:mV):v?:=⟨(uF [b,x.seq,x.tm,(x.text.size:I)]++x.text.data.toList).toArray⟩
def Nv(b:I)(x:mV):(Ca b x).size<=36+x.text.size:=by
 have h:=Am [b,x.seq,x.tm,(x.text.size:I)];have e:(Ca b x).size=(uF [b,x.seq,x.tm,(x.text.size:I)]).length+x.text.size:=by
  show(List.toArray _).size=_;rw[jn,cd,iA];rfl
 simp only[c_,dp]at h;omega
noncomputable def qC(ka kb b:I)(x:mV):I:=Sp.sumF ka kb (Ca b x)
def UD(ka kb b:I)(x:mV):U (qC ka kb b x):=Sp.Jk _ _ _
def Yh(w:jC)(ka kb:I)(x:mV)(a:E I)(k:O)(wr:jC):Prop:=
 dX 312 5 w (aN w) (dV (uF (a.take k))) wr/\jR wr w 24 #[jK ka,jK kb]/\jR wr (w.heap.size+1) 59 (bL x)/\jR wr (cC w) 22 (a.map (br n?)).toArray/\Below w w wr
def IG(ka kb b:I)(x:mV)(hb:U b)(hx:qL x)(ht:x.text.size<=1000)(w:jC):jE Tryz.prog 127 #[g? #[c? n? ka,c? n? kb],c? n? b,Hw x] w λe w'=>e=a? (c? n? (qC ka kb b x))/\(bJ w w'):=by
 have HM:=Nv b x;have QS:=ah (Sp.sum_any ka kb (Ca b x) jS);have HE:Hid (uF [b,x.seq,x.tm,(x.text.size:I)]++x.text.data.toList=(Ca b x).data.toList):=by show _=_;simp[Ca]
 unfold Hw;have A:Hid (Yh w ka kb x [b,x.seq,x.tm,(x.text.size:I)] 0 ((((w.alloc (aR ka kb)).alloc (m? (lz 16 x) 59)).alloc (m? #[e? Z,jM] 312)).alloc (m? #[jK b,jK x.seq,jK x.tm,jK x.text.size] 22))):=by
  have e1:(w.alloc (aR ka kb)).heap.size=w.heap.size+1:=lV;have e2:((w.alloc (aR ka kb)).alloc (m? (lz 16 x) 59)).heap.size=w.heap.size+1+1:=lV;have e3:(((w.alloc (aR ka kb)).alloc (m? (lz 16 x) 59)).alloc (m? #[e? Z,jM] 312)).heap.size=w.heap.size+1+1+1:=lV;refine⟨?_,(((jR.new w _ _).alloc _).alloc _).alloc _,?_,?_,jP (jP (jP (jP (jQ w) _) _) _) _⟩
  .have h:=Lib.IsBuilderF.of (Lib.fresh_isBuilder 312 5 ((w.alloc (aR ka kb)).alloc (m? (lz 16 x) 59)));rw[e2]at h;exact Q9 (h.alloc _) jS
  .have h:=jR.new (w.alloc (aR ka kb)) 59 (lz 16 x);rw[e1]at h;exact(h.alloc _).alloc _
  have h:=jR.new (((w.alloc (aR ka kb)).alloc (m? (lz 16 x) 59)).alloc (m? #[e? Z,jM] 312)) 22 #[jK b,jK x.seq,jK x.tm,jK x.text.size];rw[e3]at h;exact h
 have W:Hid (qC ka kb b x=Sp.sumF ka kb (Ca b x)):=rfl;have HU:Hid (∀k,∀h:k<[b,x.seq,x.tm,(x.text.size:I)].length,U ([b,x.seq,x.tm,(x.text.size:I)][k])):=by
  intro k h;match k,h with
  |0,_=>exact hb
  |1,_=>exact hx.seq
  |2,_=>exact hx.tm
  |3,_=>exact(⟨jS,jS⟩:U (x.text.size:I))
 have α:IntKind.u64.wrap (x.text.size:I)=(x.text.size:I):=gC _ jS;go_in;go_wp2_with fail;have L:[b,x.seq,x.tm,(x.text.size:I)].length=4:=rfl;generalize[b,x.seq,x.tm,(x.text.size:I)]=f at*;go_loopw[21] (λi wr=>∃k:O,i=(aJ k)/\k<=4/\Hid (Yh w ka kb x f k wr)) (λi _=>4-(av i).toNat)
 case atStart=>exact⟨0,rfl,be _,A⟩
 clear A;obtain⟨k,rfl,hk,A⟩:=hrel;obtain⟨c1,c2,H,D,F⟩:=A.out;by_cases R:k<4
 .have s:k<f.length:=by omega
  have gk:wr.cell? ⟨cC w,k,Z⟩=M (c? n? f[k]):=by rw[D.cell];simp[s]
  have zg:=D.lt;have γ:(0:I)<=(k:I):=jS;have δ:(k:I)<4:=by omega
  have QP:=ai (put_any _ (HU.out k s) wr);have HT:Hid (uF (f.take (k+1))=uF (f.take k)++(r8 f[k]).data.toList):=by show _=_;rw[aj s,Nu]
  have V:=xA f[k];have r:=Am (f.take k);rw[cv]at r;generalize T:f[k]=nk at*;clear T;generalize r8 nk=X at*;go_wp2_with fail;refine QP.out.mono ?_;rintro e w1⟨rfl,q⟩;have hw:=F.size;have v:=Km c1 q;have j:=ai (c2.later q);have C3:=ai (H.later q);have Y:=ai (D.later q);have m:=ai (F.trans (q.mono hw));clear c1 c2 H D F A QP gk zg;go_wp2_with fail;refine(sL w.heap.size (aN w) _ X w1 v (by rw[ii];omega) m.out.size).mono ?_;rintro e B⟨rfl,g,n,c⟩;have HN:Hid (Yh w ka kb x f (k+1) B):=by
   refine⟨?_,t6 j.out c jS B8,t6 C3.out c jS B8,t6 Y.out c jS B8,m.out.trans n⟩;rw[HT.out];have e:dV (uF (f.take k)++X.data.toList)=dV (uF (f.take k))++jh X:=by unfold dV jh;rw[dH]
   rw[e];exact Or.inr g
  clear g n c v j C3 Y m HT r V;go_wp2_with fail;go_roundw
  case rel=>exact⟨k+1,rfl,by omega,HN⟩
  simp[av];omega
 obtain rfl:k=4:=by omega
 rw[<-L,dP]at c1;have r:=Am f;rw[L]at r;have y2:=H.cell 2;simp only[bh,bm,bo]at y2;have zy:=H.lt;have C1:=ai c1;have j:=ai c2;have m:=ai F;clear c1 c2 H D F A R;go_wp2_with fail;refine(sL w (aN w) _ x.text wr C1 (by rw[ii];omega) m.size).mono ?_;rintro e B⟨rfl,g,n,c⟩;have v:Hid (dX 312 5 w (aN w) (dV (Ca b x).data.toList) B):=by
  rw[<-HE];have e:dV (uF f++x.text.data.toList)=dV (uF f)++jh x.text:=by unfold dV jh;rw[dH]
  rw[e];exact Or.inr g
 replace j:=ah (t6 j c jS B8);replace m:=ah (m.trans n);clear g n c C1 HE y2 zy;generalize Ca b x=N at*;go_wp2_with fail;have t:=j.cell 0;have y:=j.cell 1;simp only[bh,bm,bo]at t y;refine bi1 (S:=λw9=>(rU 8 w9 w ka kb)) oo ⟨t,y⟩ (λd=>?_);refine re d ?_;replace j:Hid (jR B.drew w 24 #[jK ka,jK kb]):=j;replace m:=ah m.drew;replace v:Hid (dX 312 5 w (aN w) (dV N.data.toList) B.drew):=v;clear t y;generalize B.drew=w3 at*;refine pL 1 λK G=>?_;go_simp;refine(IF w (aN w) N.data.toList w3 v m.size).mono ?_;rintro e w4⟨rfl,g,J,c⟩;replace j:=ah (t6 j c jS B8);replace m:=ah (m.trans J);have t:=j.cell 0;have y:=j.cell 1;simp only[bh,bm,bo]at t y;have em:(⟨N.data.toList.toArray⟩:v?)=N:=lV;rw[em];clear g J c v em;refine G.out _ _ ⟨t,y⟩ (λd=>?_);clear G K;refine az ?_;refine pL 2 λK G=>?_;go_simp;refine(QS w4).mono ?_;rintro e w5⟨rfl,z⟩;have z0:=j.lt;refine G.out _ _ ⟨(z.cell (p:=⟨w,0,Z⟩) z0).trans t,(z.cell (p:=⟨w,1,Z⟩) z0).trans y⟩ (λd=>?_);clear G K;refine az ?_;refine re d ?_;refine hdn ?_;go_wp2;go_ret;exact⟨by rw[W];rfl,m.trans (z.mono m.size)⟩
instance aZ5(x0:I)(x1:I)(x2:v?)(x3:I):CoeOut (IN 25 x0 x1 x2 x3) Obj:=⟨λ_=>(m? #[jK x0,jK x1,jL x2,jK x3] 59)⟩
noncomputable def m5(ka kb:I):I->E mV->z?
 |_,[]=>t?
 |b,x::l=>x.sum==qC ka kb b x&&m5 ka kb x.sum l
variable{ka kb:I}{l:E mV}{k:O}
def Sh{b:I}(h:k<l.length):m5 ka kb b (l.drop k)=(l[k].sum==qC ka kb b l[k]&&m5 ka kb l[k].sum (l.drop (k+1))):=by
 rw[dN h];rfl
def AU(h:k<l.length):l[k]∈l:=ar h
def Im(ka kb b:I)(A:w? jG)(l:E mV)(cap:O)(hl:l.length<=1000)(hb:U b)(hf:∀x∈l,qL x/\x.text.size<=1000)(w:jC)(hS:Eb w w A l):jE Tryz.prog 170 #[cI ka kb,jK b,jN A l cap] w λe w'=>(∃k:I,e=a? (d? #[jJ k,h? (m5 ka kb b l)]))/\Below w w w':=by
 have HS:=ah hS;have HF:=ah hf;have HA:=ah (IG ka kb);clear hS hf;have h:Hid (jR (w.alloc (aW ka kb)) w 24 #[jK ka,jK kb]/\Below w w (w.alloc (aW ka kb))/\m5 ka kb b l=m5 ka kb b (l.drop 0)/\U b):=⟨jR.new w _ _,jP (jQ w) _,rfl,hb⟩;generalize j:m5 ka kb b l=cr at*;clear j hb;generalize hn:l.length=n at*;go_in;go_wp2_with fail;go_loopw[1,12] (λbv i wr=>∃(k:O)(c:I),i=(aJ k)/\bv=c? n? c/\k<=n/\Hid (jR wr w 24 #[jK ka,jK kb]/\Below w w wr/\cr=m5 ka kb c (l.drop k)/\U c)) (λ_ i _=>n-(av i).toNat)
 case atStart=>exact⟨0,b,rfl,rfl,be _,h⟩
 clear h;obtain⟨k,c,rfl,rfl,hk,h⟩:=hrel;by_cases W:k<n
 .have r:k<l.length:=jS;have ε:(0:I)<=k:=jS;have κ:(k:I)<n:=jS;have α:w.heap.size<=wr.heap.size:=h.2.1.size;obtain⟨bb,η,rfl,θ,hc⟩:=(HS.later' h.2.1).at_ jS;obtain⟨g0,g1,g2,g3⟩:=hc k r;have G:=HF _ (AU r);have s:=ah h.2.2.1;rw[Sh r]at s;have z:=ah (h.1.alloc (m? #[jK l[k].seq,jK l[k].tm,jL l[k].text,jK l[k].sum] 59));have t:=ah (jR.new wr 59 #[jK l[k].seq,jK l[k].tm,jL l[k].text,jK l[k].sum]);have B:=ah (h.2.1.alloc α (m? #[jK l[k].seq,jK l[k].tm,jL l[k].text,jK l[k].sum] 59));have J:=ah (λw'=>HA c l[k] h.2.2.2 G.1 G.2 w');have HU:=ah G.1.sum;clear hc G h;generalize l[k]=x at*;obtain⟨xs,xt,R,m⟩:=x;unfold Hw at J;simp only at g0 g1 g2 g3 z t B J s HU;go_wp2_with fail;generalize wr.alloc (rU 25 xs xt R m)=V at*;clear g0 g1 g2 g3;have Y:=ce z 0;have x1:=ce z 1;have T:=ce t 0;have x3:=ce t 1;have x4:=ce t 2;have N:=ce t 3;refine bi1 (S:=λy=>y.cell? ⟨w,0,Z⟩=M (c? n? ka)/\y.cell? ⟨w,1,Z⟩=M (c? n? kb)/\y.cell? ⟨wr,0,Z⟩=M (c? n? xs)/\y.cell? ⟨wr,1,Z⟩=M (c? n? xt)/\y.cell? ⟨wr,2,Z⟩=M (f? R)/\y.cell? ⟨wr,3,Z⟩=M (c? n? m)) oo ⟨Y,x1,T,x3,x4,N⟩ (λd=>?_);refine re d ?_;refine pL 5 λK hK=>?_;go_simp;refine(J V.drew).mono ?_;rintro e X⟨rfl,f⟩;have H:w.heap.size<V.drew.heap.size:=z.lt;have q:wr.heap.size<V.drew.heap.size:=t.lt;refine hK.out _ _ ⟨(f.cell (p:=⟨w,0,Z⟩) H).trans Y,(f.cell (p:=⟨w,1,Z⟩) H).trans x1,(f.cell (p:=⟨wr,0,Z⟩) q).trans T,(f.cell (p:=⟨wr,1,Z⟩) q).trans x3,(f.cell (p:=⟨wr,2,Z⟩) q).trans x4,(f.cell (p:=⟨wr,3,Z⟩) q).trans N⟩ (λd=>?_);clear hK K;refine az ?_;have Tf:Hid (jR X w 24 #[jK ka,jK kb]):=(f.block _ H).trans z;have Vj:=(f.cell (p:=⟨wr,3,Z⟩) q).trans N;have zx:wr.heap.size<X.heap.size:=cn q f.size;have F:(bB w X):=B.drew.trans (f.mono B.size);clear f z t B Y x1 T x3 x4 N J H q;generalize hs:qC ka kb c ⟨xs,xt,R,m⟩=L at*;clear hs
  cases hq:(m==L)with
  |true=>
   have β:m=L:=beq_iff_eq.1 hq;have γ:(m !=L)=u?:=by rw[bne,hq];rfl
   rw[hq,eF]at s;clear β hq;refine re d ?_;refine hdn ?_;clear d;go_wp2;go_roundw
   case rel=>exact⟨k+1,m,rfl,rfl,jS,⟨Tf,F,s,HU⟩⟩
   exact No
  |false=>
   have γ:(m !=L)=t?:=by rw[bne,hq];rfl
   rw[hq,eO]at s;clear hq;refine re d ?_;refine hdn ?_;clear d;have j:=s;subst j;clear s;go_wp2;go_ret2;exact⟨⟨_,rfl⟩,F⟩
 have C:k=n:=jS;have j:cr=t?:=by have:=h.2.2.1;rw[this,C,<-hn,List.drop_length];rfl
 subst j;have B:=ah h.2.1;subst C;clear h W;go_wp2;go_ret2;exact⟨⟨_,rfl⟩,B⟩
def sO(p:w? mV)(x:mV):z?:=decide (x.text.size<=200)&&(match p with|none=>t?|some a=>n9 a x)
def lT:w? mV->E mV->z?
 |_,[]=>t?
 |p,x::l=>sO p x&&lT (M x) l
noncomputable def qN(ka kb b:I)(l:E mV):z?:=decide (l.length<=30)&&(match l with|[]=>b==0|x::_=>(decide (1<=x.seq)&&(x.seq !=1||b==0))&&(lT Z l&&m5 ka kb b l))
def pT(l:E mV)(k:O):w? mV:=if k=0 then Z else l[k-1]?
def Py(h:k<l.length):lT (pT l k) (l.drop k)=(sO (pT l k) l[k]&&lT (pT l (k+1)) (l.drop (k+1))):=by
 have e:pT l (k+1)=M l[k]:=by unfold pT;rw[A? jS];simp[h]
 rw[e,dN h];rfl
def Lm(ka kb b:I)(A:w? jG)(l:E mV)(cap:O)(hl:l.length<=1000)(hb:U b)(hf:∀x∈l,qL x/\x.text.size<=1000)(w:jC)(hS:Eb w w A l):jE Tryz.prog 125 #[cI ka kb,g? #[jK b,jN A l cap]] w λe w'=>e=a? (h? (qN ka kb b l))/\Below w w w':=by
 have HS:=ah hS;have HF:=ah hf;have χ:=ah hb;have Ct:=ah (jP (jP (jQ w) (aW ka kb)) (m? #[jK b,jN A l cap] 113));by_cases X:l.length<=30
 case neg=>
  have e:qN ka kb b l=u?:=by unfold qN;rw[E? X,eO]
  rw[e];have κ:decide ((30:I)<l.length)=t?:=ae;have θ:decide (30<l.length)=t?:=ae;clear hS hf hb e;go_in;go_wp2;go_ret;exact⟨rfl,Ct⟩
 have κ:decide ((30:I)<l.length)=u?:=ag;have θ:decide (30<l.length)=u?:=ag;by_cases h0:l.length=0
 .have e0:l=[]:=da h0;subst e0;have e:qN ka kb b []=(b==0):=by unfold qN;simp
  rw[e];clear hS hf hb e X;go_in;go_wp2;go_ret;exact⟨rfl,Ct⟩
 have z0:((l.length:I)==0)=u?:=J? jS;have Γ:(l.length==0)=u?:=J? jS;obtain⟨f,c,rfl,z,hc⟩:=hS.at_ jS;have HC:=ah hc;have s:0<l.length:=jS;have g0:=(hc 0 s).c0;simp only[fh,ip]at g0;have Δ:=(HF _ (AU s)).1.seq;have HL:Hid (qN ka kb b l=((decide ((1:I)<=(l[0]'s).seq)&&((l[0]'s).seq !=1||b==0))&&(lT Z l&&m5 ka kb b l))):=by
  show _=_;unfold qN;rw[F? X,eF];match l,s with
  |x::r,_=>rfl
 clear hS hf hb hc X;generalize(l[0]'s).seq=G at*;have Ω:(0:I)<l.length:=jS;have Ξ:0<l.length:=s;by_cases h1:G<1
 .have b1:decide (G<1)=t?:=F? h1;have e:qN ka kb b l=u?:=by rw[HL,ag,eO,eO]
  rw[e];clear HL e h1;go_in;go_wp2;go_ret;exact⟨rfl,Ct⟩
 have b1:decide (G<1)=u?:=E? h1;by_cases T:G=1/\b≠0
 .obtain⟨rfl,L⟩:=T;have b2:(b !=0)=t?:=bne_iff_ne.2 L;have e:qN ka kb b l=u?:=by
   have b3:(b==0)=u?:=J? L;rw[HL,b3];simp
  rw[e];clear HL e h1 L;go_in;go_wp2;go_ret;exact⟨rfl,Ct⟩
 have μ:Hid (qN ka kb b l=(lT (pT l 0) (l.drop 0)&&m5 ka kb b l)):=by
  show _=_;have q:(decide ((1:I)<=G)&&(G !=1||b==0))=t?:=by
   have q1:decide ((1:I)<=G)=t?:=ae;rw[q1,eF];by_cases L:G=1
   .have h4:b=0:=by
     apply Classical.byContradiction;intro h4;exact T ⟨L,h4⟩
    subst h4;simp
   have:(G !=1)=t?:=bne_iff_ne.2 L;rw[this,Bool.true_or]
  rw[HL,q,eF];rfl
 have N:Hid (jR ((w.alloc (aW ka kb)).alloc (m? #[jK b,b? (bH f c) l.length cap] 113)) w 24 #[jK ka,jK kb]/\jR ((w.alloc (aW ka kb)).alloc (m? #[jK b,b? (bH f c) l.length cap] 113)) (w.heap.size+1) 113 #[jK b,b? (bH f c) l.length cap]/\Below w w ((w.alloc (aW ka kb)).alloc (m? #[jK b,b? (bH f c) l.length cap] 113))/\qN ka kb b l=(lT (pT l 0) (l.drop 0)&&m5 ka kb b l)):=by
  have h:=jR.new (w.alloc (aW ka kb)) 113 #[jK b,b? (bH f c) l.length cap];have e1:(w.alloc (aW ka kb)).heap.size=w.heap.size+1:=lV;rw[e1]at h;exact⟨(jR.new w _ _).alloc _,h,Ct,μ⟩
 have SO:=ah (rfl:l.length=l.length);have ν:=ah (Im ka kb b (bH f c) l cap hl χ HF);clear HL μ Ct χ;generalize y:qN ka kb b l=cr at*;clear y;have ψ:∃n,n=l.length:=⟨_,rfl⟩;obtain⟨n,hn⟩:=ψ;have HQ:Hid (∀w',Eb w' w' (bH f c) l->jE Tryz.prog 170 #[cI ka kb,jK b,b? (bH f c) n cap] w' λe w2=>(∃k:I,e=a? (d? #[jJ k,h? (m5 ka kb b l)]))/\Below w' w' w2):=λw' h=>by rw[hn];exact ν w' h
 clear ν;have hg:(G==1)=u?\/(G==1)=t?/\(b !=0)=u?:=by
  by_cases L:G=1
  .refine s? ⟨beq_iff_eq.2 L,?_⟩;by_cases h4:b=0
   .rw[h4];rfl
   exact H? ⟨L,h4⟩ T
  exact r? (J? L)
 clear T h1;rw[<-hn]at N z0 Γ κ θ Ω Ξ hl h0;rw[<-hn];have HN:Hid (n=l.length):=hn;clear hn s Δ;rcases hg with e1|⟨e1,e2⟩
 all_goals
  go_in;go_wp2_with fail;generalize(w.alloc (aW ka kb)).alloc (m? #[jK b,b? (bH f c) n cap] 113)=V0 at*;go_loopw[42] (λi wr=>∃k:O,i=(aJ k)/\k<=n/\Hid (jR wr w 24 #[jK ka,jK kb]/\jR wr (w.heap.size+1) 113 #[jK b,b? (bH f c) n cap]/\Below w w wr/\cr=(lT (pT l k) (l.drop k)&&m5 ka kb b l))) (λi _=>n-(av i).toNat)
  case atStart=>exact⟨0,rfl,be _,N⟩
  clear N g0;obtain⟨k,rfl,hk,N⟩:=hrel;have HK:=ah N.1;have HG:=ah N.2.1;have F:=ah N.2.2.1;have m:=ah N.2.2.2;have ρ:w.heap.size<=wr.heap.size:=F.size;have zb:f<wr.heap.size:=jS;clear N;by_cases ξ:k<n
  .have φ:k<l.length:=by rw[<-HN];exact ξ
   have hi1:(0:I)<=k:=jS;have hi2:(k:I)<n:=jS;obtain⟨q0,q1,q2,q3⟩:=HC k φ;have g0:=(F.cell (p:=⟨f,c+k*4,Z⟩) z).trans q0;have g1:=(F.cell (p:=⟨f,c+k*4+1,Z⟩) z).trans q1;have g2:=(F.cell (p:=⟨f,c+k*4+2,Z⟩) z).trans q2;have g3:=(F.cell (p:=⟨f,c+k*4+3,Z⟩) z).trans q3;replace m:Hid (cr=((sO (pT l k) l[k]&&lT (pT l (k+1)) (l.drop (k+1)))&&m5 ka kb b l)):=by
    have:=m;rw[Py φ]at this;exact this
   have HP:Hid (0<k->∃p:mV,pT l k=M p/\U p.seq/\IZ wr f (c+(k-1)*4) p):=by
    intro h0;obtain⟨p0,p1,p2,p3⟩:=HC (k-1) jS;refine⟨l[k-1],?_,(HF _ (AU _)).1.seq,(F.cell (p:=⟨f,_,Z⟩) z).trans p0,(F.cell (p:=⟨f,_,Z⟩) z).trans p1,(F.cell (p:=⟨f,_,Z⟩) z).trans p2,(F.cell (p:=⟨f,_,Z⟩) z).trans p3⟩;unfold pT;rw[A? jS,an jS]
   clear q0 q1 q2 q3;generalize l[k]=x at*;obtain⟨D,B,t,C⟩:=x;simp only at g0 g1 g2 g3;have zr:wr.heap.size<(wr.alloc (rU 25 D B t C)).heap.size:=lV;have HX:=ah (jR.new wr 59 #[jK D,jK B,jL t,jK C]);have J:=ah (F.alloc ρ (rU 25 D B t C));have Y:=ah (HK.alloc (rU 25 D B t C));have H:=ah (HG.alloc (rU 25 D B t C));by_cases T:t.size<=200
   case neg=>
    have b2:decide ((200:I)<t.size)=t?:=ae;have Θ:decide (200<t.size)=t?:=ae;have y:cr=u?:=by
     rw[m];unfold sO;rw[E? T,eO,eO,eO]
    clear m T;subst y;go_wp2;go_ret;exact⟨rfl,J⟩
   have b2:decide ((200:I)<t.size)=u?:=ag;have Θ:decide (200<t.size)=u?:=ag;replace m:Hid (cr=(((match pT l k with|none=>t?|some a=>n9 a ⟨D,B,t,C⟩)&&lT (pT l (k+1)) (l.drop (k+1)))&&m5 ka kb b l)):=by
    have:=m;unfold sO at this;rw[F? T,eF]at this;exact this
   clear T;by_cases Ψ:k=0
   .subst Ψ;replace m:Hid (cr=(lT (pT l (0+1)) (l.drop (0+1))&&m5 ka kb b l)):=m;simp only[fh,ip]at g0 g1 g2 g3;clear HP;go_wp2_with fail;clear g0 g1 g2 g3;generalize wr.alloc (rU 25 D B t C)=V at*;refine bi1 (S:=λ_=>True) oo trivial (λd=>?_);refine re d ?_;refine tkn d ?_;refine re d ?_;refine hdn ?_;clear d;go_wp2;go_roundw
    case rel=>exact⟨0+1,rfl,jS,⟨Y.drew,H.drew,J.drew,m⟩⟩
    exact No
   obtain⟨p,hp,hpu,p0,p1,p2,p3⟩:=HP jS;rw[hp]at m;have QF:=ah (Hm p ⟨D,B,t,C⟩ hpu);have Lw:Hid (cr=((n9 p ⟨D,B,t,C⟩&&lT (pT l (k+1)) (l.drop (k+1)))&&m5 ka kb b l)):=m;clear HP hp m;generalize n9 p ⟨D,B,t,C⟩=fb at*;obtain⟨ps,pt,px,pm⟩:=p;unfold Hw at QF;simp only at p0 p1 p2 p3 QF;have bk:decide ((0:I)<k)=t?:=ae;have bk':decide (0<k)=t?:=ae;have hw:IntKind.i64.wrap ((k:I)-1)=((k-1:O):I):=by rw[dv _ jS];omega
   have hj1:(0:I)<=((k-1:O):I):=jS;have hj2:((k-1:O):I)<(n:I):=jS;have β:=(dt wr (rU 25 D B t C) ⟨f,c+(k-1)*4,Z⟩ zb).trans p0;have α:=(dt wr (rU 25 D B t C) ⟨f,c+(k-1)*4+1,Z⟩ zb).trans p1;have γ:=(dt wr (rU 25 D B t C) ⟨f,c+(k-1)*4+2,Z⟩ zb).trans p2;have δ:=(dt wr (rU 25 D B t C) ⟨f,c+(k-1)*4+3,Z⟩ zb).trans p3;clear p0 p1 p2 p3;have l1:=ce H 1;go_wp2_with fail;clear g0 g1 g2 g3;generalize wr.alloc (rU 25 D B t C)=V at*;have x0:=ce HX 0;have x1:=ce HX 1;have x2:=ce HX 2;have x3:=ce HX 3;refine bi1 (S:=λW=>W.cell? (bS w)=M (b? (bH f c) n cap)/\W.cell? ⟨wr,0,Z⟩=M (c? n? D)/\W.cell? ⟨wr,1,Z⟩=M (c? n? B)/\W.cell? ⟨wr,2,Z⟩=M (f? t)/\W.cell? ⟨wr,3,Z⟩=M (c? n? C)/\W.cell? ⟨f,c+(k-1)*4,Z⟩=M (c? n? ps)/\W.cell? ⟨f,c+(k-1)*4+1,Z⟩=M (c? n? pt)/\W.cell? ⟨f,c+(k-1)*4+2,Z⟩=M (f? px)/\W.cell? ⟨f,c+(k-1)*4+3,Z⟩=M (c? n? pm)) oo ⟨l1,x0,x1,x2,x3,β,α,γ,δ⟩ (λd=>?_);refine re d ?_;refine pL 10 λK hK=>?_;go_simp;refine(QF V.drew).mono ?_;rintro e w2⟨rfl,j⟩;have y0:w.heap.size<V.drew.heap.size:=Y.lt;have y1:w.heap.size+1<V.drew.heap.size:=H.lt;have y2:f<V.drew.heap.size:=Nat.lt_trans zb zr;have y3:wr.heap.size<V.drew.heap.size:=zr;refine hK.out _ _ ⟨(j.cell (p:=(bS w)) y1).trans l1,(j.cell (p:=⟨wr,0,Z⟩) y3).trans x0,(j.cell (p:=⟨wr,1,Z⟩) y3).trans x1,(j.cell (p:=⟨wr,2,Z⟩) y3).trans x2,(j.cell (p:=⟨wr,3,Z⟩) y3).trans x3,(j.cell (p:=⟨f,c+(k-1)*4,Z⟩) y2).trans β,(j.cell (p:=⟨f,c+(k-1)*4+1,Z⟩) y2).trans α,(j.cell (p:=⟨f,c+(k-1)*4+2,Z⟩) y2).trans γ,(j.cell (p:=⟨f,c+(k-1)*4+3,Z⟩) y2).trans δ⟩ (λd=>?_);clear hK K;refine az ?_;have Cs:Hid (jR w2 w 24 #[jK ka,jK kb]):=(j.block _ y0).trans Y;have O9:Hid (jR w2 (w.heap.size+1) 113 #[jK b,b? (bH f c) n cap]):=(j.block _ y1).trans H;have R:(bB w w2):=J.drew.trans (j.mono J.size);clear j l1 x0 x1 x2 x3 β α γ δ QF HX J Y H F HK HG
   cases fb with
   |true=>
    rw[eF]at Lw;refine re d ?_;refine hdn ?_;clear d;go_wp2;go_roundw
    case rel=>exact⟨k+1,rfl,jS,⟨Cs,O9,R,Lw⟩⟩
    exact No
   |false=>
    rw[eO,eO]at Lw;refine re d ?_;refine hdn ?_;clear d;have y:=Lw;subst y;clear Lw;go_wp2;go_ret;exact⟨rfl,R⟩
  have ε:k=n:=jS;have y:cr=m5 ka kb b l:=by rw[m,ε,HN,List.drop_length];rfl
  subst ε;have QC:=ah (HQ wr (HS.later F));rw[<-y]at QC;have x0:=ce HK 0;have x1:=ce HK 1;have l0:=ce HG 0;have l1:=ce HG 1;have yk:=HK.lt;have yg:=HG.lt;clear y m ξ HK HG HQ;go_wp2_with fail;refine QC.mono ?_;rintro e w2⟨⟨kk,rfl⟩,j⟩;have R:=ah (F.trans (j.mono ρ));clear j QC x0 x1 l0 l1;go_wp2;go_ret;exact⟨rfl,R⟩
structure SbN where
def bN:SbN:=⟨⟩
instance aY4:CoeOut SbN (x? jD):=⟨λ_=>#[c? n? 0,b? Z 0 0]⟩
instance aZ7(x0:E mV)(x1:I)(x2:v?):CoeOut (IP 20 x0 x1 x2) (x? jD):=⟨λ_=>#[c? n? (kO x0+1),c? n? x1,f? x2,c? n? 0]⟩
instance aZ2(x0:I)(x1:w? jG)(x2:E mV)(x3:O):CoeOut (IN 44 x0 x1 x2 x3) Obj:=⟨λ_=>(m? #[c? n? x0,b? x1 x2.length x3] 113)⟩
def Tryz.Md:(Tryz.prog.info? 59).map (λi=>(i.zero,i.size,i.bytes))=M (M (g? #[jK 0,jK 0,aF,jK 0]),4,40):=oo
noncomputable def newE(ka kb b:I)(l:E mV)(at_:I)(a:v?):mV:=⟨kO l+1,at_,a,qC ka kb (pH b l) ⟨kO l+1,at_,a,0⟩⟩
def late(l:E mV)(at_:I):z?:=match l.getLast? with|none=>u?|some x=>decide (at_<x.tm)
noncomputable def ru(ka kb b:I)(l:E mV)(at_:I)(a:v?):w? (I×E mV):=
 if(qN ka kb b l&&decide (a.size<=200)&&(kO l !=18446744073709551615)&& !late l at_)=t? then
  M (if l.length=30 then((l.head?.map (·.sum)).getD 0,l.tail++[newE ka kb b l at_ a])else(b,l++[newE ka kb b l at_ a]))else Z
def pQ(w:jC)(r:w? (I×E mV))(e:bi6)(w':jC):Prop:=
 Below w w w'/\(match r with
  |none=>e=a? (d? #[g? #[jK 0,jM],jJ 160])
  |some (b,l)=>∃A c,e=a? (d? #[g? #[jK b,jN A l c],jJ 0])/\w'.ownsRow w 59 4 (b? A l.length c) l.length (l.flatMap nE))
variable{n:O}
def Tu{off cap:O}(c:0<n)(a:n<=cap)(e:1<cap)(w:jC):(gI 53 (b? (bH b off) n cap) (M (c? o? 1)) Z Z).run Tryz.prog w=.ok (b? (M ⟨b,off+4,Z⟩) (n-1) (cap-1)) w:=by
 have d:¬cap=1:=jS;simp[gI,go_sem,bi8 Tryz.underlying53,Instr.sliceBounds,d,c,a];intro h;omega
def tY{g:O}{t:jH}{cs:E jD}(h:jR w g t cs.toArray):Rd w w (aC g) cs:=λ_=>⟨g,0,rfl,h.lt,λj u a=>by rw[au,h.cell];simpa using a⟩
def Rd.ae5{off:O}{xs:E jD}(h:Rd w B (bH b off) xs):Rd w B (M ⟨b,off+k,Z⟩) (xs.drop k):=λf=>by
 obtain⟨l,a,e,g,c⟩:=h (by rintro rfl;simp at f)
 cases e
 exact⟨b,off+k,rfl,g,λj u d=>by rw[gW];exact c _ u (by rw[<-d,fL])⟩
variable{r:w? (I×E mV)}
def pQ.no(h:r=Z)(a:Below w w w'):pQ w r (a? (d? #[g? #[jK 0,jM],jJ 160])) w':=⟨a,by rw[h]⟩
variable{b:I}{A:w? jG}
def pQ.yes{c:O}(h:r=M (b,l))(e:n=l.length)(d:Below w w w')(a:w'.ownsRow w 59 4 (b? A n c) n (l.flatMap nE)):pQ w r (a? (d? #[g? #[jK b,b? A n c],jJ 0])) w':=⟨d,by rw[h];subst e;exact⟨A,c,rfl,a⟩⟩
def Es(a:∀x∈l,qL x/\x.text.size<=1000):U (kO l):=by
 unfold kO
 cases h:l.getLast? with
 |none=>exact⟨by show(0:I)<=0;omega,by show(0:I)<=_;omega⟩
 |some x=>exact(a x (List.mem_of_getLast? h)).1.seq
def Mj(c:U b)(a:∀x∈l,qL x/\x.text.size<=1000):U (pH b l):=by
 unfold pH
 cases h:l.getLast? with
 |none=>exact c
 |some x=>exact(a x (List.mem_of_getLast? h)).1.sum
def RZ(x:mV):∀u∈nE x,u.oneCell'=t?:=λu a=>by
 simp[nE]at a;rcases a with rfl|rfl|rfl|rfl<;>rfl
def Oq(l:E mV):∀u∈l.flatMap nE,u.oneCell'=t?:=λu a=>by
 obtain⟨x,_,h⟩:=ir.1 a;exact RZ x u h
def Bq(ka kb b at_:I)(d:v?)(A:w? jG)(l:E mV)(cap:O)(hl:l.length<=1000)(hcap:l.length<=cap)(hb:U b)(ha:U at_)(ht:d.size<=1000)(hf:∀x∈l,qL x/\x.text.size<=1000)(w:jC)(hS:Eb w w.heap.size A l):jE Tryz.prog 92 #[g? #[c? n? ka,c? n? kb],g? #[c? n? b,b? A l.length cap],c? n? at_,f? d] w (pQ w (ru ka kb b l at_ d)):=by
 have HS:=ah hS;have HF:=ah hf;have HLU:=ah (Es hf);have HHU:=ah (Mj hb hf);have QR:=ah (Lm ka kb b A l cap hl hb hf);have QL:=ah (last_any b A l cap hl);have QH:=ah (Rq b A l cap hl);have QS:=ah (λc x h1 h2 h3=>IG ka kb c x h1 h2 h3);have SV:Hid (jR (((w.alloc (aR ka kb)).alloc (rU 44 b A l cap)).alloc (m? bN 113)) w 24 #[jK ka,jK kb]/\jR (((w.alloc (aR ka kb)).alloc (rU 44 b A l cap)).alloc (m? bN 113)) (w.heap.size+1) 113 #[jK b,jN A l cap]/\jR (((w.alloc (aR ka kb)).alloc (rU 44 b A l cap)).alloc (m? bN 113)) (aN w) 113 bN/\Below w w (((w.alloc (aR ka kb)).alloc (rU 44 b A l cap)).alloc (m? bN 113))):=by
  have e1:(w.alloc (aR ka kb)).heap.size=w.heap.size+1:=lV;have e2:((w.alloc (aR ka kb)).alloc (rU 44 b A l cap)).heap.size=w.heap.size+1+1:=lV;have h1:=jR.new (w.alloc (aR ka kb)) 113 #[jK b,jN A l cap];have h2:=jR.new ((w.alloc (aR ka kb)).alloc (rU 44 b A l cap)) 113 bN;rw[e1]at h1;rw[e2]at h2;exact⟨((jR.new w _ _).alloc _).alloc _,h1.alloc _,h2,jP (jP (jP (jQ w) _) _) _⟩
 obtain⟨i0,ω,χ,Θ,ψ⟩:=bi5 Tryz.Md;generalize hAF:ru ka kb b l at_ d=af at*;have WC:=ah hAF;clear hAF hS hf hb;go_in;go_wp2_with fail;generalize(((w.alloc (aR ka kb)).alloc (rU 44 b A l cap)).alloc (m? bN 113))=W0 at*;obtain⟨hk,hg,hr,hbb⟩:=SV.out;have D:=ai hk;have C:=ai hg;have f:=ai hr;have g:=ai hbb;clear SV hk hg hr hbb;have N:=D.cell 0;have L:=D.cell 1;have J:=C.cell 0;have H:=C.cell 1;have r0:=f.cell 0;have r1:=f.cell 1;simp only[bh,bm,bo]at N L J H r0 r1;have yk:=D.lt;have yg:=C.lt;have yr:=f.lt;have fz:∀i,W0.frozen? ⟨w.heap.size+1+1,i,Z⟩=u?:=λi=>f.frozen i;go_wp2_with fail;refine(QR W0 (HS.later g)).mono ?_;rintro e w1⟨rfl,θ⟩;replace D:=ah (D.later θ);replace C:=ah (C.later θ);replace f:=ah (f.later θ);replace g:=ah (g.trans (θ.mono g.size));clear θ QR;clear N L J H r0 r1 yk yg yr fz;have N:=D.cell 0;have L:=D.cell 1;have J:=C.cell 0;have H:=C.cell 1;have r0:=f.cell 0;have r1:=f.cell 1;simp only[bh,bm,bo]at N L J H r0 r1;have yk:=D.lt;have yg:=C.lt;have yr:=f.lt;have fz:∀i,w1.frozen? ⟨w.heap.size+1+1,i,Z⟩=u?:=λi=>f.frozen i
 cases Γ:qN ka kb b l with
 |false=>
  have HN:Hid (af=Z):=by show _=_;rw[<-WC,ru,Γ];rfl
  have G:=sD (x:=c? n? 0) (y:=b? Z 0 0) f;have X:=ah ((g.setCell (p:=(aG w)) (by show(aU w);omega) (c? n? 0)).setCell (p:=(bZ w)) (by show(aU w);omega) aO);go_wp2_with fail;have k0:=G.cell 0;have k1:=G.cell 1;simp only[bh,bm,bo]at k0 k1;refine jF (v:=d? #[g? bN,jJ 160]) (by simp[results,Tryz.results92,go_sem,k0,k1]) rfl (pQ.no HN X)
 |true=>
  by_cases h2:d.size<=200
  case neg=>
   have b2:decide ((200:I)<d.size)=t?:=ae;have b2':decide (200<d.size)=t?:=ae;have HN:Hid (af=Z):=by show _=_;rw[<-WC,ru,E? h2,Bool.and_false,eO,eO];rfl
   have G:=sD (x:=c? n? 0) (y:=b? Z 0 0) f;have X:=ah ((g.setCell (p:=(aG w)) (by show(aU w);omega) (c? n? 0)).setCell (p:=(bZ w)) (by show(aU w);omega) aO);go_wp2_with fail;have k0:=G.cell 0;have k1:=G.cell 1;simp only[bh,bm,bo]at k0 k1;refine jF (v:=d? #[g? bN,jJ 160]) (by simp[results,Tryz.results92,go_sem,k0,k1]) rfl (pQ.no HN X)
  have b2:decide ((200:I)<d.size)=u?:=ag;have b2':decide (200<d.size)=u?:=ag;have HTX:=ah h2;clear h2;have QL1:=ah (QL w1 (HS.later g));go_wp2_with fail;refine QL1.mono ?_;rintro e w2⟨rfl,γ⟩;replace D:=ah (D.later γ);replace C:=ah (C.later γ);replace f:=ah (f.later γ);replace g:=ah (g.trans (γ.mono g.size));clear γ QL1;clear N L J H r0 r1 yk yg yr fz;have N:=D.cell 0;have L:=D.cell 1;have J:=C.cell 0;have H:=C.cell 1;have r0:=f.cell 0;have r1:=f.cell 1;simp only[bh,bm,bo]at N L J H r0 r1;have yk:=D.lt;have yg:=C.lt;have yr:=f.lt;have fz:∀i,w2.frozen? ⟨w.heap.size+1+1,i,Z⟩=u?:=λi=>f.frozen i
  cases Ψ:(kO l==18446744073709551615)with
  |true=>
   have HN:Hid (af=Z):=by show _=_;rw[<-WC,ru,bne,Ψ];simp
   have G:=sD (x:=c? n? 0) (y:=b? Z 0 0) f;have X:=ah ((g.setCell (p:=(aG w)) (by show(aU w);omega) (c? n? 0)).setCell (p:=(bZ w)) (by show(aU w);omega) aO);go_wp2_with fail;have k0:=G.cell 0;have k1:=G.cell 1;simp only[bh,bm,bo]at k0 k1;refine jF (v:=d? #[g? bN,jJ 160]) (by simp[results,Tryz.results92,go_sem,k0,k1]) rfl (pQ.no HN X)
  |false=>
   cases W:late l at_ with
   |true=>
    have h0:0<l.length:=by
     cases l with
     |nil=>cases W
     |cons x r=>simp
    obtain⟨bb,T,hA,κ,hc⟩:=HS.at_ h0;subst hA;have q1:=(hc (l.length-1) jS).c1;have z1:=(g.cell (p:=⟨bb,T+(l.length-1)*4+1,Z⟩) κ).trans q1;have hd:decide (at_<(l[l.length-1]'jS).tm)=t?:=by
     unfold late at W;rw[fv,an jS]at W;exact W
    generalize(l[l.length-1]'jS).tm=tm at*;have ξ:decide ((0:I)<l.length)=t?:=ae;have ν:decide (0<l.length)=t?:=F? h0;have hw:IntKind.i64.wrap ((l.length:I)-1)=((l.length-1:O):I):=by rw[dv _ jS];omega
    have hj1:(0:I)<=((l.length-1:O):I):=jS;have Ω:((l.length-1:O):I)<(l.length:I):=jS;have zb:bb<w2.heap.size:=by have:=g.size;omega
    clear q1 hc;have HN:Hid (af=Z):=by show _=_;rw[<-WC.out,ru,W];simp
    have G:=sD (x:=c? n? 0) (y:=b? Z 0 0) f.out;have X:=ai ((g.out.setCell (p:=(aG w)) (by show(aU w);omega) (c? n? 0)).setCell (p:=(bZ w)) (by show(aU w);omega) aO);go_wp2_with fail;have k0:=G.cell 0;have k1:=G.cell 1;simp only[bh,bm,bo]at k0 k1;refine jF (v:=d? #[g? bN,c? o? 160]) (by simp[results,Tryz.results92,go_sem,k0,k1]) rfl (pQ.no HN.out X.out)
   |false=>
    have oH:Hid (af=M (if l.length=30 then((l.head?.map (·.sum)).getD 0,l.tail++[newE ka kb b l at_ d])else(b,l++[newE ka kb b l at_ d]))):=by
     show _=_;rw[<-WC.out,ru,Γ,bne,Ψ,W,F? HTX.out];rfl
    have OT:Hid (newE ka kb b l at_ d=⟨kO l+1,at_,d,qC ka kb (pH b l) ⟨kO l+1,at_,d,0⟩⟩):=rfl;have hu2:kO l+1<=18446744073709551615:=by have:=HLU.2;have:=ne_of_beq_false Ψ;omega
    have hu1:0<=kO l+1:=by have:=HLU.1;omega
    have hwl:IntKind.u64.wrap (kO l+1)=kO l+1:=gC _ ⟨hu1,hu2⟩;clear Γ WC;obtain⟨hgd,hgd'⟩:True/\True:=⟨trivial,trivial⟩;have SR:Hid (l.length=0\/∃(bb T:O)(tm:I),Hid (l.length≠0)/\A=M ⟨bb,T,Z⟩/\bb<w.heap.size/\w.cell? ⟨bb,T+(l.length-1)*4+1,Z⟩=M (c? n? tm)/\decide (at_<tm)=u?):=by
     by_cases h0:l.length=0
     .exact r? h0
     obtain⟨bb,T,hA,κ,hc⟩:=HS.at_ jS;refine s? ⟨bb,T,_,h0,hA,κ,(hc (l.length-1) (by omega)).c1,?_⟩;unfold late at W;rw[fv,an (by omega)]at W;exact W
    clear W hgd hgd';rcases SR.out with h0|⟨bb,T,tm,Zn,hA,κ,q1,hd⟩
    case' inl=>
     have ξ:decide ((0:I)<(l.length:I))=u?:=E? jS;have ν:decide (0<l.length)=u?:=E? jS;clear h0 SR;have Ξ:=ah (QL w2 (HS.later g));go_wp2_with fail;clear ξ ν
    case' inr=>
     subst hA;have z1:=(g.cell (p:=⟨bb,T+(l.length-1)*4+1,Z⟩) κ).trans q1;have ξ:decide ((0:I)<l.length)=t?:=F? (by
      have:=Zn.out;omega)
     have ν:decide (0<l.length)=t?:=F? (by
      have:=Zn.out;omega)
     have hw:IntKind.i64.wrap ((l.length:I)-1)=((l.length-1:O):I):=by rw[dv _ jS];have:=Zn.out;omega
     have hj1:(0:I)<=((l.length-1:O):I):=jS;have Ω:((l.length-1:O):I)<(l.length:I):=by have:=Zn.out;omega
     have zb:bb<w2.heap.size:=by have:=g.size;omega
     clear q1 SR;have Ξ:=ah (QL w2 (HS.later g));go_wp2_with fail;clear z1 ξ ν hw hj1 Ω zb hd;generalize(M (⟨bb,T,Z⟩:jG))=A at*
    all_goals
     refine Ξ.mono ?_;rintro e R⟨rfl,ε⟩;replace D:=ah (D.later ε);replace C:=ah (C.later ε);replace f:=ah (f.later ε);replace g:=ah (g.trans (ε.mono g.size));clear ε Ξ;clear N L J H r0 r1 yk yg yr fz;have N:=D.cell 0;have L:=D.cell 1;have J:=C.cell 0;have H:=C.cell 1;have r0:=f.cell 0;have r1:=f.cell 1;simp only[bh,bm,bo]at N L J H r0 r1;have yk:=D.lt;have yg:=C.lt;have yr:=f.lt;have fz:∀i,R.frozen? ⟨w.heap.size+1+1,i,Z⟩=u?:=λi=>f.frozen i;have z:=ah (jR.new R 59 (oZ 20 l at_ d));have hx3:w.heap.size+1+1<R.heap.size:=f.lt;replace g:=ah (g.alloc g.size (m? (oZ 20 l at_ d) 59));replace D:=ah (D.alloc (m? (oZ 20 l at_ d) 59));replace C:=ah (C.alloc (m? (oZ 20 l at_ d) 59));replace f:=ah (f.alloc (m? (oZ 20 l at_ d) 59));go_wp2_with fail;generalize R.alloc (m? (oZ 20 l at_ d) 59)=V at*;clear N L J H r0 r1 yk yg yr fz;have N:=D.cell 0;have L:=D.cell 1;have J:=C.cell 0;have H:=C.cell 1;have m0:=z.cell 0;have m1:=z.cell 1;have m2:=z.cell 2;have m3:=z.cell 3;simp only[bh,bm,bo]at N L J H m0 m1 m2 m3;refine kG (S:=λw9=>w9.cell? (lz 43 w)=M (c? n? ka)/\w9.cell? ⟨w,1,Z⟩=M (c? n? kb)/\w9.cell? (aE w)=M (c? n? b)/\w9.cell? (bS w)=M (b? A l.length cap)/\w9.cell? (lz 43 R)=M (c? n? (kO l+1))/\w9.cell? ⟨R,1,Z⟩=M (c? n? at_)/\w9.cell? ⟨R,2,Z⟩=M (f? d)/\w9.cell? ⟨R,3,Z⟩=M (c? n? 0)) (s:=6) oo ?_;refine sU ⟨N,L,J,H,m0,m1,m2,m3⟩ ?_;replace D:Hid (jR V.drew w 24 #[jK ka,jK kb]):=D;replace C:Hid (jR V.drew (w.heap.size+1) 113 #[jK b,jN A l cap]):=C;replace f:Hid (jR V.drew (aN w) 113 bN):=f;replace z:Hid (jR V.drew R 59 (oZ 20 l at_ d)):=z;replace g:=ah g.drew;clear N L J H m0 m1 m2 m3;generalize V.drew=V2 at*;have QH1:=ah (QH V2 (HS.later g));refine oY 2 λK hK=>?_;go_simp;refine QH1.mono ?_;rintro e w4⟨rfl,α⟩;replace D:=ah (D.later α);replace C:=ah (C.later α);replace f:=ah (f.later α);replace z:=ah (z.later α);replace g:=ah (g.trans (α.mono g.size));clear α QH1;have N:=D.cell 0;have L:=D.cell 1;have J:=C.cell 0;have H:=C.cell 1;have m0:=z.cell 0;have m1:=z.cell 1;have m2:=z.cell 2;have m3:=z.cell 3;simp only[bh,bm,bo]at N L J H m0 m1 m2 m3;refine hK.out _ _ (λ_=>⟨N,L,J,H,m0,m1,m2,m3⟩) ?_;clear hK K;refine az ?_;have Zh:=ah (QS (pH b l) ⟨kO l+1,at_,d,0⟩ HHU ⟨⟨hu1,hu2⟩,ha,⟨by show(0:I)<=0;omega,by show(0:I)<=_;omega⟩⟩ ht w4);unfold Hw at Zh;simp only at Zh;refine oY 4 λK hK=>?_;go_simp;refine Zh.mono ?_;rintro e w5⟨rfl,β⟩;clear N L J H m0 m1 m2 m3;replace D:=ah (D.later β);replace C:=ah (C.later β);replace f:=ah (f.later β);replace z:=ah (z.later β);replace g:=ah (g.trans (β.mono g.size));clear β Zh;have N:=D.cell 0;have L:=D.cell 1;have J:=C.cell 0;have H:=C.cell 1;have m0:=z.cell 0;have m1:=z.cell 1;have m2:=z.cell 2;have m3:=z.cell 3;simp only[bh,bm,bo]at N L J H m0 m1 m2 m3;refine hK.out _ _ (λ_=>⟨N,L,J,H,m0,m1,m2,m3⟩) ?_;clear hK K;refine az ?_;generalize hsm:qC ka kb (pH b l) ⟨kO l+1,at_,d,0⟩=sm at*;have zx:=z.lt;have fx:∀i,w5.frozen? ⟨R,i,Z⟩=u?:=λi=>z.frozen i;refine sU ⟨N,L,J,H,m0,m1,m2,m3⟩ ?_;refine oY 6 λK hK=>?_;go_simp;refine hK.out _ _ (λh=>qch) ?_;clear hK K;refine az ?_;refine yi ?_;replace z:=z.kY 3 (c? n? sm);simp only[bd,ak,am]at z;replace z:=ah z;replace D:=ah (D.far (p:=⟨R,3,Z⟩) (by show w.heap.size≠R.heap.size;omega) (c? n? sm));replace C:=ah (C.far (p:=⟨R,3,Z⟩) (by show w.heap.size+1≠R.heap.size;omega) (c? n? sm));replace f:=ah (f.far (p:=⟨R,3,Z⟩) (by show w.heap.size+1+1≠R.heap.size;omega) (c? n? sm));replace g:=ah (g.setCell (p:=⟨R,3,Z⟩) (by show w.heap.size<=R.heap.size;omega) (c? n? sm));clear N L J H m0 m1 m2 m3 zx fx;go_wp2_with fail;generalize w5.setCell ⟨R,3,Z⟩ (c? n? sm)=V5 at*;have J:=C.cell 0;have H:=C.cell 1;simp only[bh,bm,bo]at J H;refine bi1 (S:=λw9=>w9.cell? (aE w)=M (c? n? b)/\w9.cell? (bS w)=M (b? A l.length cap)) oo ⟨J,H⟩ (λm=>?_);refine re m ?_;refine hdn ?_;clear m;replace f:Hid (jR V5.drew (aN w) 113 bN):=f;replace z:Hid (jR V5.drew R 59 #[jK (kO l+1),jK at_,jL d,jK sm]):=z;replace g:=ah g.drew;clear J H D C;generalize V5.drew=V6 at*;generalize kO l+1=sq at*;by_cases μ:l.length=30
     case' neg=>
      have z30:((l.length:I)==30)=u?:=J? jS;have ZE:(l.length==30)=u?:=J? jS;have Ww:Hid (af=M (b,l++[newE ka kb b l at_ d])):=by show _=_;rw[oH,A? μ]
      have td:Hid (Rd w w A (l.flatMap nE)):=HS;go_wp2_with fail;clear z30 ZE μ oH HS;generalize b=bq at*;generalize hnq:l.length=nq at*;have Te:=ah hnq;clear hnq;generalize cap=cq at*;generalize A=Aq at*;generalize l=lq at*;generalize V6=V7 at*
     case' pos=>
      have z30:((l.length:I)==30)=t?:=beq_iff_eq.2 jS;have ZE:(l.length==30)=t?:=beq_iff_eq.2 μ;obtain⟨b9,Ai,e9,av3,hc9⟩:=HS.at_ jS;subst e9;have q3:=(hc9 0 jS).c3;simp only[fh,ip]at q3;have HH:Hid ((l.head?.map (·.sum)).getD 0=(l[0]'jS).sum):=by
       show _=_;rw[List.head?_eq_getElem?,an jS];rfl
      have ρ:∃s0,s0=(l[0]'jS).sum:=⟨_,rfl⟩;obtain⟨bq,ρ⟩:=ρ;rw[<-ρ]at q3 HH;clear ρ hc9;have kS:=Tu (b:=b9) (off:=Ai) (n:=l.length) (cap:=cap) jS hcap jS;have td:Hid (Rd w w (M ⟨b9,Ai+4,Z⟩) (l.tail.flatMap nE)):=by
       have h:=Rd.ae5 (k:=4) HS;have e:(l.flatMap nE).drop 4=l.tail.flatMap nE:=by
        cases l with
        |nil=>rfl
        |cons x r=>rfl
       rwa[e]at h
      have Te:Hid (l.tail.length=l.length-1):=List.length_tail;have Ww:Hid (af=M (bq,l.tail++[newE ka kb b l at_ d])):=by show _=_;rw[oH,B? μ,HH]
      obtain⟨nq,Δ⟩:∃n1,n1=l.length-1:=⟨_,rfl⟩;obtain⟨cq,hc1⟩:∃c1,c1=cap-1:=⟨_,rfl⟩;rw[<-Δ,<-hc1]at kS;rw[<-Δ]at Te;have zq:=(g.cell (p:=⟨b9,Ai+3,Z⟩) av3).trans q3;have Y:(0:I)<l.length:=jS;have hn2:nq<=1000:=jS;have hn3:nq<=cq:=jS;have hn4:l.length=nq+1:=jS;clear μ Δ hc1 hn4;go_wp2;refine bi1 (S:=λw9=>w9.cell? ⟨b9,Ai+3,Z⟩=M (c? n? bq)) oo zq (λm=>?_);refine bk5 (i:=0) (v:=b? (bH b9 Ai) l.length cap) rfl oo oo oo (λ_ _ _ h=>h) (ge ⟨by rfl,?_⟩) m ?_
      ·(intro w F;(try dsimp only at F);go_simp;try(intro t;rw[t]at Y;simp at Y))
      refine az ?_;refine bk5 (i:=1) (v:=e? (bH b9 Ai)) rfl oo oo oo (λ_ _ _ h=>h) (ge ⟨by rfl,?_⟩) m ?_
      ·(intro w F;(try dsimp only at F);go_simp;try(intro t;rw[t]at Y;simp at Y))
      refine az ?_;refine bk5 (i:=2) (v:=e? (M ⟨b9,Ai+3,Z⟩)) rfl oo oo oo (λ_ _ _ h=>h) (ge ⟨by rfl,?_⟩) m ?_
      ·(intro w F;(try dsimp only at F);go_simp;try(intro t;rw[t]at Y;simp at Y))
      refine az ?_;refine bk5 (i:=3) (v:=c? n? bq) rfl oo oo oo (λ_ _ _ h=>h) (ge ⟨by rfl,?_⟩) m ?_
      ·(intro w F;(try dsimp only at F);go_simp;try(intro t;rw[t]at Y;simp at Y))
      refine az ?_;refine bk5 (i:=4) (v:=b? (bH b9 Ai) l.length cap) rfl oo oo oo (λ_ _ _ h=>h) (ge ⟨by rfl,?_⟩) m ?_
      ·(intro w F;(try dsimp only at F);go_simp;try(intro t;rw[t]at Y;simp at Y))
      refine az ?_;refine bk5 (i:=5) (v:=b? (M ⟨b9,Ai+4,Z⟩) nq cq) rfl oo oo oo (λ_ _ _ h=>h) (ge ⟨by rfl,?_⟩) m ?_
      ·(intro w F;(try dsimp only at F);go_simp;try(intro t;rw[t]at Y;simp at Y))
      refine az ?_;refine bk5 (i:=6) (v:=c? n? bq) rfl oo oo oo (λ_ _ _ h=>h) (ge ⟨by rfl,?_⟩) m ?_
      ·(intro w F;(try dsimp only at F);go_simp;try(intro t;rw[t]at Y;simp at Y))
      refine az ?_;refine bk5 (i:=7) (v:=b? (M ⟨b9,Ai+4,Z⟩) nq cq) rfl oo oo oo (λ_ _ _ h=>h) (ge ⟨by rfl,?_⟩) m ?_
      ·(intro w F;(try dsimp only at F);go_simp;try(intro t;rw[t]at Y;simp at Y))
      refine az ?_;refine hdn ?_;clear m;replace f:Hid (jR V6.drew (aN w) 113 bN):=f;replace z:Hid (jR V6.drew R 59 #[jK sq,jK at_,jL d,jK sm]):=z;replace g:=ah g.drew;clear zq kS q3;generalize V6.drew=V7 at*;go_wp2_with fail;generalize(M (⟨b9,Ai+4,Z⟩:jG))=Aq at*;generalize l.tail=lq at*
     all_goals
      obtain⟨cN,hcN⟩:∃c:O,c=nq+1:=⟨_,rfl⟩;obtain⟨w6,hmk,ho0,η⟩:=bk8 (P:=Tryz.prog) V7 V7 53 59 i0 _ 4 Tryz.underlying53 ω χ Θ o? o? cN jS (by rw[ψ];omega) O0 aa;rw[show(cN:I)=(nq:I)+1 by omega]at hmk;have hV:R.heap.size<V7.heap.size:=z.lt;have hBW:=g.size;replace z:=ah (z.grown η lV);replace f:=ah (f.grown η lV);replace g:=ah (g.grown η hBW (λq e=>LS));have HO:=ah ho0;have hz6:=η.size;clear ho0 η hcN;generalize V7.heap.size=sV at*;go_simp;go_wp2_with(first
       |(at_builtin;refine kr _ rfl (.tmp 76) (.tmp 77) 53 rfl sV 59 i0 _ 4 40 Tryz.underlying53 ω χ Θ ψ rfl B8 _ 0 _ rfl HO _ _ (nq) (cq) (lq.flatMap nE) rfl (by rw[qA Be,Te]<;>omega) (Rd.below (td) g) (Oq _) O0 jS jS ?_;intro v1 w7 ho1 δ _;replace z:=ah (z.grown δ (λe=>by have:=qp HO _ e.symm;omega));replace f:=ah (f.grown δ (λe=>by have:=qp HO _ e.symm;omega));replace g:=ah (g.grown δ g.size (λj e=>by have:=qp HO j e;omega));have hz7:=δ.size;replace HO:=ah ho1;clear ho1 δ;have m0:=z.cell 0;have m1:=z.cell 1;have m2:=z.cell 2;have m3:=z.cell 3;simp only[bh,bm,bo]at m0 m1 m2 m3;have zx:=z.lt)
       |(at_builtin;refine kr _ rfl (.tmp 79) (.tmp 81) 53 rfl sV 59 i0 _ 4 40 Tryz.underlying53 ω χ Θ ψ rfl B8 v1 _ _ rfl (HO.alloc _) _ _ 1 1 [jK sq,jK at_,jL d,jK sm] rfl rfl (tY (jR.new w7 _ #[jK sq,jK at_,jL d,jK sm])) (λu hu=>by simp at hu;rcases hu with rfl|rfl|rfl|rfl<;>rfl) O0 jS mO ?_;intro v2 w8 ho2 φ _;replace f:=ah ((f.alloc (m? #[jK sq,jK at_,jL d,jK sm] 59)).grown φ (λe=>by have:=qp HO _ e.symm;omega));replace g:=ah ((g.alloc g.size (m? #[jK sq,jK at_,jL d,jK sm] 59)).grown φ (by have:=g.size;simp;omega) (λj e=>by have:=qp HO j e;omega));replace HO:=ah ho2;clear ho2 φ m0 m1 m2 m3 zx;obtain⟨gg,cc,rfl,hgg,_,_⟩:=Qh HO jS;have r0:=f.cell 0;have r1:=f.cell 1;simp only[bh,bm,bo]at r0 r1;have yr:=f.lt;have fz:∀i,w8.frozen? ⟨w.heap.size+1+1,i,Z⟩=u?:=λi=>f.frozen i)
       |fail)
      have e0:0+(nq)+1=nq+1:=jS;rw[e0]at HO;have G:=sD (x:=c? n? bq) (y:=b? (aC gg) (nq+1) cc) f;have X:=ah ((g.setCell (p:=(aG w)) (by show(aU w);omega) (c? n? bq)).setCell (p:=(bZ w)) (by show(aU w);omega) (b? (aC gg) (nq+1) cc));have HOF:=(bj0 (bj0 HO (a:=(aG w)) (by simp[gy];omega) (c? n? bq)) (a:=(bZ w)) (by simp[gy];omega) (b? (aC gg) (nq+1) cc));have k0:=G.cell 0;have k1:=G.cell 1;simp only[bh,bm,bo]at k0 k1;refine jF (v:=d? #[g? #[jK bq,b? (aC gg) (nq+1) cc],jJ 0]) (by simp[results,Tryz.results92,go_sem,k0,k1]) rfl (pQ.yes Ww (by rw[cd,Te];rfl) X ?_);have e:=own_base HOF (B:=w.heap.size) jS;rw[OT];simpa[eZ,nE]using e
structure GL(ka kb b:I)(l:E mV):Prop where
 bU:U b
 ok:qN ka kb b l=t?
 fit:∀x∈l,qL x/\x.text.size<=200
def GL.len(h:GL ka kb b l):l.length<=30:=by
 have:=h.ok;unfold qN at this;simp only[ba,D?]at this;exact this.1
def GL.new(ka kb:I):GL ka kb 0 []:=⟨⟨by show(0:I)<=0;omega,by show(0:I)<=_;omega⟩,by simp[qN],λ_ h=>WY⟩
def vn:∀(l:E mV)(p:w? mV)(x:mV),lT p l=t?->sO (match l.getLast? with|none=>p|some y=>M y) x=t?->lT p (l++[x])=t?
 |[],p,x,_,h=>by simpa[lT]using h
 |y::l,p,x,h,k=>by
  simp only[lT,ba]at h;simp only[dj,lT,ba];refine⟨h.1,vn l (M y) x h.2 ?_⟩
  cases l with
  |nil=>simpa using k
  |cons z l=>rw[fj]at k;cases a:(z::l).getLast? with
   |none=>simp at a
   |some q=>rw[a]at k;exact k
def vy(ka kb:I):∀(l:E mV)(b:I)(x:mV),m5 ka kb b l=t?->x.sum=qC ka kb (pH b l) x->m5 ka kb b (l++[x])=t?
 |[],b,x,_,h=>by simp[m5,pH]at h⊢;exact h
 |y::l,b,x,h,k=>by
  simp only[m5,ba,beq_iff_eq]at h;simp only[dj,m5,ba,beq_iff_eq];refine⟨h.1,vy ka kb l y.sum x h.2 ?_⟩;rw[k];congr 1;unfold pH
  cases l with
  |nil=>simp
  |cons z l=>
   rw[fj]
   cases a:(z::l).getLast? with
   |none=>simp at a
   |some q=>rfl
def Jm{x:mV}:lT (M x) l=t?->lT Z l=t?:=λh=>by
 cases l with
 |nil=>rfl
 |cons y l=>
  simp only[lT,sO,ba]at h⊢;exact⟨⟨h.1.1,trivial⟩,h.2⟩
def UC(ka kb b s t:I)(x:v?)(m n:I):qC ka kb b ⟨s,t,x,m⟩=qC ka kb b ⟨s,t,x,n⟩:=by unfold qC Ca;rfl
def Wj{at_:I}{a:v?}(h:GL ka kb b l)(ha:U at_)(z:a.size<=200)(G:late l at_=u?)(hm:kO l<18446744073709551615):∃T t,ru ka kb b l at_ a=M (T,t)/\GL ka kb T t/\late t at_=u?/\kO t=kO l+1/\t.getLast?=M (newE ka kb b l at_ a):=by
 have D:(kO l !=18446744073709551615)=t?:=mO;have w:=h.len;have o:∀x∈l,qL x/\x.text.size<=1000:=λx N=>⟨(h.fit x N).1,by have:=(h.fit x N).2;omega⟩;have F:=Es o;have Y:=Mj h.bU o;have g:=h.ok;have p:qL (newE ka kb b l at_ a)/\(newE ka kb b l at_ a).text.size<=200:=⟨⟨⟨by have:=F.1;show 0<=kO l+1;omega,by show kO l+1<=_;omega⟩,ha,UD _ _ _ _⟩,z⟩;have m:∀y,l.getLast?=M y->n9 y (newE ka kb b l at_ a)=t?:=λy d=>by
  have e:kO l=y.seq:=by unfold kO;rw[d]
  have e2:late l at_=decide (at_<y.tm):=by unfold late;rw[d]
  rw[e2]at G;simp only[decide_eq_false_iff_not]at G;have X:(newE ka kb b l at_ a).seq=kO l+1:=rfl;have e4:(newE ka kb b l at_ a).tm=at_:=rfl;simp only[n9,ba,D?,beq_iff_eq,X,e4];exact⟨jS,jS,jS⟩
 have j:(newE ka kb b l at_ a).sum=qC ka kb (pH b l) (newE ka kb b l at_ a):=by
  obtain⟨n,V⟩:∃n,qC ka kb (pH b l) ⟨kO l+1,at_,a,0⟩=n:=⟨_,rfl⟩;have e:newE ka kb b l at_ a=⟨kO l+1,at_,a,n⟩:=by unfold newE;rw[V]
  rw[e,<-V];exact UC _ _ _ _ _ _ _ _
 unfold ru;rw[B? (by simp[g,z,D,G])];have c:∀q:E mV,(q++[newE ka kb b l at_ a]).getLast?=M (newE ka kb b l at_ a):=λq=>lV;have K:∀q:E mV,late (q++[newE ka kb b l at_ a]) at_=u?:=λq=>by unfold late;rw[c];simp[newE]
 have J:∀q:E mV,kO (q++[newE ka kb b l at_ a])=kO l+1:=λq=>by unfold kO;rw[c];rfl
 unfold qN at g;simp only[ba,D?]at g;split
 .rename_i k;obtain⟨x,r,rfl⟩:∃x r,l=x::r:=by cases l with
   |nil=>simp at k
   |cons x r=>exact⟨x,r,rfl⟩
  refine⟨_,_,rfl,⟨by simp;exact(h.fit x lV).1.sum,?_,λy d=>?_⟩,K _,J _,c _⟩
  .have v:=g.2;simp only[ba,D?,ft,lT,m5,beq_iff_eq,bne_iff_ne]at v;obtain⟨⟨Q,R⟩,⟨W,L⟩,s5,s6⟩:=v;obtain⟨y,f,rfl⟩:∃y f,r=y::f:=by cases r with
    |nil=>simp at k
    |cons y f=>exact⟨y,f,rfl⟩
   have H:=L;simp only[lT,sO,ba,D?,n9,beq_iff_eq]at H;have C:lT Z ((y::f)++[newE ka kb b (x::y::f) at_ a])=t?:=by
    refine vn _ Z _ (Jm L) ?_;have:(y::f).getLast?=(x::y::f).getLast?:=(fj ..).symm;rw[this]
    cases s:(x::y::f).getLast? with
    |none=>simp at s
    |some q=>
     simp only[sO,ba,D?];exact⟨z,m q s⟩
   have B:m5 ka kb x.sum ((y::f)++[newE ka kb b (x::y::f) at_ a])=t?:=by
    refine vy ka kb _ _ _ s6 ?_;rw[j];have e:pH b (x::y::f)=pH x.sum (y::f):=by
     unfold pH;rw[fj]
     cases s:(y::f).getLast? with
     |none=>simp at s
     |some q=>rfl
    rw[e]
   unfold qN;simp only[List.tail_cons,List.head?_cons,jb,jz,dj,ba,D?,ft,bne_iff_ne,beq_iff_eq];refine⟨by simp at k⊢;omega,⟨jS,r? jS⟩,C,B⟩
  rcases ed.1 d with d|d
  .exact h.fit y (List.mem_of_mem_tail d)
  simp at d;rw[d];exact p
 rename_i k;refine⟨_,_,rfl,⟨h.bU,?_,λy d=>?_⟩,K _,J _,c _⟩
 .cases l with
  |nil=>
   have A:b=0:=by simpa using g.2
   have H:(newE ka kb b [] at_ a).seq=1:=rfl;unfold qN;simp only[dz,c_,dp,ba,D?,ft,bne_iff_ne,beq_iff_eq,lT,sO,m5,H];exact⟨jS,⟨jS,s? A⟩,⟨⟨z,trivial⟩,trivial⟩,j,trivial⟩
  |cons x r=>
   have v:=g.2;simp only[ba,D?]at v;obtain⟨Q,R,W⟩:=v;unfold qN;simp only[dj,ba,D?];refine⟨by simp at k w⊢;omega,Q,?_,?_⟩
   .refine vn (x::r) Z _ R ?_
    cases s:(x::r).getLast? with
    |none=>simp at s
    |some q=>
     simp only[sO,ba,D?];exact⟨z,m q s⟩
   exact vy ka kb (x::r) b _ W j
 rcases ed.1 d with d|d
 .exact h.fit y d
 simp at d;rw[d];exact p
noncomputable def mw(s:v?):z?:=(Sc.lU (tx s)).isSome
noncomputable def nX(s:v?)(l:E kI):z?:=match Sc.lU (tx s)with
 |none=>u?
 |some L=>Sc.allM L l
def uk(s:v?)(hs:s.size<=100000)(w:jC)(a:Tb w):jE Tryz.prog 56 #[jL s] w λe w'=>e=a? (h? (mw s))/\Below w w w':=Sc.JD s jS w a
def CE(s:v?)(hs:s.size<=100000)(d:mw s=t?)(A:w? jG)(l:E kI)(c:O)(f:setB l=t?)(w:jC)(g:Tb w)(j:Lb w w A l):jE Tryz.prog 190 #[jL s,jN A l c] w λe w'=>e=a? (d? #[h? (nX s l),jJ 0])/\Below w w w':=by
 have h:=Sc.NC s hs A l c (by have:=(mt f).1;omega) (λx k=>by have:=(mt f).2 x k;omega) w g j;unfold mw at d
 cases a:Sc.lU (tx s)with
 |none=>rw[a]at d;cases d
 |some L=>
  rw[Sc.Gt a f (b:=nX s l) (by unfold nX;rw[a])]at h;exact h
noncomputable def uo(s:v?)(t:E mq)(k:O):z?:=nX s (((t[k]?).map (·.l)).getD [])
noncomputable def mj(s:v?)(t:E mq)(n:O):E O:=(bu n).filter (uo s t)
def Ek(s:v?)(t:E mq)(n:O):mj s t (n+1)=mj s t n++if uo s t n=t? then[n]else[]:=by
 unfold mj;rw[fV,gQ];congr 1;rw[eC];simp
def qU(s:v?)(t:E mq)(n:O):(mj s t n).length<=n:=by
 have:=fe (uo s t) (bu n);rw[fo]at this;exact this
variable{t:E mq}
def qw{s:v?}(h:k∈mj s t n):k<n:=dh.1 (eN.1 h).1
def lC(a:E O):E jD:=a.map λk:O=>(aJ k)
def Tryz.Ew:(Tryz.prog.info? 3).map (λi=>(i.zero,i.size,i.bytes))=M (M (c? o? 0),1,8):=oo
def pA(w:jC)(a:w? (E O))(e:bi6)(w':jC):Prop:=Below w w w'/\match a with
 |none=>e=a? (d? #[jM,jJ 50])
 |some a=>∃A c,e=a? (d? #[jN A a c,jJ 0])/\Rd w' w' A (lC a)/\(aX A w)
variable{r:w? (E O)}
def pA.no(h:r=Z)(a:Below w w w'):pA w r (a? (d? #[jM,jJ 50])) w':=⟨a,by rw[h]⟩
def pA.yes{a:E O}{c:O}(h:r=M a)(f:Below w w w')(d:Rd w' w' A (lC a))(e:∀b,A=M b->w.heap.size<=b.block):pA w r (a? (d? #[jN A a c,jJ 0])) w':=⟨f,by rw[h];exact⟨A,c,rfl,d,e⟩⟩
noncomputable def nj(s:v?)(t:E mq):w? (E O):=if mw s=t? then M (mj s t t.length)else Z
def L7(A:w? jG)(ms:E jZ)(cap:O)(s:v?)(hs:s.size<=100000)(w:jC)(Q:Tb w)(R:oI w A ms):jE Tryz.prog 148 #[jN A ms cap,jL s] w (pA w (nj s (ms.map (·.s)))):=by
 have Γ:=R.len;have HS:=ah R;have HT:=ah Q;have N:=ah (ql A ms cap w Q R);have K:Hid (∀w',Below w w w'->jE Tryz.prog 56 #[jL s] w' λe x=>e=a? (h? (mw s))/\Below w' w' x):=λw' h=>uk s hs w' (Q.later h);clear R Q
 cases a:mw s with
 |false=>
  have HF:Hid (nj s (ms.map (·.s))=Z):=by show _=_;unfold nj;rw[a];rfl
  rw[a]at K;clear a;go_in;go_wp2_with fail;refine N.mono ?_;rintro e w1⟨rfl,f⟩;have d:=ah f;clear f N;go_wp2_with fail;refine(K w1 d).mono ?_;rintro e w2⟨rfl,o⟩;have t:=ah (Below.two d o);go_wp2;go_ret2;exact pA.no HF t
 |true=>
  have HF:Hid (nj s (ms.map (·.s))=M (mj s (ms.map (·.s)) ms.length)):=by show _=_;unfold nj;rw[a,B? rfl,ax]
  have β:=ah a;rw[a]at K;clear a;obtain⟨i0,ν,κ,ε,μ⟩:=bi5 Tryz.Ew;go_in;go_wp2_with fail;refine N.mono ?_;rintro e w1⟨rfl,f⟩;have d:=ah f;clear f N;go_wp2_with fail;refine(K w1 d).mono ?_;rintro e w2⟨rfl,o⟩;have t:=ah (Below.two d o);clear o d K;go_wp2_with fail;go_loopw[6,19] (λv i wr=>∃k:O,i=(aJ k)/\k<=ms.length/\Hid (wr.ownsRow w 3 1 v (mj s (ms.map (·.s)) k).length (lC (mj s (ms.map (·.s)) k)))/\(bB w wr)) (λ_ i _=>(lI 34 ms i))
  case atStart=>exact⟨0,rfl,be _,dY _ _ _ _,t⟩
  obtain⟨k,rfl,hk,H,HB⟩:=hrel;by_cases X:k<ms.length
  .have d1:decide ((k:I)<ms.length)=t?:=ae;obtain⟨b,ψ,rfl,hb,hc⟩:=HS.tab.at_ jS;obtain⟨Y_,i1,i2,i3,i4,i5,i6,i7,i8,i9,θ,η⟩:=(hc k X).below HB hb;have ρ:b<wr.heap.size:=qes;have φ:(0:I)<=k:=jS;have Θ:(k:I)<ms.length:=by omega
   have HM:Hid (∀w',Below w w w'->jE Tryz.prog 190 #[jL s,b? ms[k].la ms[k].s.l.length ms[k].lc] w' λe x=>e=a? (d? #[h? (nX s ms[k].s.l),jJ 0])/\Below w' w' x):=λw' h=>CE s hs β _ _ _ (HS.gs X).set w' (HT.later h) ((HS.ok X).later h).l;have C:uo s (ms.map (·.s)) k=nX s ms[k].s.l:=by unfold uo;rw[eD,an X];rfl
   have r:=Ek s (ms.map (·.s)) k;rw[C]at r;have T:=ah r;have χ:=qU s (ms.map (·.s)) k;have ω:=HB.size;clear hc C r;generalize ms[k]=m at*;obtain⟨F,c1,rfl,Δ,-,-⟩:=li H;go_wp2_with fail;refine kf (λV=>(bJ w V)/\V.ownsRow w.heap.size 3 1 (b? F (mj s (ms.map (·.s)) k).length c1) (mj s (ms.map (·.s)) k).length (lC (mj s (ms.map (·.s)) k))) ((Hold.nil wr).alloc wr.heap.size 197 [b? m.la m.s.l.length m.lc,c? o? m.m.s.kind,c? o? m.m.s.level,b? m.m.ea m.m.s.e.length m.m.ec,c? o? m.m.s.bits,f? m.m.s.regs,c? o? m.m.s.rows,c? o? m.m.s.cols,b? m.m.ca m.m.s.c.length m.m.cc,c? o? m.m.s.fine,b? m.m.ga m.m.s.g.length m.m.gc,c? n? m.s.seen]) ⟨jP HB.out _,lf H.out (jP (jQ wr) _)⟩ (λV HV D=>?_);obtain⟨D,J⟩:=D;clear Y_ i1 i2 i3 i4 i5 i6 i7 i8 i9 θ η H HB;refine(HM V D).mono ?_;rintro e w3⟨rfl,y⟩;have n:=ah (Below.two D y);have L:=ah (lf J y);clear HV D J HM y
   cases Y:nX s m.s.l with
   |false=>
    rw[Y,A? lV,eB]at T;clear Y;go_wp2;go_roundw
    case rel=>exact⟨k+1,CJ,jS,by rw[T];exact L,n⟩
    exact No
   |true=>
    rw[Y,B? rfl]at T;clear Y;have δ:=n.size;go_wp2_with(at_builtin;refine bk3 _ rfl _ _ 52 rfl w 3 i0 (c? o? 0) 1 8 Tryz.underlying52 ν κ ε μ rfl B8 (b? F (mj s (ms.map (·.s)) k).length c1) (mj s (ms.map (·.s)) k).length _ rfl (L.alloc _) ⟨w3,0,Z⟩ 1 1 [_] rfl rfl (m7 _ _ _ _ rfl) ZO O0 jS mO ?_;intro v' W q j _);have γ:=ah (Sc.ol n L δ j);have IS:Hid (W.ownsRow w 3 1 v' (mj s (ms.map (·.s)) (k+1)).length (lC (mj s (ms.map (·.s)) (k+1)))):=by
     show gX _ _ _ _ _ _ _;rw[T,cd];simpa[lC]using q
    clear q j L n;go_wp2;go_roundw
    case rel=>exact⟨k+1,CJ,jS,IS,γ⟩
    exact No
  have ξ:k=ms.length:=jS;subst ξ;have d1:decide ((ms.length:I)<ms.length)=u?:=lV;obtain⟨F,c1,rfl,-,z,G⟩:=li H;have HR:Hid (Rd wr wr F (lC (mj s (ms.map (·.s)) ms.length))/\(aX F w)):=⟨z,G⟩;clear z G H;go_wp2;go_ret2;exact pA.yes HF HB HR.1 HR.2
structure GG(n:I)(l:E Gr):Prop where
 n1:1<=n
 nU:U n
 len:l.length<=10
 up:l.Pairwise λa b=>a.id<b.id
 all:∀x∈l,1<=x.id/\x.id<n/\U x.to/\mw x.scope=t?/\x.scope.size<=1000
noncomputable def ND(l:E Gr)(to:I)(s:E kI):z?:=l.any λx=>(x.to==to)&&nX x.scope s
noncomputable def rJ(l:E Gr)(to:I)(t:E mq)(k:O):z?:=ND l to (((t[k]?).map (·.l)).getD [])
noncomputable def lW(n:I)(l:E Gr)(to:I)(sc:v?):K? I (I×E Gr×I):=
 if mw sc=t? then(if l.length=10\/n=18446744073709551615 then .error 151 else .ok (n+1,l++[⟨n,to,sc⟩],n))else .error 50
def lr(l:E Gr)(id:I):K? I (E Gr):=match l.findIdx? (λx=>x.id==id)with
 |none=>.error 121
 |some k=>.ok (l.eraseIdx k)
def GG.new:GG 1 []:=⟨jS,⟨by show(0:I)<=1;omega,by show(1:I)<=_;omega⟩,lV,List.Pairwise.nil,λ_ h=>WY⟩
variable{l:E Gr}{sc:v?}
def Ul{n:I}{to:I}(h:GG n l)(g:U to)(hs:sc.size<=1000){r:I×E Gr×I}(e:lW n l to sc=.ok r):GG r.1 r.2.1/\U r.2.2:=by
 unfold lW at e;split at e
 .rename_i j;split at e
  .cases e
  rename_i m
  cases e
  have d:=h.nU;refine⟨⟨by have:=h.n1;dsimp only;omega,⟨by have:=h.n1;show 0<=n+1;omega,by have:=d.2;show n+1<=_;omega⟩,by have:=h.len;simp;omega,?_,λx c=>?_⟩,d⟩
  .refine il.2 ⟨h.up,lV,λa k b f=>?_⟩;simp at f;rw[f];exact(h.all a k).2.1
  rcases ed.1 c with c|c
  .have:=h.all x c;exact⟨this.1,by have:=this.2.1;dsimp only;omega,this.2.2⟩
  simp at c;rw[c];exact⟨h.n1,by dsimp only;omega,g,j,hs⟩
 cases e
def PU{n:I}{id:I}(h:GG n l){r:E Gr}(e:lr l id=.ok r):GG n r:=by
 unfold lr at e;split at e
 .cases e
 cases e
 have a:=List.eraseIdx_sublist l;refine⟨h.n1,h.nU,a_ (a _).length_le h.len,h.up.sublist (a _),λx b=>h.all x ((a _).subset b)⟩
noncomputable def kA(t:E mq)(sc:v?)(kind:I):K? I Sk:=match nj sc t with
 |none=>.error 50
 |some a=>if 1<=kind/\kind<=3 then .ok (nN t kind a (nC kind))else .error 101
noncomputable def Ay(l:E Gr)(to:I)(t:E mq)(sc:v?):w? (E O):=(nj sc t).map λa=>a.filter (rJ l to t)
noncomputable def qT(l:E Gr)(to:I)(t:E mq)(sc:v?)(kind:I):K? I Sk:=match Ay l to t sc with
 |none=>.error 50
 |some a=>if 1<=kind/\kind<=3 then .ok (nN t kind a (nC kind))else .error 101
def Gp(h:GT t){kind:I}{s:Sk}(e:kA t sc kind=.ok s):GK s/\s.kind=kind:=by
 unfold kA nj at e;split at e
 .cases e
 rename_i f a;split at a
 .cases a
  split at e
  .rename_i b
   cases e
   obtain⟨c,d,_⟩:=wj b;exact LI h _ (λk b=>qw b) c d
  cases e
 cases a
def WX{to:I}(h:GT t){kind:I}{s:Sk}(e:qT l to t sc kind=.ok s):GK s/\s.kind=kind:=by
 unfold qT Ay nj at e;split at e
 .cases e
 rename_i f a;split at a
 .cases a
  split at e
  .rename_i b
   cases e
   obtain⟨c,d,_⟩:=wj b;exact LI h _ (λk b=>qw (eN.1 b).1) c d
  cases e
 cases a
structure kM where
 tb:E mq
 gn:I
 gl:E Gr
 lb:I
 ll:E mV
 tm:I
structure lO where
 id:I
 budget:I
 life:I
 ka:I
 kb:I
structure GC(c:lO):Prop where
 id:U c.id
 b0:0<=c.budget
 b1:c.budget<=1000000
 life:U c.life
 ka:U c.ka
 kb:U c.kb
structure nH(c:lO)(T:kM):Prop where
 tb:GT T.tb
 gg:GG T.gn T.gl
 lg:GL c.ka c.kb T.lb T.ll
 tm:U T.tm
 late:late T.ll T.tm=u?
def newT:kM:=⟨[],1,[],0,[],0⟩
def ko(c:lO)(T:kM)(a:I):kM:={T with tb:=T.tb.filter (vD a c.life),tm:=a}
noncomputable def EQ{α:Type}(c:lO)(T:kM)(f:I)(d:v?)(step:kM->K? I (kM×α)):K? I (kM×α):=
 if f<T.tm then .error 140 else
 match step (ko c T f)with
 |.error e=>.error e
 |.ok (g,a)=>match ru c.ka c.kb g.lb g.ll g.tm d with
  |none=>.error 160
  |some (b,l)=>.ok ({g with lb:=b,ll:=l},a)
structure Item where
 h:I
 n:I
def mF(s:Sk)(l:E Item):Sk:=l.foldl (λs i=>wQ s i.h i.n) s
def mf(t:E mq)(l:E kI)(kind:I):Sk:=if mQ t l=t? then((t[o_ t l]?).map (·.k)).getD (nC kind)else nC kind
def uO(c:lO)(T:kM)(b:v?)(kind:I)(a:E Item):K? I (kM×E O):=
 if 50<a.length then .error 181 else
 match pE (tx b)with
 |none=>.error 40
 |some l=>
  if 1<=kind/\kind<=3 then
   if(mf T.tb l kind).kind=kind then
    if Dm T.tb l=t? then .error 120 else
    match pI c.budget 100 (CL T.tb ⟨l,mF (mf T.tb l kind) a,T.tm⟩) []with
    |none=>.error 130
    |some (t,d)=>.ok ({T with tb:=t},d)
   else .error 101
  else .error 101
noncomputable def pM(c:lO)(T:kM)(a:I)(sc:v?)(kind h:I):K? I (kM×I):=
 EQ c T a "query".toByteArray λT=>(kA T.tb sc kind).map λs=>(T,rt s h)
noncomputable def sy(c:lO)(T:kM)(a to:I)(sc:v?):K? I (kM×I):=
 EQ c T a "grant".toByteArray λT=>(lW T.gn T.gl to sc).map λr=>({T with gn:=r.1,gl:=r.2.1},r.2.2)
noncomputable def D4(c:lO)(T:kM)(a id:I):K? I (kM×Unit):=
 EQ c T a "revoke".toByteArray λT=>(lr T.gl id).map λl=>({T with gl:=l},())
noncomputable def CV(c:lO)(T:kM)(b:I)(a:v?):K? I (kM×Unit):=
 EQ c T b a λT=>.ok (T,())
end Go.Proofs.YtfcnedcahoifoaaGreatDoor
namespace Go.Proofs.YtfcnedcahoifoaaGreatDoor
variable{l:E kI}
def Pn(h:∀x∈l,x.1.size<=12/\(uE (tx x.2)).length<=120)(f:l.length<=6):(Lib.join ((l.map pG).map (·.data.toList)) [44]).length<=1000:=by
 have c:∀x∈l,(pG x).data.toList.length<=133:=λx a=>by
  obtain⟨d,b⟩:=h x a;show(tx (pG x)).length<=_;rw[lG,pG,fc,fc,zR (uE (tx x.2))];show x.1.size+1+_<=133;omega
 have:∀l:E kI,(∀x∈l,(pG x).data.toList.length<=133)->(iH [44] ((l.map pG).map (·.data.toList))).length<=134*l:=by
  intro l;induction l with
  |nil=>intro _;simp[iH]
  |cons y l e=>
   intro h;have d:=h y lV;have b:=e (λx a=>h x (by simp[a]));simp only[iH,df,List.flatten_cons,cd,c_,dp]at b⊢;omega
 cases l with
 |nil=>simp[Lib.join_nil]
 |cons y l=>
  rw[df,df,Lib.join_cons,cd];have d:=c y lV;have b:=this l (λx a=>c x (by simp[a]));simp only[c_]at f;omega
def Jh(h:setB l=t?):(qR l).length<=1000:=Pn (xo h) (mt h).1
def FT(A:w? jG)(l:E kI)(cap:O)(h:setB l=t?)(w:jC)(a:Tb w)(c:Lb w w A l):jE Tryz.prog 99 #[jN A l cap] w λe w'=>e=a? (d? #[f? ⟨(qR l).toArray⟩,jJ 0])/\Below w w w':=by
 have:=Po A l cap (λx b=>by have:=(mt h).2 x b;omega) w a c;rwa[B? h]at this
variable{k:O}
def K4{t:E mq}(h:k<t):kJ (t.take (k+1))=kJ (t.take k)+nF t[k]:=by
 unfold kJ;rw[aj h,dH,List.sum_append];simp
def Ie{s:mq}(h:GS s):0<=nF s/\nF s<=100000:=by
 have a:=h.k.fit;have f:0<=wM s.k/\wM s.k<=16000:=by
  have m:=a.e;have n:=a.c;have b:=a.g;have j:=a.regs;unfold wM;split
  .split<;>omega
  split<;>omega
 have d:(qR s.l).length<=1000:=Jh h.set;unfold nF;omega
def DX(A:w? jG)(ms:E jZ)(cap:O)(w:jC)(G:Tb w)(y:oI w A ms):jE Tryz.prog 72 #[jN A ms cap] w λe w'=>e=a? (c? o? (kJ (ms.map (·.s))))/\Below w w w':=by
 have η:=y.len;have z:=ah y;have HT:=ah G;have QR:=ah (ql A ms cap w G y);clear y G;go_in;go_wp2_with fail;refine QR.mono ?_;rintro e w1⟨rfl,o⟩;have N:=ah o;clear o QR;go_wp2_with fail;go_loopw[3,13] (λc i wr=>∃k:O,i=(aJ k)/\k<=ms/\c=c? o? (kJ ((ms.map (·.s)).take k))/\Hid (0<=kJ ((ms.map (·.s)).take k)/\kJ ((ms.map (·.s)).take k)<=100000*k)/\(bB w wr)) (λ_ i _=>(lI 34 ms i))
 case atStart=>exact⟨0,rfl,be _,by simp[kJ],by show _/\_;simp[kJ],N⟩
 obtain⟨k,rfl,hk,rfl,Y,HB⟩:=hrel;by_cases q:k<ms
 .have d1:decide ((k:I)<ms)=t?:=ae;obtain⟨b,ε,rfl,hb,hc⟩:=z.tab.at_ jS;obtain⟨i0,i1,i2,i3,i4,i5,i6,i7,i8,i9,L,K⟩:=(hc k q).below HB hb;have β:b<wr:=qes;have δ:(0:I)<=k:=jS;have θ:(k:I)<ms:=jS;have v:=z.gs q;have a:=K4 (t:=ms.map (·.s)) (k:=k) (by rw[ax];exact q);rw[gD]at a;have d:=Ie v;have Q:Hid ((kJ ((ms.map (·.s)).take (k+1))=kJ ((ms.map (·.s)).take k)+nF ms[k].s)/\0<=nF ms[k].s/\nF ms[k].s<=100000):=⟨a,d⟩;have n:Hid (∀w',Below w w w'->jE Tryz.prog 99 #[b? ms[k].la ms[k].s.l.length ms[k].lc] w' λe w''=>e=a? (d? #[f? ⟨(qR ms[k].s.l).toArray⟩,jJ 0])/\Below w' w' w''):=λw' h=>FT _ _ _ v.set w' (HT.later h) ((z.ok q).later h).l;have R:Hid (∀w',Below w w w'->jE Tryz.prog 100 #[nT ms[k].m] w' λe w''=>e=a? (c? o? (wM ms[k].s.k+16))/\Below w' w' w''):=λw' h=>by
   have D:GK ms[k].m.s:=by rw[ms[k].hk];exact v.k
   have:=NJ ms[k].m D w' ((z.ok q).later h).k;rwa[ms[k].hk]at this
  have α:((⟨(qR ms[k].s.l).toArray⟩:v?).size:I)=((qR ms[k].s.l).length:I):=by simp[iG]
  have HW:Hid (IntKind.i64.wrap (wM ms[k].s.k+16+((qR ms[k].s.l).length:I))=nF ms[k].s/\IntKind.i64.wrap (kJ ((ms.map (·.s)).take k)+nF ms[k].s)=kJ ((ms.map (·.s)).take (k+1))):=by
   obtain⟨a1,a2⟩:=Y;refine⟨dv _ ?_,?_⟩
   .have:=d;unfold nF at this;omega
   rw[a];exact dv _ jS
  clear hc v a d;generalize ms[k]=m at*
  unfold nT at R;go_wp2_with fail;refine kf (λV=>Below w w V) ((Hold.nil wr).alloc wr 197 (lz 3 m)) (jP HB _) (λV C J=>?_);clear i0 i1 i2 i3 i4 i5 i6 i7 i8 i9 L K;refine(n V J).mono ?_;rintro e w2⟨rfl,f⟩;replace C:=ah (C.call f);have g:=ah (Below.two J f);clear f J n;have x:=fk (C.facts);go_wp2_with fail;refine(R w2 g).mono ?_;rintro e w3⟨rfl,r⟩;have F:=ah (Below.two g r);clear r g R x C;obtain⟨H,W⟩:=HW;have X:(⟨(qR m.s.l).toArray⟩:v?).size=(qR m.s.l).length:=by simp[iG]
  go_wp2;go_roundw
  case rel=>exact⟨k+1,CJ,jS,by simp only[X,H,W],by obtain⟨a1,a2⟩:=Y;obtain⟨q1,q2,q3⟩:=Q;show _/\_;rw[q1];omega,F⟩
  exact No
 have T:k=(ms:O):=jS;subst T;have d1:decide ((ms:I)<ms)=u?:=lV;have Q:Hid (kJ ((ms.map (·.s)).take ms)=kJ (ms.map (·.s))):=by show _=_;rw[cl (by rw[ax];exact ay _)]
 go_wp2;go_ret;exact⟨mL Q,HB⟩
def Tx(A:Option jG)(n cap k:Nat)(e:k+1<=n)(d:n<=cap)(w:jC):(gI 108 (.slice A n cap) (some (aJ k)) (some (.int .i64 ((k:Int)+1))) none).run Tryz.prog w=.ok (.slice (pU A k cap) 1 (cap-k)) w:=by
 have a:Tryz.prog.underlying 108=some (.slice (Tryz.prog.elem 108)):=by
  have b:Tryz.prog.elem 108=197:=by simp[gR,Tryz.underlying108]
  rw[b];exact Tryz.underlying108
 rw[run_slice_lh (P:=Tryz.prog) w 108 A n cap a .i64 .i64 (k:Int) ((k:Int)+1) jS jS jS,Tryz.DS];have f:((k:Int)+1).toNat-(k:Int).toNat=1:=jS;have c:((k:Int)+1).toNat=k+1:=jS;simp[dw,sliced,pU,c]
def BR{α:Type}{l:E α}(h:k<l):(l.drop k).take 1=[l[k]]:=by
 rw[dN h];rfl
variable{w:jC}{B:O}{A:w? jG}
def Tab.one{cap:O}{ms:E jZ}(h:Tab w B A ms)(k:O)(b:k<ms)(a:ms<=cap):Tab w B (pU A k cap) [ms[k]]:=by
 have:=(h.drop k a).take 1;rwa[BR b]at this
def oI.one{w:jC}{cap:O}{A:w? jG}{ms:E jZ}(h:oI w A ms)(k:O)(a:k<ms)(b:ms<=cap):oI w (pU A k cap) [ms[k]]:=⟨h.tab.one k a b,GT.one (h.gs a)⟩
def I_(A:w? jG)(ms:E jZ)(cap:O)(g:ms<=cap)(w:jC)(X:Tb w)(Q:oI w A ms):jE Tryz.prog 142 #[jN A ms cap] w λe w'=>e=a? (d? #[jJ ((rC (ms.map (·.s))).1:O),h? (rC (ms.map (·.s))).2])/\Below w w w':=by
 have κ:=Q.len;have R:=ah Q;have HT:=ah X;have QR:=ah (ql A ms cap w X Q);have T:Hid (((nM (ms.map (·.s)) ms).1,(nM (ms.map (·.s)) ms).2.2)=rC (ms.map (·.s))):=by unfold Hid rC;rw[ax]
 clear Q X;go_in;go_wp2_with fail;refine QR.mono ?_;rintro e w1⟨rfl,H⟩;have F:=ah H;clear H QR;go_wp2_with fail;go_loopw[4,5,6,15] (λv gr fd i wr=>∃k:O,i=(aJ k)/\k<=ms/\v=c? o? ((nM (ms.map (·.s)) k).1:O)/\gr=c? o? (nM (ms.map (·.s)) k).2.1/\fd=h? (nM (ms.map (·.s)) k).2.2/\(bB w wr)) (λ_ _ _ i _=>(lI 34 ms i))
 case atStart=>exact⟨0,rfl,be _,rfl,rfl,rfl,F⟩
 clear F;obtain⟨k,rfl,hk,rfl,rfl,rfl,HB⟩:=hrel;by_cases J:k<ms
 .have d1:decide ((k:I)<ms)=t?:=ae;have γ:=ah ((R.one k J g).later HB);have z:=λw=>Tx A ms cap k J g w;have d:=ah (zJ (ms.map (·.s)) k);have n:(ms.map (·.s))[k]? =M ms[k].s:=by rw[eD,an J];rfl
  have j:∀a,vO (ms.map (·.s)) a k=if kn ms[k].s.k.kind<=ms[k].s.k.level then a else if a.2.2=u?\/a.2.1<nF ms[k].s then(k,nF ms[k].s,t?)else a:=λa=>by unfold vO;rw[n]
  have MP:=ah j;have Zx:Hid (∀w',Below w w w'->jE Tryz.prog 72 #[b? (pU A k cap) 1 (cap-k)] w' λe w''=>e=a? (c? o? (nF ms[k].s))/\Below w' w' w''):=λw' h=>by
   have:=DX (pU A k cap) [ms[k]] (cap-k) w' (HT.later h) ((R.one k J g).later h);have e:kJ ([ms[k]].map (·.s))=nF ms[k].s:=by simp[kJ]
   rwa[e]at this
  have C:ms[k].m.s=ms[k].s.k:=ms[k].hk;obtain⟨b,θ,rfl,hb,hc⟩:=R.tab.at_ jS;obtain⟨i0,i1,i2,i3,i4,i5,i6,i7,i8,i9,β,α⟩:=(hc k J).below HB hb;have ε:b<wr:=qes;have η:(0:I)<=k:=jS;have μ:(k:I)<ms:=jS;clear hc n j;generalize ms[k]=m at*;generalize nM (ms.map (·.s)) k=a at*;obtain⟨W,t,N⟩:=a;rw[MP]at d;have K:m.m.s=m.s.k:=C;rw[<-K]at d;clear MP C K;simp only at d⊢;go_wp2_with fail;refine oN (λV=>Below w w V) ((Hold.nil wr).alloc wr 197 (lz 3 m)) (jP HB _) (λV T Y=>?_);clear i0 i1 i2 i3 i4 i5 i6 i7 i8 i9 β α;have x:=fk (T.facts);have L:=ah Y.drew;by_cases f:kn m.m.s.kind<=m.m.s.level
  .have dB:decide (kn m.m.s.kind<=m.m.s.level)=t?:=F? f;have l:Hid (nM (ms.map (·.s)) (k+1)=(W,t,N)):=by have:=d;rwa[B? f]at this
   clear f d Y;go_region_held(λw'=>w'.cell? ⟨wr,2,Z⟩=M (c? o? m.m.s.level)/\w'.cell? ⟨wr,1,Z⟩=M (c? o? m.m.s.kind)) (first|assumption|exact⟨x.2.2.2.2.1,x.2.2.2.1⟩|go_keep) ((go_at_call 112;refine(qI _ _).mono ?_;rintro r _⟨rfl,rfl⟩));go_wp2;go_roundw
   case rel=>exact⟨k+1,CJ,jS,by rw[l],by rw[l],by rw[l],L⟩
   exact No
  have dB:decide (kn m.m.s.kind<=m.m.s.level)=u?:=E? f;have l:Hid (nM (ms.map (·.s)) (k+1)=if N=u?\/t<nF m.s then(k,nF m.s,t?)else(W,t,N)):=by have:=d;rwa[A? f]at this
  clear f d Y;go_region_held(λw'=>w'.cell? ⟨wr,2,Z⟩=M (c? o? m.m.s.level)/\w'.cell? ⟨wr,1,Z⟩=M (c? o? m.m.s.kind)) (first|assumption|exact⟨x.2.2.2.2.1,x.2.2.2.1⟩|go_keep) ((go_at_call 112;refine(qI _ _).mono ?_;rintro r _⟨rfl,rfl⟩));go_wp2_with fail;refine(Zx _ L).mono ?_;rintro e w2⟨rfl,G⟩;have q:=ah (Below.two L G);clear G L Zx γ x T z
  cases N with
  |false=>
   have c:Hid (nM (ms.map (·.s)) (k+1)=(k,nF m.s,t?)):=by have:=l;rwa[B? (r? rfl)]at this
   clear l;go_wp2;go_roundw
   case rel=>exact⟨k+1,CJ,jS,by rw[c],by rw[c],by rw[c],q⟩
   exact No
  |true=>
   by_cases y:t<nF m.s
   .have c:Hid (nM (ms.map (·.s)) (k+1)=(k,nF m.s,t?)):=by have:=l;rwa[B? (s? y)]at this
    have dG:decide (t<nF m.s)=t?:=F? y;clear l y;go_wp2;go_roundw
    case rel=>exact⟨k+1,CJ,jS,by rw[c],by rw[c],by rw[c],q⟩
    exact No
   have c:Hid (nM (ms.map (·.s)) (k+1)=(W,t,t?)):=by have:=l;rwa[A? mO]at this
   have dG:decide (t<nF m.s)=u?:=E? y;clear l y;go_wp2;go_roundw
   case rel=>exact⟨k+1,CJ,jS,by rw[c],by rw[c],by rw[c],q⟩
   exact No
 have δ:k=(ms:O):=jS;subst δ;have d1:decide ((ms:I)<ms)=u?:=lV;clear HT R;go_wp2;go_ret2;exact⟨by rw[<-T];rfl,HB⟩
def Stop(P:Prop):Prop:=P
def Stop.i{P:Prop}(h:Stop P):P:=h
structure Out(X:O->Prop)(w w':jC):Prop where
 os:w'.os=w.os
 tape:w'.tape=w.tape
 output:w'.output=w.output
 size:w.heap.size<=w'.heap.size
 block:∀k,k<w.heap.size->¬X k->w'.heap[k]? =w.heap[k]?
section
variable{X Y:O->Prop}{w w' w'':jC}
def Out.refl(X:O->Prop)(w:jC):Out X w w:=⟨rfl,rfl,rfl,ay _,λ_ _ _=>rfl⟩
def Out.trans(h:Out X w w')(k:Out X w' w''):Out X w w'':=⟨k.os.trans h.os,k.tape.trans h.tape,k.output.trans h.output,a_ h.size k.size,λi b a=>(k.block i (cn b h.size) a).trans (h.block i b a)⟩
def Out.mono(h:Out X w w')(b:∀k,k<w.heap.size->X k->Y k):Out Y w w':=⟨h.os,h.tape,h.output,h.size,λi a c=>h.block i a λe=>c (b i a e)⟩
def Out.of(h:Below w w w'):Out X w w':=⟨h.os,h.tape,h.output,h.size,λi a _=>h.block i a⟩
def Out.below(h:Out X w w')(b:B<=w)(a:∀k,X k->B<=k):Below B w w':=⟨h.os,h.tape,h.output,h.size,λi c=>h.block i jS λe=>by have:=a i e;omega⟩
def Out.call(h:Out X w w')(k:Below w' w' w''):Out X w w'':=h.trans (Out.of k)
def Out.then_(h:Out X w w')(k:Out Y w' w'')(c:∀k,Y k->X k\/w<=k):Out X w w'':=
 ⟨k.os.trans h.os,k.tape.trans h.tape,k.output.trans h.output,a_ h.size k.size,λi b a=>(k.block i (cn b h.size) λe=>(c i e).elim a λe=>jS).trans (h.block i b a)⟩
def Out.drew(h:Out X w w'):Out X w w'.drew:=⟨h.os,h.tape,h.output,h.size,h.block⟩
def Out.alloc(h:Out X w w')(o:Obj):Out X w (w'.alloc o):=⟨h.os,h.tape,h.output,a_ h.size lV,λi a b=>(Below.heap_alloc w' o i (cn a h.size)).trans (h.block i a b)⟩
def Out.setCell(h:Out X w w'){p:jG}(b:X p.block\/w<=p.block)(u:jD):Out X w (w'.setCell p u):=
 ⟨h.os,h.tape,h.output,a_ h.size (by simp[bj]),λi c a=>(Below.heap_setCell w' p u i (λe=>b.elim (λq=>a (e▸q)) λq=>jS)).trans (h.block i c a)⟩
def Out.cell(h:Out X w w'){p:jG}(a:p.block<w)(b:¬X p.block):w'.cell? p=w.cell? p:=co (h.block _ a b)
variable{g:O}
def Out.blk{t:jH}{cs:x? jD}(h:Out X w w')(a:jR w g t cs)(b:¬X g):jR w' g t cs:=(h.block g a.lt b).trans a
variable{xs:E jD}
def Out.rd(h:Out X w w')(k:Rd w w A xs)(m:xs≠[]->∀d,A=M d->¬X d.block):Rd w' w' A xs:=λc=>by
 obtain⟨b,a,e,f,g⟩:=k c;exact⟨b,a,e,cn f h.size,λj v l=>(co (h.block b f (m c _ e))).trans (g j v l)⟩
variable{m:SkM}
def Out.sk(h:Out X w w')(a:jY w w m)(d:lY (λb=>¬X b) m):jY w' w' m:=
 ⟨h.rd a.e λe=>d.e (by simpa using e),h.rd a.c λe=>d.c (by simpa using e),h.rd a.g λe=>d.g (by cases f:m.s.g with|nil=>rw[f]at e;exact H? rfl e|cons y r=>simp)⟩
end
structure DC(p:O->Prop)(m:jZ):Prop where
 l:m.s.l≠[]->∀ad,m.la=M ad->p ad.block
 k:lY p m.m
structure DB(p:O->Prop)(A:w? jG)(ms:E jZ):Prop where
 a:ms≠[]->∀ad,A=M ad->p ad.block
 all:∀m∈ms,DC p m
section
variable{p q:O->Prop}{X:O->Prop}{w w':jC}{A:w? jG}{ms:E jZ}{m:jZ}
def DC.mono(h:DC p m)(c:∀b,p b->q b):DC q m:=⟨λx a e=>c _ (h.l x a e),h.k.mono c⟩
def DB.mono(h:DB p A ms)(c:∀b,p b->q b):DB q A ms:=⟨λx a e=>c _ (h.a x a e),λm d=>(h.all m d).mono c⟩
def mr.inn{B:O}(h:mr B m):DC (B<= ·) m:=⟨λ_=>h.l,h.k.inn⟩
def Out.ser(h:Out X w w')(c:my w w m)(a:DC (λb=>¬X b) m):my w' w' m:=
 ⟨h.rd c.l λe=>a.l (λd=>e (by rw[d];rfl)),h.sk c.k a.k⟩
def Out.tab(h:Out X w w')(d:Tab w w A ms)(c:DB (λb=>¬X b) A ms):Tab w' w' A ms:=
 ⟨h.rd d.rd λe=>c.a (λg=>e (by rw[g];rfl)),λm f=>h.ser (d.ok m f) (c.all m f)⟩
end
structure kj(X:O->Prop)(w0 w:jC)(bs:E (O×jH×E jD)):Prop where
 out:Out X w0 w
 blk:∀b∈bs,(X b.1\/w0.heap.size<=b.1)/\jR w b.1 b.2.1 b.2.2.toArray
 apart:bs.Pairwise λa b=>a.1≠b.1
def Dp{X:O->Prop}{w0 w:jC}:∀{bs:E (O×jH×E jD)},(∀b∈bs,(X b.1\/w0<=b.1)/\jR w b.1 b.2.1 b.2.2.toArray)->Facts w bs
 |[],_=>trivial
 |b::bs,h=>have a:=(h b ab).2;⟨a.lt,a.frozen,qG a _ 0 (λj u e=>by rw[au];exact e),Dp λc d=>h c (dS _ d)⟩
section
variable{X Y:O->Prop}{w0 w w':jC}{bs:E (O×jH×E jD)}
def kj.facts(h:kj X w0 w bs):Facts w bs:=Dp h.blk
variable{g:O}{t:TypeId}{cs:E Value}
def kj.at_(h:kj X w0 w bs)(k:O)(e:bs[k]? =M (g,t,cs):=by rfl):kz w g 0 cs:=qG (h.blk _ (List.mem_of_getElem? e)).2 cs 0 λj u a=>by rw[Nat.zero_add];exact a
def kj.nil(X:O->Prop)(w:jC):kj X w w []:=⟨Out.refl _ _,λ_ h=>qch,List.Pairwise.nil⟩
def kj.one(X:O->Prop){t:jH}{cs:E jD}(c:X g)(h:jR w g t cs.toArray):kj X w w [(g,t,cs)]:=⟨Out.refl _ _,λb a=>by simp at a;rw[a];exact⟨r? c,h⟩,lV⟩
def kj.size(h:kj X w0 w bs):(w0:O)<=(w:O):=h.out.size
def kj.call(h:kj X w0 w bs)(a:Below w w w'):kj X w0 w' bs:=⟨h.out.call a,λb c=>⟨(h.blk b c).1,(h.blk b c).2.later a⟩,h.apart⟩
def kj.wP(h:kj X w0 w bs)(c:Out Y w w')(e:∀k,Y k->X k\/w0<=k)(d:∀b∈bs,¬Y b.1):kj X w0 w' bs:=⟨h.out.then_ c e,λb a=>⟨(h.blk b a).1,c.blk (h.blk b a).2 (d b a)⟩,h.apart⟩
def kj.Dt(h:kj X w0 w bs)(k:O){n:E Value}(C:Out Y w w')(q:∀k,Y k->X k\/w0<=k)(G:∀b∈bs,b.1≠g->¬Y b.1)(F:jR w' g t n.toArray)(e:bs[k]? =M (g,t,cs):=by rfl):kj X w0 w' (bs.set k (g,t,n)):=by
 obtain⟨s,o⟩:=ci.1 e;have H:(g,t,cs)∈bs:=o▸ar s;have c:=cj.1 h.apart;have D:∀(j:O)(l:j<bs),((bs.set k (g,t,n))[j]'(by simpa using l)).1=bs[j].1:=λj l=>by
  rw[eW];split
  .subst_vars;rw[o]
  rfl
 refine⟨h.out.then_ C q,λb v=>?_,cj.2 λx y J q m=>?_⟩
 .obtain⟨j,l,rfl⟩:=dR v;have a:j<bs:=by simpa using l
  rw[eW];by_cases p:k=j
  .rw[B? p];exact⟨(h.blk _ H).1,F⟩
  rw[A? p];have A:=h.blk _ (ar a);have z:bs[k].1=g:=by rw[o]
  refine⟨A.1,C.blk A.2 (G _ (ar a) λB=>?_)⟩;rcases iD p with r|r
  .exact c _ _ s a r (z.trans B.symm)
  exact c _ _ a s r (B.trans z.symm)
 have f:x<bs:=by simpa using J
 have d:y<bs:=by simpa using q
 rw[D x f,D y d];exact c x y f d m
def kj.drew(h:kj X w0 w bs):kj X w0 w.drew bs:=⟨h.out.drew,h.blk,h.apart⟩
def kj.al(h:kj X w0 w bs)(o:Obj):kj X w0 (w.alloc o) bs:=⟨h.out.alloc o,λb a=>⟨(h.blk b a).1,(h.blk b a).2.alloc o⟩,h.apart⟩
def kj.alloc(h:kj X w0 w bs)(g:O)(t:TypeId)(cs:E Value)(c:g=(w:O):=by simp):kj X w0 (w.alloc (m? cs.toArray t)) ((g,t,cs)::bs):=by
 subst c;refine⟨h.out.alloc _,λb a=>?_,b6.2 ⟨λb a=>Nat.ne_of_gt (h.blk b a).2.lt,h.apart⟩⟩;rcases cw.1 a with rfl|a
 .exact⟨s? h.size,jR.new w _ _⟩
 exact⟨(h.blk b a).1,(h.blk b a).2.alloc _⟩
def kj.put(h:kj X w0 w bs)(k i:O)(v:Value)(e:bs[k]? =M (g,t,cs):=by rfl):kj X w0 (w.setCell ⟨g,i,Z⟩ v) (bs.set k (g,t,cs.set i v)):=by
 obtain⟨z,o⟩:=ci.1 e;have r:(g,t,cs)∈bs:=o▸ar z;have c:=cj.1 h.apart;refine⟨h.out.setCell (p:=⟨g,i,Z⟩) (h.blk _ r).1 v,λb m=>?_,cj.2 λx y F D n=>?_⟩
 .obtain⟨j,l,rfl⟩:=dR m;rw[eW];by_cases e:k=j
  .rw[B? e];refine⟨(h.blk _ r).1,?_⟩;have:=(h.blk _ r).2.kY i v;simpa using this
  rw[A? e];have a:j<bs:=by simpa using l
  have m:=h.blk _ (ar a);refine⟨m.1,m.2.far (p:=⟨g,i,Z⟩) (λB=>?_) v⟩;have A:bs[k].1=g:=by rw[o]
  rcases iD e with s|s
  .exact c _ _ z a s (A.trans B.symm)
  exact c _ _ a z s (B.trans A.symm)
 have f:x<bs:=by simpa using F
 have d:y<bs:=by simpa using D
 have q:=c x y f d n;have C:∀(j:O)(l:j<bs),((bs.set k (g,t,cs.set i v))[j]'(by simpa using l)).1=bs[j].1:=λj l=>by
  rw[eW];split
  .subst_vars;rw[o]
  rfl
 rw[C x f,C y d];exact q
end
section
variable{X:O->Prop}{w0 W:jC}{bs:E (O×jH×E jD)}{P:bi3}{a:Act}
def oO{c:bk9}{Q:bk7->Act->jC->Prop}(F:jC->Prop)(H:kj X w0 W bs)(h:F W)(k:∀V,Hid (kj X w0 V bs)->F V->c.wp P Q a V):c.wp P Q a W:=k W (ah H) h
variable{R:bi6->jC->Prop}
def kh{b:Func}{x:bk7}(F:jC->Prop)(H:kj X w0 W bs)(h:F W)(k:∀V,Hid (kj X w0 V bs)->F V->bodyPost P b R x a V):bodyPost P b R x a W:=k W (ah H) h
def kq{f:bl9}{args:x? jD}(F:jC->Prop)(H:kj X w0 W bs)(h:F W)(k:∀V,Hid (kj X w0 V bs)->F V->jE P f args V R):jE P f args W R:=k W (ah H) h
end
def kj.fill{X:O->Prop}{w0:jC}{bs:E (O×jH×E jD)}{g:O}{t:jH}:∀(a:E jD){w:jC}{cs:E jD}(i:O),kj X w0 w bs->∀k:O,bs[k]? =M (g,t,cs)->i+(a:O)=(cs:O)->kj X w0 (lp w g i a) (bs.set k (g,t,cs.take i++a))
 |[],w,cs,i,h,k,e,b=>by
  obtain⟨d,f⟩:=ci.1 e;have c:cs.take i++([]:E jD)=cs:=by rw[eB,cl (by simp at b;omega)]
  rw[c,<-f,ie];exact h
 |v::a,w,cs,i,h,k,e,b=>by
  have d:k<bs:=(ci.1 e).1;have:=kj.fill a (i+1) (h.put k i v e) k (by rw[gM d]) (by simp at b⊢;omega);rw[List.set_set]at this;have c:(cs.set i v).take (i+1)++a=cs.take i++v::a:=by
   have j:i<cs:=by simp at b;omega
   rw[aj (by simpa using j),fP,gm aa,eH];rfl
  rw[c]at this;exact this
variable{g:O}{t:TypeId}{cs:E Value}
def kj.all{X:O->Prop}{w0 w:World}{bs:E (O×TypeId×E Value)}(h:kj X w0 w bs)(k:O)(a:E Value)(e:bs[k]? =M (g,t,cs):=by rfl)(b:(a:O)=(cs:O):=by rfl):kj X w0 (lp w g 0 a) (bs.set k (g,t,a)):=by
 have:=kj.fill a 0 h k e jS;simpa using this
instance(x0:jC)(x1:O)(x2:SkM):CoeOut (IP 10 x0 x1 x2) Prop:=⟨λ_=>x0.cell? ⟨x1,0,Z⟩=M (c? o? x2.s.kind)/\x0.cell? ⟨x1,1,Z⟩=M (c? o? x2.s.level)/\x0.cell? ⟨x1,2,Z⟩=M (b? x2.ea x2.s.e.length x2.ec)/\x0.cell? ⟨x1,3,Z⟩=M (c? o? x2.s.bits)/\x0.cell? ⟨x1,4,Z⟩=M (f? x2.s.regs)/\x0.cell? ⟨x1,5,Z⟩=M (c? o? x2.s.rows)/\x0.cell? ⟨x1,6,Z⟩=M (c? o? x2.s.cols)/\x0.cell? ⟨x1,7,Z⟩=M (b? x2.ca x2.s.c.length x2.cc)/\x0.cell? ⟨x1,8,Z⟩=M (c? o? x2.s.fine)/\x0.cell? ⟨x1,9,Z⟩=M (b? x2.ga x2.s.g.length x2.gc)⟩
instance(x0:jC)(x1:O)(x2:SkM):CoeSort (IP 10 x0 x1 x2) Prop:=⟨λ_=>x0.cell? ⟨x1,0,Z⟩=M (c? o? x2.s.kind)/\x0.cell? ⟨x1,1,Z⟩=M (c? o? x2.s.level)/\x0.cell? ⟨x1,2,Z⟩=M (b? x2.ea x2.s.e.length x2.ec)/\x0.cell? ⟨x1,3,Z⟩=M (c? o? x2.s.bits)/\x0.cell? ⟨x1,4,Z⟩=M (f? x2.s.regs)/\x0.cell? ⟨x1,5,Z⟩=M (c? o? x2.s.rows)/\x0.cell? ⟨x1,6,Z⟩=M (c? o? x2.s.cols)/\x0.cell? ⟨x1,7,Z⟩=M (b? x2.ca x2.s.c.length x2.cc)/\x0.cell? ⟨x1,8,Z⟩=M (c? o? x2.s.fine)/\x0.cell? ⟨x1,9,Z⟩=M (b? x2.ga x2.s.g.length x2.gc)⟩
instance(x0:jC)(x1:O)(x2:O)(x3:SkM):CoeOut (IN 11 x0 x1 x2 x3) jC:=⟨λ_=>(bj (bj (bj (bj (bj (bj (bj (bj (bj x0 ⟨x1,x2*12+1,Z⟩ (c? o? x3.s.kind)) ⟨x1,x2*12+2,Z⟩ (c? o? x3.s.level)) ⟨x1,x2*12+3,Z⟩ (b? x3.ea x3.s.e.length x3.ec)) ⟨x1,x2*12+4,Z⟩ (c? o? x3.s.bits)) ⟨x1,x2*12+5,Z⟩ (f? x3.s.regs)) ⟨x1,x2*12+6,Z⟩ (c? o? x3.s.rows)) ⟨x1,x2*12+7,Z⟩ (c? o? x3.s.cols)) ⟨x1,x2*12+8,Z⟩ (b? x3.ca x3.s.c.length x3.cc)) ⟨x1,x2*12+9,Z⟩ (c? o? x3.s.fine))⟩
def VQ:∀(ms:E jZ)(i:O)(o f g d b k n p j a:jD)(m:jZ)(h:i<ms),ng m=[(ng ms[i])[0]'(by rw[l7];omega),o,f,g,d,b,k,n,p,j,a,(ng ms[i])[11]'(by rw[l7];omega)]->(((((((((((lS ms).set (i*12+1) o).set (i*12+2) f).set (i*12+3) g).set (i*12+4) d).set (i*12+5) b).set (i*12+6) k).set (i*12+7) n).set (i*12+8) p).set (i*12+9) j).set (i*12+10) a)=lS (ms.set i m)
 |[],i,_,_,_,_,_,_,_,_,_,_,_,h,_=>WY
 |y::ms,0,_,_,_,_,_,_,_,_,_,_,m,_,q=>by
  rw[ak];unfold lS;rw[dg,dg,q];rfl
 |y::ms,i+1,o,f,g,d,b,k,n,p,j,a,m,h,q=>by
  have r:=VQ ms i o f g d b k n p j a m S6 q;rw[am];have e:∀l:E jZ,lS (y::l)=ng y++lS l:=λl=>by simp[lS]
  rw[e,e,<-r];have s:∀(l:E jD)(c:O)(u:jD),(ng y++l).set ((i+1)*12+c) u=ng y++l.set (i*12+c) u:=λl c u=>by
   rw[iN _ _ (by rw[l7];omega),l7];congr 2;omega
  simp only[s]
def rc(m:jZ)(q:SkM):jZ:=⟨{m.s with k:=q.s},q,m.la,m.lc,rfl⟩
variable{n:O}{cs:E jZ}
def lF.ZS{cap:O}(h:lF w B (b? (aC g) n cap) cs)(C:n=(cs:O))(i:O)(hi:i<cs)(q:SkM)(j:jY w w q)(b:Apart (M g) (rc cs[i] q)):∃W,W=(bj (rU 11 w g i q) ⟨g,i*12+10,Z⟩ (b? q.ga q.s.g q.gc))/\lF W B (b? (aC g) n cap) (cs.set i (rc cs[i] q))/\(bY w W g):=by
 subst C;have z:=h.own.stored (i*12+1) (c? o? q.s.kind);have m:=z.1.stored (i*12+2) (c? o? q.s.level);have A:=m.1.stored (i*12+3) (b? q.ea q.s.e q.ec);have v:=A.1.stored (i*12+4) (c? o? q.s.bits);have r:=v.1.stored (i*12+5) (f? q.s.regs);have y:=r.1.stored (i*12+6) (c? o? q.s.rows);have k:=y.1.stored (i*12+7) (c? o? q.s.cols);have o:=k.1.stored (i*12+8) (b? q.ca q.s.c q.cc);have p:=o.1.stored (i*12+9) (c? o? q.s.fine);have d:=p.1.stored (i*12+10) (b? q.ga q.s.g q.gc);have t:=d.1;rw[VQ cs i (c? o? q.s.kind) (c? o? q.s.level) (b? q.ea q.s.e q.ec) (c? o? q.s.bits) (f? q.s.regs) (c? o? q.s.rows) (c? o? q.s.cols) (b? q.ca q.s.c q.cc) (c? o? q.s.fine) (b? q.ga q.s.g q.gc) (rc cs[i] q) hi rfl]at t;have f:=(jW (jW (jW (jW (jW (jW (jW (jW (jW z.2 m.2) A.2) v.2) r.2) y.2) k.2) o.2) p.2) d.2);refine⟨_,rfl,⟨by rw[eq];exact t,λx a=>?_,λx a=>?_⟩,f⟩
 .rcases dO a with a|a
  .exact(h.ok x a).grown f (h.ap x a)
  rw[a];exact my.grown ⟨(h.ok _ (ar hi)).l,j⟩ f b
 rcases dO a with a|a
 .exact h.ap x a
 rw[a];exact b
def te(fb:O)(pv:jD)(ps:E O)(a:O)(N:(ps:O)<=1000)(B:O)(w:jC)(Q:B<=(w:O))(x:w.cell? ⟨fb,0,Z⟩=M pv)(p:∀i,w.frozen? ⟨fb,i,Z⟩=u?)(h:w.ownsRow B 3 1 pv (ps:O) (lC ps))(f:∀r,pv.ownBlock=M r->r≠fb):jE Tryz.prog 144 #[jO fb,jJ (a:I)] w λe w'=>e=a? (d? #[])/\∃g l,w'=l.setCell ⟨fb,0,Z⟩ g/\l.ownsRow B 3 1 g (ps.length+1) (lC (ps++[a]))/\w.grownBy l pv.ownBlock/\(g.ownBlock=pv.ownBlock\/∃r,g.ownBlock=M r/\w.heap.size<=r):=by
 obtain⟨G,s,j,o,m⟩:=bi5 Tryz.Ew;have J:=ah h;have n:fb<w:=b8 _ _ x;obtain⟨t,c1,rfl,-⟩:=li h;have H:=ah f;clear h f;go_in;go_wp2_with(at_builtin;refine Stop.i ?_);unfold Stop;refine kr _ rfl (.tmp 8) (.tmp 10) 52 rfl B 3 G (c? o? 0) 1 8 Tryz.underlying52 s j o m rfl B8 (b? t ps c1) ps _ rfl (J.alloc _) _ _ 1 1 [jJ (a:I)] rfl rfl (tY (jR.new w _ #[jJ (a:I)])) (λu y=>by simp at y;rw[y];rfl) O0 jS mO ?_;intro g W d b z;obtain⟨q,c2,rfl,-⟩:=lB d;have c:=(b.block fb mO (λe=>H _ e.symm rfl)).trans (Below.heap_alloc w (m? #[jJ (a:I)] 3) fb n);have K:=(co (a:=⟨fb,0,Z⟩) c).trans x;have L:=λi=>(World.frozen?_of_block (a:=⟨fb,i,Z⟩) c).trans (p i);have C:Hid (w.grownBy W (eo t ps c1).ownBlock):=⟨b.os,b.tape,b.output,by have:=b.size;simp at this;omega,λk D f=>(b.block k mO f).trans (Below.heap_alloc w _ k D)⟩;have F:Hid (W.ownsRow B 3 1 (b? q (ps+1) c2) (ps+1) (lC (ps++[a]))):=by
  show gX _ _ _ _ _ _ _;simpa[lC]using d
 have A:Hid ((eo q (ps+1) c2).ownBlock=(eo t ps c1).ownBlock\/∃r,(eo q (ps+1) c2).ownBlock=M r/\w<=r):=by
  rcases z with e|e
  .exact r? e
  exact s? ⟨_,e,lV⟩
 clear d b z c;go_wp2;refine bl6 (v:=d? #[]) (by simp[results,Tryz.results144,go_sem]) rfl ?_;exact⟨rfl,_,W,rfl,F,C,A⟩
def sJ(w:jC)(r:w? (E mq×E O))(e:bi6)(w':jC):Prop:=Below w w w'/\match r with
 |none=>e=a? (d? #[jM,jM,jJ 130])
 |some (t,ps)=>∃A c cs a c2,e=a? (d? #[jN A cs c,jN a ps c2,jJ 0])/\cs.map (·.s)=t/\lF w' w (cU A cs c) cs/\(∀m∈cs,mr w m)/\Rd w' w' a (lC ps)/\(aX a w)
variable{w':jC}{r:w? (E mq×E O)}
def sJ.no(h:r=Z)(a:Below w w w'):sJ w r (a? (d? #[jM,jM,jJ 130])) w':=⟨a,by rw[h]⟩
variable{ps:E O}
def sJ.yes{A2:w? jG}{c c2:O}(h:r=M (cs.map (·.s),ps))(j:Below w w w')(g:lF w' w (cU A cs c) cs)(f:∀m∈cs,mr w m)(d:w'.ownsRow w 3 1 (b? A2 ps c2) ps (lC ps)):sJ w r (a? (d? #[jN A cs c,jN A2 ps c2,jJ 0])) w':=by
 refine⟨j,?_⟩;rw[h];obtain⟨l,k,e,_,a,b⟩:=li d
 cases e
 exact⟨A,c,cs,A2,c2,rfl,rfl,g,f,a,b⟩
structure uM(w:jC)(fb:O)(cs:E jZ)(ps:E O)(tv pv:jD)(W:jC):Prop where
 below:Below w w W
 blk:jR W fb 268 #[pv,tv]
 fbw:w.heap.size<=fb
 tab:lF W w tv cs
 row:W.ownsRow w 3 1 pv ps.length (lC ps)
 gt:GT (cs.map (·.s))
 lo:∀m∈cs,mr w m
 Zg:∀m∈cs,Apart (M fb) m
 app:∀m∈cs,Apart pv.ownBlock m
 BN:∀r,tv.ownBlock=M r->r≠fb/\pv.ownBlock≠M r
 YW:∀r,pv.ownBlock=M r->r≠fb
variable{W:jC}{fb:O}{pv:jD}
def uM.call{b:jC}{c:jD}(h:uM w fb cs ps c pv W)(a:Below W W b):uM w fb cs ps c pv b:=
 ⟨h.below.trans (a.mono h.below.size),h.blk.later a,h.fbw,h.tab.later a,lf h.row a,h.gt,h.lo,h.Zg,h.app,h.BN,h.YW⟩
def TS:w? jD->O
 |some (b? _ n _)=>n
 |_=>0
variable{xs:E jD}
def P8{v:jD}(h:W.ownsRow B 3 1 v n xs):TS (M v)=n:=by
 obtain⟨A,c,rfl,_⟩:=li h;rfl
def od{sz:O}{t:jH}{v:jD}{row:w? O}(h:w.ownsRow B t sz v n xs)(k:w.grownBy w' row)(a:∀r,v.ownBlock=M r->row≠M r):w'.ownsRow B t sz v n xs:=by
 obtain⟨d,⟨h,e⟩|⟨g,cap,b,c,l,f,j⟩⟩:=h
 .exact⟨d,r? ⟨h,e⟩⟩
 refine⟨d,s? ⟨g,cap,b,c,l,?_,j⟩⟩;rw[k.block g (aw.1 f).1 (λe=>a g (by rw[c];rfl) e.symm)];exact f
def lF.grown{w w':jC}{B:O}{v:jD}{cs:E jZ}{row:w? O}(h:lF w B v cs)(b:w.grownBy w' row)(a:∀r,v.ownBlock=M r->row≠M r)(d:∀m∈cs,Apart row m):lF w' B v cs:=
 ⟨od h.own b a,λm c=>(h.ok m c).grown b (d m c),h.ap⟩
def uM.drew{w W:jC}{fb:O}{cs:E jZ}{ps:E O}{b pv:jD}(h:uM w fb cs ps b pv W):uM w fb cs ps b pv W.drew:=
 ⟨h.below.drew,h.blk,h.fbw,⟨h.tab.own,λm a=>⟨(h.tab.ok m a).l,⟨(h.tab.ok m a).k.e,(h.tab.ok m a).k.c,(h.tab.ok m a).k.g⟩⟩,h.tab.ap⟩,h.row,h.gt,h.lo,h.Zg,h.app,h.BN,h.YW⟩
def uM.told{c:jC}{a:O}{f v':jD}(h:uM w fb cs ps f pv W)(y:c.ownsRow w 3 1 v' (ps+1) (lC (ps++[a])))(j:W.grownBy c pv.ownBlock)(o:v'.ownBlock=pv.ownBlock\/∃r,v'.ownBlock=M r/\W<=r):uM w fb cs (ps++[a]) f v' (c.setCell ⟨fb,0,Z⟩ v'):=by
 have x:=h.blk.lt;have d:∀r,v'.ownBlock=M r->r≠fb:=λr e=>by
  rcases o with b|⟨q,b,n⟩
  .exact h.YW r (b▸e)
  rw[b]at e;cases e;omega
 have g:jR c fb 268 #[pv,f]:=h.blk.grown j (λe=>h.YW _ e.symm rfl);have s:lF c w f cs:=h.tab.grown j (λr e=>(h.BN r e).2) h.app;have t:=k6 c fb 0 v';refine⟨(h.below.grown j h.below.size λk e=>(pf h.row k e).1).setCell (p:=⟨fb,0,Z⟩) h.fbw v',?_,h.fbw,s.grown t (λr e b=>by cases b;exact(h.BN _ e).1 rfl) h.Zg,?_,h.gt,h.lo,h.Zg,λm v=>?_,λr e=>⟨(h.BN r e).1,λb=>?_⟩,d⟩
 .have:=g.kY 0 v';simpa using this
 .have:=od y t (λr e b=>by cases b;exact d _ e rfl);rwa[cd,fT]
 .rcases o with b|⟨q,b,n⟩
  .rw[b];exact h.app m v
  rw[b];exact(h.tab.ok m v).apart n
 rcases o with l|⟨q,l,n⟩
 .rw[l]at b;exact(h.BN r e).2 b
 rw[l]at b;cases b
 have:=(pf h.tab.own _ e).2;omega
def AV{M:Nat}{m:jZ}{q:SkM}{g:Option Nat}(h:Apart g m)(f:Fr M q)(d:∀r,g=some r->r<M):Apart g (rc m q):=
 ⟨h.1,λ_ a e b=>by have:=f.e a e;have:=d _ b.symm;omega,λ_ a e b=>by have:=f.c a e;have:=d _ b.symm;omega,λ_ a e b=>by have:=f.g a e;have:=d _ b.symm;omega⟩
def uM.low{cap M:Nat}(h:uM w fb cs ps (.slice (aC g) n cap) pv W)(D:n=(cs:Nat))(i:Nat)(hi:i<cs)(q:SkM)(y:GK q.s)(j:jY W W q)(F:w<=M)(t:fb<M)(v:g<M)(z:∀r,pv.ownBlock=some r->r<M)(f:Fr M q):uM w fb (cs.set i (rc cs[i] q)) ps (.slice (aC g) n cap) pv (bj (rU 11 W g i q) ⟨g,i*12+10,none⟩ (.slice q.ga q.s.g q.gc)):=by
 have d:=ar hi;obtain⟨H,e,B,a⟩:=h.tab.ZS D i hi q j (AV (h.tab.ap _ d) f (λr e=>by cases e;exact v));rw[<-e];have b:∀{p:jZ->Prop},(∀m∈cs,p m)->p (rc cs[i] q)->∀x∈cs.set i (rc cs[i] q),p x:=λG A x c=>by
  rcases dO c with c|c
  .exact G x c
  rw[c];exact A
 have o:=pf h.tab.own g rfl;refine⟨h.below.grown a h.below.size λk e=>by cases e;exact o.1,h.blk.grown a (λe=>by cases e;exact(h.BN _ rfl).1 rfl),h.fbw,B,od h.row a (λr e C=>by cases C;exact(h.BN _ rfl).2 e),?_,b h.lo ⟨(h.lo _ d).l,f.mono F⟩,b h.Zg (AV (h.Zg _ d) f (λr e=>by cases e;exact t)),b h.app (AV (h.app _ d) f z),h.BN,h.YW⟩;have:=h.gt.kY i (by simpa using hi) y;rw[iJ];simpa[rc]using this
def Gg(A:w? jG)(ms:E jZ)(cap:O)(b:I)(h0:0<=b)(h1:b<=1000000)(w:jC)(hT:Tb w)(hS:oI w A ms):jE Tryz.prog 97 #[jN A ms cap,jJ b] w (sJ w (pI b 100 (ms.map (·.s)) [])):=by
 have h20:=hS.len;have HT:=ah hT;have hf:∀m∈ms,n_ m.s:=λx hx=>(hS.g.all _ (dq.2 ⟨x,hx,rfl⟩)).fit;have QR:=ah (ql A ms cap w hT hS);have QC:Hid (∀w',Below w w w'->jE Tryz.prog 141 #[jN A ms cap] w' λe w''=>(∃v cs,e=a? v/\cs.map (·.s)=ms.map (·.s)/\lF w'' w' v cs/\∀m∈cs,mr w' m)/\Below w' w' w''):=λw' h=>Gh A ms cap h20 hf w' (hS.tab.later h);have hb:ux b=t?:=by simp[ux];omega
 have QB:Hid (∀w',jE Tryz.prog 140 #[jJ b] w' λe w''=>e=a? (h? t?)/\w''=w'):=λw'=>by have:=Ev b w';rwa[hb]at this
 have HG:=ah hS.g;have Ω:=ah (Qy hS.g);clear hT hS hf hb;go_in;go_wp2_with fail;refine QR.mono ?_;rintro e w1⟨rfl,hb1⟩;have R:=ah hb1;clear hb1 QR;go_wp2_with fail;refine(QB w1).mono ?_;rintro e w2⟨rfl,rfl⟩;go_wp2_with fail;refine(QC w2 R).mono ?_;rintro e w3⟨⟨v,D,rfl,δ,C,Δ⟩,θ⟩;obtain⟨A0,c0,rfl,-⟩:=lB C.own;have η:=R.size;have hs3:=θ.size;have f:=jP (jQ w3) (m? #[jM,jN A0 D c0] 268);have HI0:Hid (uM w w3 D [] (cU A0 D c0) aO (w3.alloc (m? #[jM,jN A0 D c0] 268))):=
  ⟨(R.trans (θ.mono η)).trans (f.mono jS),jR.new _ _ _,jS,(C.later f).base η,dY _ _ _ _,by rw[δ];exact HG,λm W=>(Δ m W).mono η,λm W=>(C.ok m W).apart aa,λm W=>⟨λ_ ad _ h=>qch,λ_ ad _ h=>qch,λ_ ad _ h=>qch,λ_ ad _ h=>qch⟩,λr e=>⟨by have:=(pf C.own r e).2;omega,by simp[gy]⟩,λr e=>by simp[gy]at e⟩
 have Zs:=ah δ;clear QB QC θ C Δ f δ R;go_wp2_with fail;generalize (w3:O)=fb at*;go_loopw[8] (λ_ wr=>∃(cs:E jZ)(ps:E O)(tv pv:jD)(n:O),Hid (uM w fb cs ps tv pv wr)/\Hid (pI b 100 (ms.map (·.s)) []=pI b n (cs.map (·.s)) ps)/\Hid (pg (cs.map (·.s))<n/\pg (cs.map (·.s))+ps<=80)) (λ_ wr=>100-TS (wr.cell? ⟨fb,0,Z⟩))
 case atStart=>exact⟨D,[],_,_,100,HI0,by show _=_;rw[Zs],by show _/\_;rw[Zs];have:=Ω.out;simp;omega⟩
 clear HI0 Zs Ω;obtain⟨cs,ps,tv,pv,n,L,HE,HL⟩:=hrel;obtain⟨A1,c1,rfl,hcc,-,-⟩:=lB L.tab.own;obtain⟨A2,c2,rfl,-⟩:=li L.row;have X:=ce L.blk 0;have G:=ce L.blk 1;have j:=L.blk.lt;have HPL:Hid (TS (wr.cell? ⟨fb,0,Z⟩)=(ps:O)):=by show _=_;rw[X];rfl
 obtain⟨m,rfl⟩:∃m,n=m+1:=⟨n-1,by have:=HL.1;omega⟩;have YH:Hid (pI b (m+1) (cs.map (·.s)) ps=if kJ (cs.map (·.s))<=b then M (cs.map (·.s),ps)else if(rC (cs.map (·.s))).2=t? then pI b m (Aw (cs.map (·.s)) (rC (cs.map (·.s))).1) (ps++[(rC (cs.map (·.s))).1])else Z):=rfl;have χ:=ah (DX A1 cs c1 wr (HT.later L.below) ⟨L.tab.tab,L.gt⟩);have hcl:0<=kJ (cs.map (·.s))\/True:=s? trivial;clear hcl;go_wp2_with fail;refine χ.mono ?_;rintro e w4⟨rfl,Ξ⟩;have d:=ah (L.call Ξ);clear Ξ χ X G j;have X:=ce d.blk 0;have G:=ce d.blk 1;have j:=d.blk.lt;by_cases J:kJ (cs.map (·.s))<=b
 .have HR:Hid (pI b 100 (ms.map (·.s)) []=M (cs.map (·.s),ps)):=by show _=_;rw[HE,YH,B? J]
  have d1:decide (b<kJ (cs.map (·.s)))=u?:=ag;have IY:=ah d.below.drew;have HTD:Hid (lF w4.drew w (cU A1 cs c1) cs):=⟨d.tab.own,λm W=>⟨(d.tab.ok m W).l,⟨(d.tab.ok m W).k.e,(d.tab.ok m W).k.c,(d.tab.ok m W).k.g⟩⟩,d.tab.ap⟩;clear J YH HE HL;go_wp2;go_region_held(λw'=>w'.cell? ⟨fb,0,Z⟩=M (b? A2 ps c2)/\w'.cell? ⟨fb,1,Z⟩=M (cU A1 cs c1)) (first|assumption|exact⟨X,G⟩|go_keep) (fail);go_wp2;go_ret3;exact sJ.yes HR IY HTD d.lo d.row
 have d1:decide (b<kJ (cs.map (·.s)))=t?:=ae;rw[A? J]at YH;have QV:=ah (I_ A1 cs c1 hcc w4 (HT.later d.below) ⟨d.tab.tab,d.gt⟩);have γ:=ah (DL (cs.map (·.s)) (cs.map (·.s)).length aa);have μ:Hid (rC (cs.map (·.s))=((nM (cs.map (·.s)) (cs.map (·.s)).length).1,(nM (cs.map (·.s)) (cs.map (·.s)).length).2.2)):=rfl;clear J;go_wp2_with fail;refine QV.mono ?_;rintro e w5⟨rfl,hb5⟩;have t:=ah (d.call hb5);clear hb5 QV X G j d;have X:=ce t.blk 0;have G:=ce t.blk 1;have j:=t.blk.lt
 cases y:(rC (cs.map (·.s))).2 with
 |false=>
  have HR:Hid (pI b 100 (ms.map (·.s)) []=Z):=by show _=_;rw[HE,YH,y,A? lV]
  clear y YH HE HL γ μ;go_wp2;go_ret3;exact sJ.no HR t.below
 |true=>
  have hvl:∃h:(rC (cs.map (·.s))).1<(cs.map (·.s)).length,(cs.map λx:jZ=>x.s)[(rC (cs.map (·.s))).1].k.level<kn (cs.map λx:jZ=>x.s)[(rC (cs.map (·.s))).1].k.kind:=by
   have e:=μ;rw[e]at y⊢;exact γ y
  rw[y,B? rfl]at YH;clear y γ μ;generalize(rC (cs.map (·.s))).1=k at*;obtain⟨hk,ξ⟩:=hvl;have H:k<cs:=by simpa using hk
  have Y:=GF t.gt hk ξ;have Fl:Hid (Aw (cs.map (·.s)) k=(cs.map (·.s)).set k {(cs.map λx:jZ=>x.s)[k]with k:=mG (cs.map λx:jZ=>x.s)[k].k}):=En hk;obtain⟨g,cp,arr,e1,hgb,hgw,aa9,_⟩:=se t.tab.own jS;injection e1 with e1 _ e3;subst e1;subst e3;have hsa:=t.tab.PL k H;have hi1:(0:I)<=k:=jS;have hi2:(k:I)<cs:=jS;have ρ:GK cs[k].m.s:=by rw[cs[k].hk];exact(t.gt.all _ (dq.2 ⟨_,ar H,rfl⟩)).k
  have B:cs[k].m.s.level<kn cs[k].m.s.kind:=by rw[cs[k].hk];simpa using ξ
  have N:=ah (Ki cs[k].m ρ B w5 (t.tab.ok _ (ar H)).k);have ε:Hid (mG cs[k].m.s=mG (cs.map λx:jZ=>x.s)[k].k/\GK (mG cs[k].m.s)):=⟨by rw[cs[k].hk];simp,(uW ρ B).1⟩;have MP:Hid (pg (Aw (cs.map (·.s)) k)+1=pg (cs.map (·.s))):=Y;obtain⟨-,j1,j2,j3,j4,j5,j6,j7,j8,j9,j10,-⟩:=hsa;obtain⟨q0,φ⟩:∃q,q=cs[k]:=⟨_,rfl⟩;rw[<-φ]at j1 j2 j3 j4 j5 j6 j7 j8 j9 j10 N ε;have Yr:=ah φ;unfold nT at N;clear Y ρ B ξ aa9 φ;go_wp2_with fail;refine N.mono ?_;rintro e w6⟨q,hq,rfl,Z_,ab1,κ⟩;have F:=ah (t.call κ);have β:Hid ((w:O)<=(w5:O)/\fb<(w5:O)/\g<(w5:O)):=⟨t.below.size,t.blk.lt,hgw⟩;have hpb:∀r,(eo A2 (ps:O) c2).ownBlock=M r->r<(w5:O):=λr e=>(pf t.row r e).2;have hs6:=κ.size;have f:=jP (jQ w6) (m? (aB q) 136);have HI7:=ah (F.call f);have aj6:=ah (Z_.later f);have HFR:=ah ab1;have HQK:=ah hq;have Θ:=jR.new w6 136 (aB q);clear κ N X G j t j1 j2 j3 j4 j5 j6 j7 j8 j9 j10 Z_ ab1 hq f;have X:=ce F.blk 0;have G:=ce F.blk 1;have j:=F.blk.lt;unfold nT;go_wp2_with fail;refine Ql (λV=>uM w fb cs ps (b? (aC g) (cs:O) c1) (b? A2 (ps:O) c2) V/\jY V V q/\jR V w6 136 (aB q)) ⟨HI7,aj6,Θ⟩ (λV hV=>?_);obtain⟨hV1,T,AQ⟩:=hV;have O8:=ah hV1.drew;have ω:Hid (jY V.drew (V.drew:O) q):=⟨T.e,T.c,T.g⟩;have z:jR V.drew w6 136 (aB q):=AQ;clear X G j Θ HI7 aj6 F hV1 T AQ;generalize (w6:O)=lb at*;have G:=ce O8.blk 1;have y0:=ce z 0;have y1:=ce z 1;have y2:=ce z 2;have y3:=ce z 3;have y4:=ce z 4;have y5:=ce z 5;have y6:=ce z 6;have y7:=ce z 7;have y8:=ce z 8;have y9:=ce z 9;obtain⟨-,z1,z2,z3,z4,z5,z6,z7,z8,z9,z10,-⟩:=O8.tab.PL k H;obtain⟨g',cp',arr',ν,_,au6,Ro,_⟩:=se O8.tab.own jS;injection ν with ν _ _
  cases ν
  have fz:=Ro.frozen;rw[<-Yr]at z1 z2 z3 z4 z5 z6 z7 z8 z9 z10;clear z Ro;refine kG (S:=(λw'=>w'.cell? ⟨fb,1,Z⟩=M (b? (aC g) cs c1)/\(oZ 10 w' lb q))) (s:=8) oo ?_;refine sU ⟨G,y0,y1,y2,y3,y4,y5,y6,y7,y8,y9⟩ ?_;generalize V.drew=V3 at*;refine oY 8 λK hK=>?_;go_simp;refine hK.out _ _ (λh=>qch) ?_;clear hK K;refine az ?_;refine yi ?_;have ψ:=O8.low rfl k H q (HQK▸ε.2) ω (M:=(w5:O)) β.1 β.2.1 β.2.2 hpb HFR;clear G y0 y1 y2 y3 y4 y5 y6 y7 y8 y9 z1 z2 z3 z4 z5 z6 z7 z8 z9 z10 fz au6 O8 ω;go_wp2_with fail;refine zi (λV=>uM w fb (cs.set k (rc cs[k] q)) ps (b? (aC g) (cs:O) c1) (b? A2 (ps:O) c2) V) ψ (λV4 H4=>?_);clear ψ;have HB4:=ah H4.below.size;have α:=H4.blk.cell 0;simp only[bh,bm]at α;refine(te fb _ ps k (by have:=HL.2;omega) w V4 HB4 α H4.blk.frozen H4.row H4.YW).mono ?_;rintro e w9⟨rfl,v',W1,rfl,hr,hg,hv⟩;have Ψ:=ah (H4.told hr hg hv);have HNP:Hid (TS ((W1.setCell ⟨fb,0,Z⟩ v').cell? ⟨fb,0,Z⟩)=(ps:O)+1):=by
   have:=Ψ.blk.cell 0;simp only[bh,bm]at this;show _=_;rw[this];exact P8 hr
  have IU:Hid ((cs.set k (rc cs[k] q)).map (·.s)=Aw (cs.map (·.s)) k):=by
   show _=_;rw[Fl,iJ];congr 1;show({cs[k].s with k:=q.s}:mq)=_;rw[HQK,ε.1];simp
  clear hr hg hv α H4;go_wp2;go_roundw
  case rel=>exact⟨_,ps++[k],_,v',m,Ψ,by show _=_;rw[IU,HE,YH],by show _/\_;rw[IU,cd,fT];have:=MP.out;have:=HL.out;omega⟩
  rw[HNP,HPL];have:=HL.2;omega
def BJ(w:jC)(t:E mq)(e:bi6)(w':jC):Prop:=Below w w w'/\∃A c cs d,e=a? (d? #[jN A cs c,jJ d,jJ 0])/\cs.map (·.s)=t/\lF w' w (cU A cs c) cs/\∀m∈cs,mr w m
variable{t:E mq}
def BJ.yes{c:O}{d:I}(h:cs.map (·.s)=t)(b:Below w w w')(a:lF w' w (cU A cs c) cs)(e:∀m∈cs,mr w m):BJ w t (a? (d? #[jN A cs c,jJ d,jJ 0])) w':=⟨b,A,c,cs,d,rfl,h,a,e⟩
def RV(A:w? jG)(ms:E jZ)(cap:O)(c b:I)(hu:U c)(w:jC)(hT:Tb w)(B:oI w A ms):jE Tryz.prog 124 #[jN A ms cap,jK c,jK b] w (BJ w ((ms.map (·.s)).filter (vD c b))):=by
 have hl:=B.len;have QR:=ah (ql A ms cap w hT B);have HF:Hid (∀m∈ms,n_ m.s):=λx hx=>(B.g.all _ (dq.2 ⟨x,hx,rfl⟩)).fit;have HS:=ah B.tab;clear B hT;go_in;go_wp2_with fail;refine QR.mono ?_;rintro r J⟨rfl,hb⟩;have D:=ah (Below.two hb (jP (jQ J) (m? #[jK c,jK b] 306)));have G:=ah (jR.new J 306 #[jK c,jK b]);have ε:=hb.size;clear hb QR;go_wp2_with fail;generalize (J:O)=n at*;generalize J.alloc (m? #[jK c,jK b] 306)=V at*;have q:=ce G 0;have t:=ce G 1;refine bi1 (S:=λw9=>(bI w9 n c)/\w9.cell? ⟨n,1,Z⟩=M (c? n? b)) oo ⟨q,t⟩ (λd=>?_);have K:=ah G.drew;have H:=ah D.drew;clear G D q t;generalize V.drew=V2 at*;refine re d ?_;refine pL 1 λF k=>?_;go_simp;refine(K5 A ms cap hl HF V2 (HS.later H)).mono ?_;rintro e w2⟨⟨v,cs,rfl,f,z,C⟩,j⟩;have BG:=ah C;have y:=ah (Below.two H j);have T:=ah (K.later j);have xd:=ah z;have Y:=K.lt;have α:=H.size;have R:=j.size;have IU:=ah f;have γ:(cs:O)=(ms:O):=by have:=C? ez f;rwa[ax,ax]at this
 clear j z f K H C;have q:=ce T 0;have t:=ce T 1;refine k.out _ _ ⟨q,t⟩ (λd=>?_);clear k F;refine az ?_;refine pL 4 λF k=>?_;go_simp;refine(KW v cs c b hu jS (RO IU HF) V2 w2 R xd).mono ?_;rintro e w3⟨⟨v3,rfl,EE⟩,h⟩;have β:(bB w w3):=y.trans (h.mono α);have W:=ah EE;obtain⟨A3,c3,rfl,_,_,_⟩:=li EE.own;have L:Hid ((bI w3 n c)/\w3.cell? ⟨n,1,Z⟩=M (c? n? b)):=⟨(h.cell (p:=⟨n,0,Z⟩) Y).trans q,(h.cell (p:=⟨n,1,Z⟩) Y).trans t⟩;clear h EE q t T y xd Y;have δ:=fe (nv c b) cs;have X:Hid ((cs.filter (nv c b)).map (·.s)=(ms.map (·.s)).filter (vD c b)):=by show _=_;rw[wI,IU]
 have N:Hid (∀m∈cs.filter (nv c b),mr V2 m):=λm hm=>BG m (eN.1 hm).1;generalize cs.filter (nv c b)=fs at*;refine k.out _ _ L (λd=>?_);clear k F;refine az ?_;refine pL 5 λF k=>?_;go_simp;refine k.out _ _ L (λd=>?_);clear k F;refine az ?_;refine hdn ?_;clear d L;have Up:IntKind.i64.wrap ((ms:I)-(fs:I))=(ms:I)-(fs:I):=dv _ jS;go_wp2;go_ret3;exact BJ.yes X β ⟨own_base W.own jS,W.ok,W.ap⟩ (λm hm=>(N m hm).mono jS)
def IZ.below{b o:O}{x:mV}(h:IZ w b o x)(d:Below B w w')(c:b<B):IZ w' b o x:=by
 have q:∀(i:O)(v:jD),w.cell? ⟨b,i,Z⟩=M v->w'.cell? ⟨b,i,Z⟩=M v:=λi v a=>(d.cell (p:=⟨b,i,Z⟩) c).trans a;exact⟨q _ _ h.c0,q _ _ h.c1,q _ _ h.c2,q _ _ h.c3⟩
def lA(l:E mV)(seq:I):E mV:=l.filter λx=>decide (seq<=x.seq)
def Og{l:E mV}{seq:I}(h:k<l):lA (l.take (k+1)) seq=lA (l.take k) seq++if seq<=l[k].seq then[l[k]]else[]:=by
 unfold lA;rw[aj h,gQ];congr 1;rw[eC];simp
def OL(b:I)(A:w? jG)(l:E mV)(cap:O)(seq:I)(hl:l.length<=1000)(w:jC)(N:Eb w w A l):jE Tryz.prog 84 #[g? #[jK b,jN A l cap],jK seq] w λe w'=>(∃H c,e=a? (b? H (lA l seq).length c)/\w'.ownsRow w 59 4 (b? H (lA l seq).length c) (lA l seq).length ((lA l seq).flatMap nE))/\Below w w w':=by
 obtain⟨i0,D,r,B,t⟩:=bi5 Tryz.Md;have X:=ah N;clear N;go_in;go_wp2_with fail;go_loopw[5,11] (λv i wr=>∃k:O,i=(aJ k)/\k<=l/\Hid (wr.ownsRow w 59 4 v (lA (l.take k) seq).length ((lA (l.take k) seq).flatMap nE))/\(bB w wr)) (λ_ i _=>l-(av i).toNat)
 case atStart=>exact⟨0,rfl,be _,dY _ _ _ _,jP (jQ w) _⟩
 obtain⟨k,rfl,hk,d,HB⟩:=hrel;by_cases J:k<l
 .have d1:decide ((k:I)<l.length)=t?:=ae;obtain⟨bb,Y,rfl,hb,G⟩:=X.at_ jS;obtain⟨Y_,i1,i2,i3⟩:=(G k J).below HB hb;have Q:bb<wr.heap.size:=qes;have T:(0:I)<=k:=jS;have β:(k:I)<l.length:=jS;have o:=ah (Og (seq:=seq) J);have V:(lA (l.take k) seq).length<=1000:=by unfold lA;exact a_ (fe _ _) qlt
  obtain⟨C,c2,rfl,-,-,-⟩:=li d;clear G;generalize l[k]=x at*;generalize lA (l.take k) seq=K at*;by_cases m:seq<=x.seq
  .have d2:decide (seq<=x.seq)=t?:=F? m;rw[B? m]at o;have n:=ah (jP HB (m? (bL x) 59));have y:=ah (jP n (m? (bL x) 59));have α:=HB.size;have h:jR ((wr.alloc (m? (bL x) 59)).alloc (m? (bL x) 59)) (dE wr) 59 (bL x):=by
    have:=jR.new (wr.alloc (m? (bL x) 59)) 59 (bL x);rwa[show(wr.alloc (m? (bL x) 59)).heap.size=(wr:O)+1 by simp]at this
   go_wp2_with(at_builtin;refine Stop.i ?_);unfold Stop;refine kr _ rfl (.tmp 19) (.tmp 21) 53 rfl w 59 i0 _ 4 40 Tryz.underlying53 D r B t rfl B8 (b? C K c2) K _ rfl ((d.alloc (m? (bL x) 59)).alloc _) _ _ 1 1 [jK x.seq,jK x.tm,jL x.text,jK x.sum] rfl rfl (tY h) (λu L=>by simp at L;rcases L with rfl|rfl|rfl|rfl<;>rfl) O0 jS mO ?_;intro R W f a _;have s:(bB w W):=y.grown a y.size (λj e=>qp d j e);have IS:Hid (W.ownsRow w 59 4 R (lA (l.take (k+1)) seq).length ((lA (l.take (k+1)) seq).flatMap nE)):=by
    show gX _ _ _ _ _ _ _;rw[o,cd];simpa[eZ,nE]using f
   clear f a d HB n y h;go_wp2;go_roundw
   case rel=>exact⟨k+1,CJ,jS,IS,s⟩
   exact No
  have d2:decide (seq<=x.seq)=u?:=E? m;rw[A? m,eB]at o;have n:=ah (jP HB (m? (bL x) 59));have z:=ah (d.alloc (m? (bL x) 59));clear d HB m;go_wp2;go_roundw
  case rel=>exact⟨k+1,CJ,jS,by rw[o];exact z,n⟩
  exact No
 have F:k=(l:O):=jS;subst F;have d1:decide ((l:I)<l)=u?:=lV;rw[dP]at d;obtain⟨C,c2,rfl,-,-,-⟩:=li d;go_wp2;go_ret;exact⟨⟨C,c2,rfl,d⟩,HB⟩
def mU(w:jC)(r:K? I Sk)(e:bi6)(w':jC):Prop:=Below w w w'/\match r with
 |.error n=>e=a? (d? #[cL,jJ n])
 |.ok s=>∃m:SkM,m.s=s/\e=a? (d? #[nT m,jJ 0])/\jY w' w' m/\lY (w<= ·) m
variable{r:K? I Sk}
def mU.no{n:I}(h:r=.error n)(a:Below w w w'):mU w r (a? (d? #[cL,jJ n])) w':=⟨a,by rw[h]⟩
variable{m:SkM}
def mU.yes(h:r=.ok m.s)(b:Below w w w')(a:jY w' w' m)(hi:lY (w<= ·) m):mU w r (a? (d? #[nT m,jJ 0])) w':=⟨b,by rw[h];exact⟨m,rfl,rfl,a,hi⟩⟩
variable{ks:E O}
def za(h:Rd w B A (lC ks))(g:0<ks.length):∃b a,A=M ⟨b,a,Z⟩/\b<B/\∀k(c:k<ks.length),w.cell? ⟨b,a+k,Z⟩=M (c? o? (ks[k]:I)):=by
 obtain⟨b,a,e,f,d⟩:=Rd.at_ h (by simpa[lC]using g);exact⟨b,a,e,f,λk c=>d k _ (by simp[lC,c])⟩
def Pw{kind:Int}(h:k<ks)(a:Sk):nN t kind (ks.take (k+1)) a=if(t[ks[k]]?.map (·.k.kind))=some kind then mZ (nN t kind (ks.take k) a) ((t[ks[k]]?.map (·.k)).getD (nN t kind (ks.take k) a))else nN t kind (ks.take k) a:=by
 have c:∀(l m:List Nat)(a:Sk),nN t kind (l++m) a=nN t kind m (nN t kind l a):=λl=>by
  induction l with
  |nil=>intro m a;rfl
  |cons x l b=>intro m a;rw[dj,nN,nN,b]
 rw[aj h,c];rfl
def lY.both{p q:O->Prop}(h:lY p m)(k:lY q m):lY (λb=>p b/\q b) m:=⟨λx a e=>⟨h.e x a e,k.e x a e⟩,λx a e=>⟨h.c x a e,k.c x a e⟩,λx a e=>⟨h.g x a e,k.g x a e⟩⟩
structure ag6(m:SkM) where
def Js(m:SkM):ag6 m:=⟨⟩
instance(m:SkM):CoeOut (ag6 m) (E jD):=⟨λ_=>[jJ m.s.kind,jJ m.s.level,jN m.ea m.s.e m.ec,jJ m.s.bits,jL m.s.regs,jJ m.s.rows,jJ m.s.cols,jN m.ca m.s.c m.cc,jJ m.s.fine,jN m.ga m.s.g m.gc]⟩
structure ag7(m:SkM) where
def Tv(m:SkM):ag7 m:=⟨⟩
instance(m:SkM):CoeOut (ag7 m) (x? jD):=⟨λ_=>#[jJ m.s.kind,jJ m.s.level,jN m.ea m.s.e m.ec,jJ m.s.bits,jL m.s.regs,jJ m.s.rows,jJ m.s.cols,jN m.ca m.s.c m.cc,jJ m.s.fine,jN m.ga m.s.g m.gc]⟩
structure ag5 where
def Nf:ag5:=⟨⟩
instance:CoeOut ag5 (E jD):=⟨λ_=>[jJ 0,jJ 0,jM,jJ 0,f? ⟨#[]⟩,jJ 0,jJ 0,jM,jJ 0,jM]⟩
noncomputable def Tt(a:w? (E O))(ms:E jZ)(kind:I):K? I Sk:=match a with|none=>.error 50|some ks=>if 1<=kind/\kind<=3 then .ok (nN (ms.map (·.s)) kind ks (nC kind))else .error 101
abbrev ag4(w:jC)(z bs:O)(R:E (O×jH×E jD))(A1:w? jG)(ms:E jZ)(kind:I)(ks:E O)(i:jD)(wr:jC):Prop:=∃(k:O)(m:SkM),i=c? o? (k:I)/\k<=ks/\Hid (m.s=nN (ms.map (·.s)) kind (ks.take k) (nC kind))/\Hid (Hold w wr ((bs,136,Js m)::(z,136,Nf)::R))/\Hid (jY wr wr m)/\Hid (lY (λb=>z<b/\b≠bs) m)/\Hid (Rd wr wr A1 (lC ks))
def FG(A:Option jG)(ms:List jZ)(cap:Nat)(sc:ByteArray)(kind:Int)(N:Option (List Nat))(hml:∀ks,N=some ks->(ks:Nat)<=20/\∀k∈ks,k<(ms:Nat))(w:jC)(hE:Er w)(hS:oI w A ms):((∀w',Below w w w'->jE Tryz.prog 148 #[jN A ms cap,jL sc] w' (pA w' N))->jE Tryz.prog 101 #[jN A ms cap,jL sc,jJ kind] w (mU w (Tt N ms kind)))/\(∀(n:Int)(GA:Option jG)(l:List Gr)(gc:Nat)(to:Int),(∀w',Below w w w'->jE Tryz.prog 153 #[.agg #[jK n,jN GA l gc],jK to,jN A ms cap,jL sc] w' (pA w' N))->jE Tryz.prog 108 #[.agg #[jK n,jN GA l gc],jK to,jN A ms cap,jL sc,jJ kind] w (mU w (Tt N ms kind))):=by
 have h20:=hS.len;have HS:=ah hS;have HE:=ah hE;have Vy:Hid (Tt N ms kind=match(generalizing:=false) N with|none=>.error 50|some ks=>if 1<=kind/\kind<=3 then .ok (nN (ms.map (·.s)) kind ks (nC kind))else .error 101):=rfl;generalize Tt N ms kind=rr at*;clear hS hE;refine⟨λqm=>?a,λn GA l gc to qm=>?b⟩
 case' a=>
  have QM:=ah qm;have hA:=trivial;clear qm;go_in;go_wp2_with fail;refine kf (λ_=>True) ((Hold.nil w).alloc w 136 Nf) trivial (λV f _=>?_);refine(QM V f.below).mono ?_;obtain⟨z,hz⟩:∃z,(w:Nat)=z:=⟨_,rfl⟩;obtain⟨R,hR⟩:∃R,([]:List (Nat×jH×List jD))=R:=⟨_,rfl⟩;rw[hz,hR]at f;rw[hz]
 case' b=>
  have QM:=ah qm;clear qm;go_in;go_wp2_with fail;refine kf (λ_=>True) (((Hold.nil w).alloc w 111 [jK n,jN GA l gc]).alloc (w.heap.size+1) 136 Nf) trivial (λV f _=>?_);refine(QM V f.below).mono ?_;obtain⟨z,hz⟩:∃z,w.heap.size+1=z:=⟨_,rfl⟩;rw[hz]at f;rw[hz];obtain⟨R,hR⟩:∃R,[(w.heap.size,(111:jH),([jK n,jN GA l gc]:List jD))]=R:=⟨_,rfl⟩;rw[hR]at f
 all_goals
  have hzw:w<=z:=by omega
  clear hz hR;rintro e w1⟨α,h⟩;replace f:=ah (f.call α);have hz0:z<w1:=(f.blk _ ab).2.lt;have hs1:=α.size;clear α QM;rcases N with _|ks
  .obtain rfl:=h;have HF:Hid (rr=.error 50):=Vy;clear Vy;have C:=aS (f.all 0 Nf);have x:=fk (f.facts);go_wp2_with fail;refine kw (λ_=>True) C trivial (λV9 H9 _=>?_);have hq:=fk (H9.at_ 0);clear x C;refine jF (v:=.tuple #[.agg (xl 0 0).toArray,jJ 50]) (by simp[results,Tryz.results101,Tryz.results108,go_sem,hq]) rfl ?_;exact mU.no HF H9.below
  obtain⟨A1,c1,rfl,η,hlo⟩:=h;have wZ:=ah η;have HA1:=ah (uS η);obtain⟨hks,χ⟩:=hml ks rfl;have Fl:=ah χ;have W:Hid (rr=if 1<=kind/\kind<=3 then .ok (nN (ms.map (·.s)) kind ks (nC kind))else .error 101):=Vy;clear Vy η hlo χ;go_wp2_with fail;by_cases hk:1<=kind/\kind<=3
  .have HF:Hid (rr=.ok (nN (ms.map (·.s)) kind ks (nC kind))):=by show _=_;rw[W,if_pos hk]
   have θ:=ah (wj hk);clear W;refine(AE kind hk w1).mono ?_;rintro e D⟨m0,ν,rfl,G,β,r⟩;replace f:=ah (f.call r);have Vq:Hid (Rd D D A1 (lC ks)):=(Rd.below wZ r).more r.size;have γ:=lY.both β.inn G.inn;have HA2:Hid (lC ks≠[]->∀ad,A1=some ad->ad.block<D):=λh ad e=>cn (HA1 h ad e) r.size;have δ:Hid (lY (λb=>z<b/\b≠(D:Nat)) m0):=γ.mono λb hb=>by omega
   have HA:=ah (f.alloc D 136 (Js m0) rfl);have L:=jP (jQ D) (.cells (Tv m0) 136);have ψ:=ah (G.later L);have ω:Hid (Rd (D.alloc (.cells (Tv m0) 136)) (D.alloc (.cells (Tv m0) 136)).heap.size A1 (lC ks)):=(Rd.below Vq L).more L.size;have Zs:=ah ν;have x:=fk (f.facts);have hbs:z<D:=x.1;clear r wZ Vq γ L G β ν f;unfold nT;go_wp2_with fail;clear x;first|(have:=hA;go_loopw[34] (λi wr=>ag4 w z D R A1 ms kind ks i wr) (λi _=>ks-(av i).toNat))|go_loopw[40] (λi wr=>ag4 w z D R A1 ms kind ks i wr) (λi _=>ks-(av i).toNat)
   case atStart=>exact⟨0,m0,rfl,be _,Zs,HA,ψ,δ.out,ω⟩
   clear HA ψ δ ω Zs;obtain⟨k,m,rfl,hkk,uL,H,oH,I4,wZ⟩:=hrel;generalize (D:Nat)=bs at*;by_cases h1:k<ks
   .have d1:decide ((k:Int)<ks)=true:=ae;obtain⟨b1,μ,rfl,α,Ψ⟩:=za wZ (by omega);have aT8:b1<bs:=HA2 (λe=>by have:=congrArg ez e;unfold lC at this;rw[ax]at this;simp only[dp]at this;omega) _ rfl;have i0:=Ψ k h1;have ha:=Fl _ (ar h1);have xO:(0:Int)<=k:=by omega
    have xN:(k:Int)<ks:=by omega
    have Y:=Pw (t:=ms.map (·.s)) (kind:=kind) h1 (nC kind);have ρ:(ms.map (·.s))[ks[k]]? =some ms[ks[k]].s:=by rw[eD,an ha];rfl
    rw[ρ]at Y;simp only[jb,Option.some.injEq,jz]at Y;have T:=ah Y;have HG:=ah (HS.gs ha);have J:=ah ((HS.ok ha).later H.below).k;obtain⟨b,d,rfl,hb,hc⟩:=HS.tab.at_ (by omega);have Yq:=ah (hc _ ha);have hbw:b<wr:=by have:=H.size;omega
    have ha1:(0:Int)<=(ks[k]:Int):=by omega
    have ha2:(ks[k]:Int)<(ms:Int):=by omega
    have F:ms[ks[k]].m.s=ms[ks[k]].s.k:=ms[ks[k]].hk;have jw:=(Yq.below H.below hb).c1;clear Y ρ hc Ψ;generalize hae:ks[k]=a at*;clear hae;generalize ms[a]=q at*;by_cases hq:q.m.s.kind=kind
    .have HQ:Hid (q.s.k.kind=kind):=by rw[<-F];exact hq
     have E_:Hid (nN (ms.map (·.s)) kind (ks.take (k+1)) (nC kind)=mZ m.s q.m.s):=by show _=_;rw[T.out,if_pos HQ.out,<-uL.out,F]
     have ξ:GK q.m.s:=by rw[F];exact HG.k
     have Lt:Hid (GK m.s/\m.s.kind=kind):=by show _/\_;rw[uL];exact LI HS.g _ (λj hj=>by rw[ax];exact Fl j (dy hj)) θ.1 θ.2.1
     have Δ:m.s.kind=q.m.s.kind:=by rw[Lt.2,hq]
     have n1:(q.m.s.kind !=kind)=false:=by simp[hq]
     have n2:(q.m.s.kind==kind)=true:=by simp[hq]
     have n3:decide (q.m.s.kind=kind)=true:=by simp[hq]
     have ε:Hid (jE Tryz.prog 78 #[nT m,nT q.m] wr.drew (wW wr.drew (mZ m.s q.m.s))):=vC m q.m Lt.1 ξ Δ wr.drew (HE.later H.below.drew) ⟨oH.e,oH.c,oH.g⟩ ⟨J.e,J.c,J.g⟩;unfold nT at ε;have Ls:=ah ((Yq.below H.below.drew hb));have Ω:=H.drew;clear T HG J Yq F ξ Δ Lt HQ oH I4;rw[hq]at jw;clear hq;have hRD:Hid (Rd wr.drew wr.drew (some ⟨b1,μ,none⟩) (lC ks)):=wZ;obtain⟨-,j1,j2,j3,j4,j5,j6,j7,j8,j9,Γ,-⟩:=Ls.out;clear Ls;generalize q.m=p at*;go_wp2_with fail;clear n1 n2 n3 jw i0 d1;replace H:=ah Ω;have y:=fk (H.at_ 0);obtain⟨y0,y1,y2,y3,y4,y5,y6,y7,y8,y9⟩:=y;clear Ω;refine kG (S:=(λw'=>w'.cell? ⟨bs,0,none⟩=some (.int .i64 m.s.kind)/\w'.cell? ⟨bs,1,none⟩=some (.int .i64 m.s.level)/\w'.cell? ⟨bs,2,none⟩=some (.slice m.ea m.s.e m.ec)/\w'.cell? ⟨bs,3,none⟩=some (.int .i64 m.s.bits)/\w'.cell? ⟨bs,4,none⟩=some (.string m.s.regs)/\w'.cell? ⟨bs,5,none⟩=some (.int .i64 m.s.rows)/\w'.cell? ⟨bs,6,none⟩=some (.int .i64 m.s.cols)/\w'.cell? ⟨bs,7,none⟩=some (.slice m.ca m.s.c m.cc)/\w'.cell? ⟨bs,8,none⟩=some (.int .i64 m.s.fine)/\w'.cell? ⟨bs,9,none⟩=some (.slice m.ga m.s.g m.gc)/\w'.cell? ⟨b,d+a*12+1,none⟩=some (.int .i64 p.s.kind)/\w'.cell? ⟨b,d+a*12+2,none⟩=some (.int .i64 p.s.level)/\w'.cell? ⟨b,d+a*12+3,none⟩=some (.slice p.ea p.s.e p.ec)/\w'.cell? ⟨b,d+a*12+4,none⟩=some (.int .i64 p.s.bits)/\w'.cell? ⟨b,d+a*12+5,none⟩=some (.string p.s.regs)/\w'.cell? ⟨b,d+a*12+6,none⟩=some (.int .i64 p.s.rows)/\w'.cell? ⟨b,d+a*12+7,none⟩=some (.int .i64 p.s.cols)/\w'.cell? ⟨b,d+a*12+8,none⟩=some (.slice p.ca p.s.c p.cc)/\w'.cell? ⟨b,d+a*12+9,none⟩=some (.int .i64 p.s.fine)/\w'.cell? ⟨b,d+a*12+10,none⟩=some (.slice p.ga p.s.g p.gc))) (s:=6) oo ?_;refine sU ⟨y0,y1,y2,y3,y4,y5,y6,y7,y8,y9,j1,j2,j3,j4,j5,j6,j7,j8,j9,Γ⟩ ?_;generalize wr.drew=V3 at*;refine oY 6 λK hK=>?_;go_simp;refine ε.mono ?_;rintro e w8⟨m8,Mh,rfl,tQ,wC,X⟩;have hz3:bs<V3:=(H.blk _ ab).2.lt;replace H:=ah (H.call X);have Vv:=ah Mh;have φ:=(Rd.below hRD X).more X.size;unfold nT;clear X ε Mh y0 y1 y2 y3 y4 y5 y6 y7 y8 y9 j1 j2 j3 j4 j5 j6 j7 j8 j9 Γ;refine hK.out _ _ (λh=>qch) ?_;clear hK K;refine az ?_;refine MZ ?_;have x:=fk (H.facts);refine oY 10 λK hK=>?_;go_simp;have HR:=aS (H.all 0 (Js m8));have qO:lY (λb=>z<b/\b≠bs) m8:=wC.inn.mono λb(hb:V3<=b)=>jS;have nZ:=aS (jY.lp (g:=bs) (qO.mono λb hb=>hb.2) (Js m8) 0 tQ);have XG:=xr (g:=bs) (λad e=>by cases e;show b1≠bs;omega) (Js m8) 0 φ;simp only[lp,au,ao,ak,am]at XG;refine hK.out _ _ (λh=>qch) ?_;clear hK K;refine az ?_;refine MZ ?_;refine yi ?_;have Yo:Hid (m8.s=nN (ms.map (·.s)) kind (ks.take (k+1)) (nC kind)):=by show _=_;rw[Vv,E_]
     have HRh:=ah HR;have HKh:=ah nZ;have HIh:=ah qO;have HDh:=ah XG;clear HR nZ qO XG x tQ wC H φ;go_wp2;go_roundw
     case rel=>exact⟨k+1,m8,CJ,jS,Yo,HRh,HKh,HIh,HDh⟩
     exact No
    have HQ:Hid (¬q.s.k.kind=kind):=by rw[<-F];exact hq
    have E_:Hid (nN (ms.map (·.s)) kind (ks.take (k+1)) (nC kind)=m.s):=by show _=_;rw[T,if_neg HQ,<-uL]
    have n1:(q.m.s.kind !=kind)=true:=by simp[hq]
    have n2:(q.m.s.kind==kind)=false:=by simp[hq]
    have n3:decide (q.m.s.kind=kind)=false:=by simp[hq]
    clear T HG J Yq F hq;go_wp2;go_roundw
    case rel=>exact⟨k+1,m,CJ,jS,E_.symm,H,oH,I4,wZ⟩
    exact No
   have hkn:k=(ks:Nat):=jS;subst hkn;have d1:decide ((ks:Int)<ks)=false:=lV;have Yo:Hid (rr=.ok m.s):=by show _=_;rw[HF,uL,dP]
   have C:=aS (H.all 1 (Js m));have Ξ:=aS (jY.lp (g:=z) (I4.mono λb hb=>jS) (Js m) 0 oH);have x:=fk (H.facts);go_wp2_with fail;refine kw (λV=>jY V V m) C Ξ (λV9 H9 nZ=>?_);have hq:=fk (H9.at_ 1);clear x C Ξ;refine jF (v:=.tuple #[.agg (Tv m),jJ 0]) (by simp[results,Tryz.results101,Tryz.results108,go_sem,hq]) rfl ?_;exact mU.yes Yo H9.below nZ (I4.mono λb hb=>jS)
  have HF:Hid (rr=.error 101):=by show _=_;rw[W,if_neg hk]
  clear W wZ Fl;have hnn:=JX kind hk w1;simp only[xl]at hnn;refine hnn.mono ?_;rintro e D⟨rfl,r⟩;replace f:=ah (f.call r);clear r;have Θ:=aS (f.all 0 Nf);have x:=fk (f.facts);have C:=Θ.alloc D 136 Nf lV;go_wp2_with fail;refine kw (λ_=>True) C trivial (λV9 H9 _=>?_);have hq:=fk (H9.at_ 1);clear x C Θ;refine jF (v:=.tuple #[cL,jJ 101]) (by simp[results,Tryz.results101,Tryz.results108,go_sem,hq]) rfl ?_;exact mU.no HF H9.below
def FQ(A:w? jG)(ms:E jZ)(cap:O)(sc:v?)(kind:I)(hs:sc.size<=100000)(w:jC)(d:Tb w)(c:Er w)(b:oI w A ms):jE Tryz.prog 101 #[jN A ms cap,jL sc,jJ kind] w (mU w (kA (ms.map (·.s)) sc kind)):=by
 have a:∀ks,nj sc (ms.map (·.s))=M ks->(ks:O)<=20/\∀k∈ks,k<(ms:O):=λks h=>by
  have:=b.len;unfold nj at h;split at h
  .cases h;exact⟨a_ (qU sc _ _) qlm,λk a=>by have:=qw a;rwa[ax]at this⟩
  cases h
 exact(FG A ms cap sc kind _ a w c b).1 λw' h=>L7 A ms cap sc hs w' (d.later h) (b.later h)
end Go.Proofs.YtfcnedcahoifoaaGreatDoor

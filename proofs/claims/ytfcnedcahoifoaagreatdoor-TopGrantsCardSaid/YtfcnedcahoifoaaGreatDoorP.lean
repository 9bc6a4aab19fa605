import Derived.PlainAid
import Derived.Test.YtfcnedcahoifoaaGreatDoorJ
import Derived.Deep.Slices
import Derived.Deep.Fields
import Derived.ChangeSame
import Derived.ShutString
import Derived.ProofKit
import Derived.Lib.SmallJoins
import Derived.Lib.LaidIn
import Derived.Lib.LaidU8T
import Derived.LaidHandle
import Derived.Stop.Joined
import Derived.Deep.DeepHandedRow
import Derived.Deep.DeepWitnessRowRef
import Derived.Test.YtfcnedcahoifoaaGreatDoorL
open Go.RowKit
open _root_ renaming Array→x?,Bool→z?,ByteArray→v?,Except→K?,Int→I,List→E,Nat→O,Option→w?,UInt8→y?,absurd→H?,and_true→I?,beq_eq_false_iff_ne→G?,congrArg→C?,decide_eq_false→E?,decide_eq_true_eq→D?,decide_eq_true→F?,if_neg→A?,if_pos→B?
open _root_.Array renaming getElem?_eq_none→fH,getElem?_eq_some_iff→aw
open _root_.Bool renaming and_eq_true→ba,and_true→bw6,eq_iff_iff→gU,false_and→eO,false_eq_true→bw8,false→u?,or_eq_true→ft,true_and→eF,true→t?
open _root_.ByteArray renaming mk→jf,size_append→fc,size_extract→fI
open _root_.Classical renaming byContradiction→bw4
open _root_.Go renaming Act→gG,Addr→jG,Calls→jE,Code→bk9,Ending→bi6,Exit→bk7,Fence→bz1,Operand→bl7,Oper→bk0,Program→bi3,TypeId→jH,Value→jD,World→jC,bodyPost_ret→jF,info_parts→bi5,sizeOf→by1,size_madeCells→bz0,wpAnyH_take→bk5,wpList_append_own→bk3,wpQuiet_nil→bl0,wp_region_held_drew→bi1
open _root_.Go.Act renaming put→gL
open _root_.Go.Addr renaming add→iU
open _root_.Go.Code renaming region→jo,wp_mono→jg
open _root_.Go.DataW renaming trod→iQ
open _root_.Go.Ending renaming returned→a?
open _root_.Go.Instr renaming makeSlice→bx9,next→fw,slice→gI
open _root_.Go.IntKind renaming i64→o?,u64→n?,u8→p?
open _root_.Go.IntWalk renaming i64_in→dv
open _root_.Go.Lib renaming decodeN_shape→bw1,decodeN→iW,encodeRune→bw3,extract_data→bx5,run_next_any_at→fp,run_next_end_at→fq
open _root_.Go.Lit renaming int→iK
open _root_.Go.Obj renaming cells→m?
open _root_.Go.Op renaming bytesLess→dW,stringOp→fK
open _root_.Go.Oper renaming semAt_some→db,wp→je
open _root_.Go.Program renaming elem→gR
open _root_.Go.Region renaming Mode→fD,free→iV,noSelect→gS,ready→eE,wanted→eQ
open _root_.Go.Result renaming andThen_ok→iF,andThen→dw
open _root_.Go.RowKit renaming intOf→av
open _root_.Go.Sem renaming run_bind→eT,run_pure→fX
open _root_.Go.Utf8 renaming encode→bx7,valid→bx6
open _root_.Go.Value renaming agg→g?,bool→h?,int→br,ownBlock→gy,pointer→e?,slice→b?,string→f?,tuple→d?
open _root_.Go.World renaming block_lt_of_cell?→b8,cell?→fJ,drewN_drewN→jr,ownsRow_nil→dY,ownsRow→gX
open _root_.List renaming all_append→gT,all_cons→bw2,all_eq_true→dZ,all_nil→by9,append_assoc→eH,append_eq_nil_iff→iM,append_nil→eB,cons_append→dj,drop_eq_getElem_cons→dN,drop_eq_nil_of_le→ei,eq_nil_of_length_eq_zero→da,ext_getElem→iO,filter_append→gQ,filter_congr→by4,filter_cons→eC,filter_eq_nil_iff→bx2,filter_eq_self→eY,filter_filter→by2,find?_append→bx3,find?_cons→by0,findIdx?_cons→jl,findIdx?_eq_none_iff→fU,flatMap_append→eZ,flatMap_cons→dg,foldl_append→fE,foldl_cons→bw0,getD_eq_getElem?_getD→aP,getElem?_append_left→eL,getElem?_append_right→d7,getElem?_cons_succ→bo,getElem?_cons_zero→bm,getElem?_eq_getElem→an,getElem?_eq_some_iff→ci,getElem?_map→eD,getElem?_set_self→gM,getElem?_set→jq,getElem?_take→gJ,getElem_cons_succ→ej,getElem_cons_zero→dQ,getElem_map→gD,getElem_mem→ar,getElem_of_mem→dR,getElem_set→eW,getElem_take→jt,getElem_toArray→eK,length_append→cd,length_cons→c_,length_drop→dr,length_filter_le→fe,length_map→ax,length_nil→dp,length_pos_iff→aQ,length_replicate→ey,length_set→eq,length_singleton→fT,length_take→cv,length→ez,map_append→dH,map_cons→df,map_map→fY,map_nil→jA,map_set→iJ,map_take→iR,mem_append→ed,mem_cons_of_mem→dS,mem_cons_self→di,mem_cons→cw,mem_filter→eN,mem_flatMap→ir,mem_map→dq,mem_of_find?_eq_some→bw5,mem_of_getElem?→cm,mem_of_mem_drop→eJ,mem_of_mem_tail→bx8,mem_of_mem_take→dy,mem_or_eq_of_mem_set→dO,mem_range→dh,mem_singleton→eM,nil_append→dz,not_mem_nil→bv9,pairwise_cons→b6,pairwise_iff_getElem→cj,range_succ→fV,range→bu,replicate→de,setIfInBounds_toArray→bd,set_cons_succ→am,set_cons_zero→ak,take_append_drop→fQ,take_length→dP,take_of_length_le→cl,take_prefix→eS,take_succ_eq_append_getElem→aj,take_take→by3,take_zero→fO,take→by5
open _root_.Nat renaming add_assoc→gW,add_mul→iY,add_zero→ip,eq_zero_or_pos→fM,le_refl→ay,le_trans→a_,lt_or_ge→fB,lt_or_gt_of_ne→iD,lt_succ_iff_lt_or_eq→bw7,mul_comm→bw9,reduceAdd→ao,sub_self→bx4,zero_add→au,zero_le→be,zero_mul→fh
open _root_.Ne renaming symm→by6
open _root_.Option renaming getD_some→jz,map_some→jb,none→Z,some→M
open _root_.Or renaming inl→ge,inr→s?
open _root_.UInt8 renaming not_lt→by7,ofNat→gH
open _root_.Go.Ending renaming returned→ff
open _root_.Go.Value renaming int→c?
open _root_.Go.Value renaming slice→eo
open _root_.Or renaming inl→r?
set_option maxRecDepth 100000
set_option maxHeartbeats 16000000
set_option linter.unusedVariables false
set_option linter.unusedSimpArgs false
set_option linter.defProp false
namespace Go.Proofs.YtfcnedcahoifoaaGreatDoor
structure bf9 where
def qaA:bf9:=⟨⟩
instance:CoeOut bf9 jD:=⟨λ_=>f? ⟨#[]⟩⟩
structure bb4(x0:jC)(x1:jC) where
def qaC(b:jC)(a:jC):bb4 b a:=⟨⟩
instance(x0:jC)(x1:jC):CoeOut (bb4 x0 x1) Prop:=⟨λ_=>Hid (Below x0 x0 x1)⟩
instance(x0:jC)(x1:jC):CoeSort (bb4 x0 x1) Prop:=⟨λ_=>Hid (Below x0 x0 x1)⟩
structure bf7(x0:O) where
def qaE(a:O):bf7 a:=⟨⟩
instance(x0:O):CoeOut (bf7 x0) jD:=⟨λ_=>c? o? (x0:I)⟩
section
variable{w w':jC}{B B':O}{A:w? jG}{l:E kI}
end
def aH5{n e c k l o c1 c2 r:O}(w:n<=e)(p:1<n->c1=k)(s:2<n->c2=l)(t:3<n->r=o)(h:iW n c k l o≠(65533,1)):iW e c c1 c2 r=iW n c k l o:=by
 by_cases d:c<128
 .simp[iW,d]
 by_cases g:c/32=6
 .have j:¬c/16=14:=jS;have f:¬c/8=30:=jS;by_cases a:1<n/\k/64=2
  .have m:=p a.1;subst m;have b:1<e/\c1/64=2:=⟨jS,a.2⟩;simp only[iW,d,g,a,b,if_true,if_false,and_self,true_and]
  exact H? (by simp only[iW,d,g,j,f,a,if_false,and_false,false_and]) h
 by_cases j:c/16=14
 .have f:¬c/8=30:=jS;by_cases a:(1<n/\k/64=2)/\(2<n/\l/64=2)
  .have m:=p a.1.1;have q:=s a.2.1;subst m q;have b:(1<e/\c1/64=2)/\(2<e/\c2/64=2):=⟨⟨jS,a.1.2⟩,⟨jS,a.2.2⟩⟩;simp only[iW,d,g,j,a,b,if_true,if_false,and_self,true_and,false_and]
  exact H? (by simp only[iW,d,g,j,f,a,if_false,and_false,false_and,true_and]) h
 by_cases f:c/8=30
 .by_cases a:(1<n/\k/64=2)/\(2<n/\l/64=2)/\(3<n/\o/64=2)
  .have m:=p a.1.1;have q:=s a.2.1.1;have v:=t a.2.2.1;subst m q v;have b:(1<e/\c1/64=2)/\(2<e/\c2/64=2)/\(3<e/\r/64=2):=⟨⟨jS,a.1.2⟩,⟨jS,a.2.1.2⟩,⟨jS,a.2.2.2⟩⟩;simp only[iW,d,g,j,f,a,b,if_true,if_false,and_self,true_and,false_and]
  exact H? (by simp only[iW,d,g,j,f,a,if_false,and_false,false_and,true_and]) h
 exact H? (by simp only[iW,d,g,j,f,if_false,false_and]) h
def aM2{n d f w s x c1 c2 p:O}(C:n<=d)(B:1<=n)(q:1<n->c1=w)(t:2<n->c2=s)(y:3<n->p=x)(r:n=1->n<d->¬c1/64=2)(v:n=2->n<d->¬c2/64=2)(A:n=3->n<d->¬p/64=2)(h:iW n f w s x=(65533,1)):iW d f c1 c2 p=(65533,1):=by
 by_cases g:f<128
 .simp only[iW,g,if_true]at h⊢;exact h
 by_cases k:f/32=6
 .have l:¬f/16=14:=jS;have j:¬f/8=30:=jS;by_cases a:1<d/\c1/64=2
  .have b:1<n:=by
    rcases fB 1 n with h|h
    .exact h
    exact H? a.2 (r jS jS)
   have o:=q b
   subst o
   have c:1<n/\c1/64=2:=⟨b,a.2⟩
   simp only[iW,g,k,a,c,if_true,if_false,and_self,true_and]at h⊢
   exact h
  simp only[iW,g,k,l,j,a,if_false,and_false,false_and]
 by_cases l:f/16=14
 .have j:¬f/8=30:=jS;by_cases a:(1<d/\c1/64=2)/\(2<d/\c2/64=2)
  .have b:2<n:=by
    rcases fB 2 n with h|h
    .exact h
    by_cases e:n=1
    .exact H? a.1.2 (r e jS)
    exact H? a.2.2 (v jS jS)
   have o:=q jS
   have m:=t b
   subst o m
   have c:(1<n/\c1/64=2)/\(2<n/\c2/64=2):=⟨⟨jS,a.1.2⟩,⟨jS,a.2.2⟩⟩
   simp only[iW,g,k,l,a,c,if_true,if_false,and_self,true_and,false_and]at h⊢
   exact h
  simp only[iW,g,k,l,j,a,if_false,and_false,false_and,true_and]
 by_cases j:f/8=30
 .by_cases a:(1<d/\c1/64=2)/\(2<d/\c2/64=2)/\(3<d/\p/64=2)
  .have b:3<n:=by
    rcases fB 3 n with h|h
    .exact h
    by_cases e:n=1
    .exact H? a.1.2 (r e jS)
    by_cases m:n=2
    .exact H? a.2.1.2 (v m jS)
    exact H? a.2.2.2 (A jS jS)
   have o:=q jS
   have m:=t jS
   have z:=y b
   subst o m z
   have c:(1<n/\c1/64=2)/\(2<n/\c2/64=2)/\(3<n/\p/64=2):=⟨⟨jS,a.1.2⟩,⟨jS,a.2.1.2⟩,⟨jS,a.2.2.2⟩⟩
   simp only[iW,g,k,l,j,a,c,if_true,if_false,and_self,true_and,false_and]at h⊢
   exact h
  simp only[iW,g,k,l,j,a,if_false,and_false,false_and,true_and]
 simp only[iW,g,k,l,j,if_false,false_and]
variable{a b:E y?}
def ac8{i:O}(h:i<a.length):(a++b).getD i 0=a.getD i 0:=by
 rw[aP,aP,eL h]
def ak8{i:O}(h:i=a.length):(a++b).getD i 0=b.getD 0 0:=by
 rw[aP,aP,d7 jS,h,bx4]
def ao8(x:O×O):okR x=u?↔x=(65533,1):=by
 obtain⟨a,b⟩:=x;simp[okR]
def ah7(b:E y?)(c:a≠[])(h:okR (nP a)=t?):nP (a++b)=nP a:=by
 have d:=aQ.2 c;unfold nP;rw[ac8 d];refine aH5 (by rw[cd];omega) (λh=>by rw[ac8 h]) (λh=>by rw[ac8 h]) (λh=>by rw[ac8 h]) (λe=>?_);have:=(ao8 (nP a)).2 e;rw[h]at this
 cases this
def aB2(g:b≠[])(h:okR (nP b)=t?):¬(b.getD 0 0).toNat/64=2:=by
 intro e;have:okR (nP b)=u?:=by
  rw[ao8];unfold nP;have c:¬(b.getD 0 0).toNat<128:=jS;have d:¬(b.getD 0 0).toNat/32=6:=jS;have f:¬(b.getD 0 0).toNat/16=14:=jS;have a:¬(b.getD 0 0).toNat/8=30:=jS;simp only[iW,c,d,f,a,if_false,false_and]
 rw[h]at this
 cases this
def aq6(l:a≠[])(j:b≠[]->okR (nP b)=t?)(h:okR (nP a)=u?):okR (nP (a++b))=u?:=by
 have g:=aQ.2 l;rw[ao8]at h⊢;unfold nP at h⊢;rw[ac8 g];have f:a.length<(a++b).length->¬(b.getD 0 0).toNat/64=2:=λd=>by
  have c:b≠[]:=by rintro rfl;simp at d
  exact aB2 c (j c)
 refine aM2 (by rw[cd];omega) g (λh=>by rw[ac8 h]) (λh=>by rw[ac8 h]) (λh=>by rw[ac8 h]) (λe k=>by rw[ak8 e.symm];exact f k) (λe k=>by rw[ak8 e.symm];exact f k) (λe k=>by rw[ak8 e.symm];exact f k) h
def ah9{l:E y?}(h:l≠[]):oJ l=(okR (nP l)&&oJ (l.drop (nP l).2)):=by
 unfold oJ;rw[Mx h];rfl
section
open Go.RowKit Go.Shelf
attribute [local go_sem] db
end
section
variable{F:bz1}{n:O}{P:bi3}
end
section
attribute [local go_sem] db
end
section
variable{P:bi3}{md:fD}{ops:x? bk0}{Q:bk7->Act->jC->Prop}{l n:O}
end
section
attribute [local go_sem] db
end
section
attribute [local go_sem] db
def k8(l:E kI)(n:v?):v?×z?:=match l.find? λx=>x.1.toList==n.toList with
 |some x=>(x.2,t?)
 |none=>(⟨#[]⟩,u?)
variable{l:E kI}{n:v?}
def Ob(h:(k8 l n).2=u?)(x:kI):k8 (l++[x]) n=if x.1.toList==n.toList then(x.2,t?)else(⟨#[]⟩,u?):=by
 unfold k8 at h⊢;rw[bx3]
 cases e:l.find? λx=>x.1.toList==n.toList with
 |some y=>rw[e]at h;cases h
 |none=>
  simp only[Option.none_or,by0,List.find?_nil]
  cases a:x.1.toList==n.toList<;>rfl
def uy(h:(k8 l n).2=u?):k8 l n=(⟨#[]⟩,u?):=by
 unfold k8 at h⊢
 cases e:l.find? λx=>x.1.toList==n.toList with
 |some y=>rw[e]at h;cases h
 |none=>rfl
def Od(h:(k8 l n).2=t?)(t:E kI):k8 (l++t) n=k8 l n:=by
 unfold k8 at h⊢;rw[bx3]
 cases e:l.find? λx=>x.1.toList==n.toList with
 |some y=>rfl
 |none=>rw[e]at h;cases h
end
variable{l:E kI}{k:O}
def aG8(h:k<l.length)(n:v?):(k8 (l.take (k+1)) n).2=((k8 (l.take k) n).2||((k7 l k).1.toList==n.toList)):=by
 rw[BQ h]
 cases e:(k8 (l.take k) n).2 with
 |true=>rw[Od e,e];rfl
 |false=>rw[Ob e];cases(k7 l k).1.toList==n.toList<;>rfl
def ah8(a b:v?):tx (a++b)=tx a++tx b:=by
 show(a++b).data.toList=a.data.toList++b.data.toList;rw[ByteArray.data_append,Array.toList_append]
abbrev T9:=O×O
def ac0(d:T9):E y?:=bw3 (d.1:I)
def aM0(l:E y?):Lib.decodeL l=nP l:=Lib.decodeL_N l
variable{d:T9}
def am3(h:okR d=t?):¬(d.1=65533/\d.2=1):=by
 intro e;simp[okR,e.1,e.2]at h
variable{l:E y?}
def al6(a:l≠[])(ok:okR (nP l)=t?):ac0 (nP l)=l.take (nP l).2:=by
 have h:=Lib.encode_decode l a (by rw[aM0];exact am3 ok);rw[aM0]at h;exact h
section
open Go.RowKit Go.PlainAid
def K1:E y?->E y?->I
 |[],[]=>0
 |[],_::_=> -1
 |_::_,[]=>1
 |a::l,b::m=>if a<b then -1 else if b<a then 1 else K1 l m
def au0:∀a b:E y?,(K1 a b= -1/\lsB a b=t?)\/(K1 a b=0/\a=b)\/(K1 a b=1/\lsB b a=t?)
 |[],[]=>s? (r? ⟨rfl,rfl⟩)
 |[],_::_=>r? ⟨rfl,by simp[lsB,dW]⟩
 |_::_,[]=>s? (s? ⟨rfl,by simp[lsB,dW]⟩)
 |x::a,y::b=>by
  unfold lsB;rw[K1,dW,dW,ft,ba,D?,beq_iff_eq,ft,ba,D?,beq_iff_eq];by_cases h:x<y
  .rw[B? h];exact r? ⟨rfl,r? h⟩
  rw[A? h];by_cases c:y<x
  .rw[B? c];exact s? (s? ⟨rfl,r? c⟩)
  rw[A? c];have e:=UInt8.le_antisymm (by7.1 c) (by7.1 h);subst e;rcases au0 a b with⟨k,j⟩|⟨k,j⟩|⟨k,j⟩
  .exact r? ⟨k,s? ⟨rfl,j⟩⟩
  .exact s? (r? ⟨k,by rw[j]⟩)
  exact s? (s? ⟨k,s? ⟨rfl,j⟩⟩)
variable{s:v?}
def aD2(h:k<s.size):(tx s).drop k=s[k]::(tx s).drop (k+1):=by
 have a:k<(tx s).length:=by rw[lG];exact h
 rw[dN a];rfl
variable{t:v?}
def az1(h:k<s.size)(a:k<t.size):K1 ((tx s).drop k) ((tx t).drop k)=if bt s k<bt t k then -1 else if bt t k<bt s k then 1 else K1 ((tx s).drop (k+1)) ((tx t).drop (k+1)):=by
 rw[aD2 h,aD2 a,K1];have b:=(get_bt s k h).symm;have c:=(get_bt t k a).symm;rw[b,c];have e:(s[k]<t[k])↔(((s[k]'h).toNat:I)<((t[k]'a).toNat:I)):=by rw[UInt8.lt_iff_toNat_lt];omega
 have d:(t[k]<s[k])↔(((t[k]'a).toNat:I)<((s[k]'h).toNat:I)):=by rw[UInt8.lt_iff_toNat_lt];omega
 simp only[e,d]
def ak4(h:k<=s.size)(f:k<=t.size)(g:k=s.size\/k=t.size):K1 ((tx s).drop k) ((tx t).drop k)=if s.size<t.size then -1 else if t.size<s.size then 1 else 0:=by
 have d:=lG s;have e:=lG t;have d1:((tx s).drop k).length=s.size-k:=by rw[dr,d]
 have c:((tx t).drop k).length=t.size-k:=by rw[dr,e]
 generalize(tx s).drop k=a at*;generalize(tx t).drop k=b at*
 cases a with
 |nil=>
  cases b with
  |nil=>simp at d1 c;rw[A? jS,A? jS];rfl
  |cons y b=>simp at d1 c;rw[B? jS];rfl
 |cons x a=>
  cases b with
  |nil=>simp at d1 c;rw[A? jS,B? jS];rfl
  |cons y b=>simp at d1 c;omega
def at6(s t:v?)(hs:s.size<=maxLen)(v:t.size<=maxLen)(w:jC):jE Tryz.prog 23 #[jL s,jL t] w λe w'=>e=a? (c? o? (K1 (tx s) (tx t)))/\∃n,w'=w.drewN n:=by
 have gs:=get_bt s;have C:=get_bt t;unfold maxLen at hs v;go_in;go_wp2_with fail;go_loopw[5] (λi wr=>∃k n:O,i=(qaE k)/\k<=s.size/\k<=t.size/\Hid (K1 (tx s) (tx t)=K1 ((tx s).drop k) ((tx t).drop k))/\wr=w.drewN n) (λi _=>s.size-(av i).toNat)
 case atStart=>exact⟨0,0,rfl,be _,be _,rfl,rfl⟩
 obtain⟨k,n,rfl,j,d,f,rfl⟩:=hrel;by_cases x:k<s.size
 .by_cases h:k<t.size
  .have d1:decide ((k:I)<s.size)=t?:=ae;have B:decide ((k:I)<t.size)=t?:=ae;have o:(0:I)<=k:=jS;have z:(k:I)<s.size:=jS;have r:(k:I)<t.size:=jS;have c:=ah (az1 x h);by_cases c1:bt s k<bt t k
   .have y:=F? c1;have a:Hid (K1 (tx s) (tx t)= -1):=by show _=_;rw[f,c,B? c1]
    go_wp2;go_quiet(fail);go_wp2;go_ret;exact⟨mL a.symm,_,jr _ _ _⟩
   have y:=E? c1;by_cases c2:bt t k<bt s k
   .have q:=F? c2;have a:Hid (K1 (tx s) (tx t)=1):=by show _=_;rw[f,c,A? c1,B? c2]
    go_wp2;go_quiet(fail);go_wp2;go_quiet(fail);go_wp2;go_ret;exact⟨mL a.symm,_,by first|rfl|rw[jr,jr]|exact jr _ _ _⟩
   have q:=E? c2;have a:Hid (K1 (tx s) (tx t)=K1 ((tx s).drop (k+1)) ((tx t).drop (k+1))):=by show _=_;rw[f,c,A? c1,A? c2]
   go_wp2;go_quiet(fail);go_wp2;go_quiet(fail);go_wp2;go_roundw
   case rel=>exact⟨k+1,_,CJ,jS,jS,a,rfl⟩
   exact No
  have b:k=t.size:=jS;have d1:decide ((k:I)<s.size)=t?:=ae;have B:decide ((k:I)<t.size)=u?:=mO;have l:decide (s.size<t.size)=u?:=mO;have A:decide (t.size<s.size)=t?:=ae;have a:Hid (K1 (tx s) (tx t)=1):=by show _=_;rw[f,ak4 j d (s? b),A? jS,B? jS]
  go_wp2;go_ret;exact⟨mL a.symm,_,rfl⟩
 have b:k=s.size:=jS;have d1:decide ((k:I)<s.size)=u?:=mO;by_cases h:s.size<t.size
 .have l:=F? h;have a:Hid (K1 (tx s) (tx t)= -1):=by show _=_;rw[f,ak4 j d (r? b),B? h]
  go_wp2;go_ret;exact⟨mL a.symm,_,rfl⟩
 have l:decide (s.size<t.size)=u?:=mO;have A:decide (t.size<s.size)=u?:=mO;have a:Hid (K1 (tx s) (tx t)=0):=by show _=_;rw[f,ak4 j d (r? b),A? h,A? jS]
 go_wp2;go_ret;exact⟨mL a.symm,_,rfl⟩
def bf2(h:lsB a b=t?):a≠b:=λe=>by rw[e,zk]at h;cases h
def ao3(hs:s.size<=maxLen)(d:t.size<=maxLen){v:I}(b:K1 (tx s) (tx t)=v)(w:jC):jE Tryz.prog 23 #[jL s,jL t] w λe w'=>e=a? (c? o? v)/\Below w w w':=
 (at6 s t hs d w).mono λ_ _⟨a,n,c⟩=>⟨b▸a,c▸below_drewN (jQ _) n⟩
end
section
open Go.RowKit Go.PlainAid
variable{n:v?}
def aO5{l:E kI}(h:k<l.length)(c:(k8 (l.take k) n).2=u?)(d:((k7 l k).1.toList==n.toList)=t?):k8 l n=((k7 l k).2,t?):=by
 have a:k8 (l.take (k+1)) n=((k7 l k).2,t?):=by rw[BQ h,Ob c,d];rfl
 have b:=Od (l:=l.take (k+1)) (n:=n) (by rw[a]) (l.drop (k+1));rw[fQ,a]at b;exact b
def aK2{g:v?×z?}{a:v?}{b:z?}(h:g=(a,b)):ff (d? #[jL a,h? b])=a? (d? #[jL g.1,h? g.2]):=by rw[h]
def aK1(A:w? jG)(l:E kI)(cap:O)(n:v?)(H:l.length<=4294967296)(w:jC)(o:Lb w w A l):jE Tryz.prog 47 #[jN A l cap,jL n] w λe w'=>e=a? (d? #[jL (k8 l n).1,h? (k8 l n).2])/\w'=w:=by
 have v:=ah o;clear o;go_in;go_wp2_with fail;go_loopw[6] (λi wr=>∃k:O,i=(qaE k)/\k<=l.length/\Hid ((k8 (l.take k) n).2=u?)/\wr=w) (λi _=>l.length-(av i).toNat)
 case atStart=>exact⟨0,rfl,be _,rfl,rfl⟩
 obtain⟨k,rfl,F,j,rfl⟩:=hrel;by_cases g:k<l.length
 .have d1:decide ((k:I)<l.length)=t?:=ae;obtain⟨b,t,rfl,G,q⟩:=v.at_ (by omega);obtain⟨C,z⟩:=q k g;have s:(0:I)<=k:=by omega
  have y:(k:I)<l.length:=by omega
  have f:Hid (((k7 l k).1.toList==n.toList)=t?->k8 l n=((k7 l k).2,t?)):=λh=>aO5 g j h;have d:Hid ((k8 (l.take (k+1)) n).2=((k7 l k).1.toList==n.toList)):=by show _=_;rw[aG8 g,j];rfl
  clear q;generalize k7 l k=x at*;obtain⟨B,D⟩:=x;simp only at C z f d
  cases e:B.toList==n.toList with
  |true=>
   have a:=ah (f e);clear f d;go_wp2_with fail;go_ret2;exact⟨aK2 a,rfl⟩
  |false=>
   have a:Hid ((k8 (l.take (k+1)) n).2=u?):=d.trans e;clear f d;go_wp2_with fail;go_roundw
   case rel=>exact⟨k+1,by go_num,by omega,a,by first|rfl|trivial⟩
   simp[av];omega
 have m:k=l.length:=jS;subst m;have a:Hid (k8 l n=(⟨#[]⟩,u?)):=by
  have:=j.out;rw[dP]at this;exact uy this
 have d1:decide ((l.length:I)<l.length)=u?:=lV;go_wp2;go_ret2;exact⟨aK2 a,rfl⟩
def aa2(b:y?):z?:=decide (97<=b.toNat)&&decide (b.toNat<=122)
def ml(b:y?):z?:=decide (32<=b.toNat)&&b.toNat !=127
def aw3(h:(l.getD 0 0).toNat<128):nP l=((l.getD 0 0).toNat,1):=by
 unfold nP;rw[iW,B? h]
def aq5(h:¬(l.getD 0 0).toNat<128):128<=(nP l).1:=by
 unfold nP;rcases bw1 l.length (l.getD 0 0).toNat (l.getD 1 0).toNat (l.getD 2 0).toNat (l.getD 3 0).toNat with⟨c,e⟩|⟨c1,c2,a,ad7,e⟩|⟨c1,c2,a,b,ad7,f,e⟩|⟨c1,c2,a,b,d,ad7,ax1,e⟩|e
 all_goals(rw[e];dsimp only;omega)
def aE3:∀(n:O)(l:E y?),l.length<=n->(cp l).all lD=l.all aa2
 |0,l,h=>by rw[da (show l.length=0 by omega)];rfl
 |n+1,[],_=>rfl
 |n+1,b::l,h=>by
  rw[Mx (by simp),bw2,bw2];by_cases a:b.toNat<128
  .have e:nP (b::l)=(b.toNat,1):=aw3 a;rw[e];show(lD (b.toNat,1)&&(cp l).all lD)=_;rw[aE3 n l S6];rfl
  have e:=aq5 (l:=b::l) a;have c:lD (nP (b::l))=u?:=by
   simp[lD];omega
  have d:aa2 b=u?:=by
   simp[aa2];omega
  rw[c,d];rfl
def aq0(l:E y?):nameB l=(!(l==[])&&decide (l.length<=12)&&l.all aa2):=by
 unfold nameB;rw[aE3 l.length l aa]
variable{s:v?}
def aE6(h:k<s.size):bt s k=(((tx s)[k]?).getD 0).toNat:=by
 rw[<-get_bt s k h];have a:k<(tx s).length:=by rw[lG];exact h
 rw[an a];rfl
variable{p:y?->z?}
def ak2(h:k<l.length):(l.take (k+1)).all p=((l.take k).all p&&p ((l[k]?).getD 0)):=by
 rw[aj h,gT,an h];simp
def aE7(h:(l.take k).all p=u?):l.all p=u?:=by
 cases e:l.all p with
 |false=>rfl
 |true=>
  rw[dZ]at e;rw[<-Bool.not_eq_true,dZ]at h;exact H? (λx a=>e x (dy a)) h
def ay5(s:v?)(hs:s.size<=maxLen)(w:jC):jE Tryz.prog 41 #[jL s] w λe w'=>e=a? (h? (nameB (tx s)))/\w'=w:=by
 have gs:=get_bt s;unfold maxLen at hs;go_in;go_wp2_with fail;go_loopw[3] (λi wr=>∃k:O,i=(qaE k)/\k<=s.size/\Hid (((tx s).take k).all aa2=t?)/\wr=w) (λi _=>s.size-(av i).toNat)
 case atStart=>exact⟨0,rfl,be _,rfl,rfl⟩
 obtain⟨k,rfl,z,q,rfl⟩:=hrel;by_cases o:k<s.size
 .have d1:decide ((k:I)<s.size)=t?:=ae;have x:(0:I)<=k:=jS;have y:(k:I)<s.size:=jS;have l:k<(tx s).length:=by rw[lG];exact o
  have m:=ah (aE6 o);have t:Hid (((tx s).take (k+1)).all aa2=aa2 (((tx s)[k]?).getD 0)):=by show _=_;rw[ak2 l,q,eF]
  have d:Hid (aa2 (((tx s)[k]?).getD 0)=u?->nameB (tx s)=u?):=λh=>by
   rw[aq0,aE7 (t.trans h),Bool.and_false]
  generalize((tx s)[k]?).getD 0=c at*;by_cases c1:bt s k<97
  .have f:=F? c1;have b:=ah (d (by have:=m.out;simp[aa2];omega));go_wp2;go_ret;exact⟨jU b.symm,rfl⟩
  have f:=E? c1;by_cases c2:122<bt s k
  .have j:=F? c2;have b:=ah (d (by have:=m.out;simp[aa2];omega));go_wp2;go_ret;exact⟨jU b.symm,rfl⟩
  have j:=E? c2;have b:=ah (t.trans (by have:=m.out;simp[aa2];omega:aa2 c=t?));go_wp2;go_roundw
  case rel=>exact⟨k+1,CJ,jS,b,by first|rfl|trivial⟩
  exact No
 have n:k=s.size:=jS;subst n;have d1:decide ((s.size:I)<s.size)=u?:=lV;have b:Hid (nameB (tx s)=(decide (1<=s.size)&&decide (s.size<=12))):=by
  show _=_;have:=q.out;rw[<-lG,dP]at this;rw[aq0,this,bw6,lG];congr 1
  cases e:tx s with
  |nil=>have:=C? ez e;rw[lG]at this;simp at this;simp[this]
  |cons a r=>have:=C? ez e;rw[lG]at this;simp at this;simp;omega
 by_cases c1:1<=s.size
 .have f:=F? c1;by_cases c2:s.size<=12
  .have j:=F? c2;rw[f,j]at b;go_wp2;go_ret;exact⟨jU (by rw[b];simp;omega),rfl⟩
  have j:=E? c2;rw[f,j]at b;go_wp2;go_ret;exact⟨jU (by rw[b];simp;omega),rfl⟩
 have f:=E? c1;rw[f]at b;go_wp2;go_ret;exact⟨jU b.symm,rfl⟩
end
section
open Go.RowKit Go.PlainAid
def ai9(l:E y?):O:=if l=[]then 0 else if okR (nP l)=t? then(nP l).2 else 0
def aL9(a:l≠[])(h:okR (nP l)=t?):nP (l++[120])=nP l:=ah7 [120] a h
def aG9(a:l≠[])(h:okR (nP l)=u?):nP (l++[120])=(65533,1):=
 (ao8 _).1 (aq6 a (λ_=>TO) h)
def aM1(a:l≠[])(h:okR (nP l)=t?)(d:(nP l).1=65533):(nP l).2=3/\l.take 3=[239,191,189]:=by
 have e:=al6 a h;unfold ac0 at e;rw[d]at e;have c:bw3 ((65533:O):I)=[239,191,189]:=TO;rw[c]at e;have f:=(oQ l).2.2.2 a;have:=C? ez e;rw[cv]at this;simp at this;have b:(nP l).2=3:=jS;rw[b]at e;exact⟨b,e.symm⟩
def aO6(h:l.take 3=[239,191,189]):okR (nP l)=t?:=by
 have:l=[239,191,189]++l.drop 3:=by rw[<-h,fQ]
 rw[this,ah7 _ lV TO];decide+kernel
def aO9(f:l≠[])(h:okR (nP l)=t?)(a:(nP l).2=1):(l.getD 0 0).toNat<128:=by
 have b:=am3 h;unfold nP at b a;rcases bw1 l.length (l.getD 0 0).toNat (l.getD 1 0).toNat (l.getD 2 0).toNat (l.getD 3 0).toNat with⟨c,e⟩|⟨c1,c2,d,ad7,e⟩|⟨c1,c2,d,g,ad7,k,e⟩|⟨c1,c2,d,g,j,ad7,ax1,e⟩|e
 .exact c
 all_goals(rw[e]at b a;simp at b a)
variable{s:v?}
def aC7(h:0<s.size):tx s≠[]:=by
 intro e;have:=C? ez e;rw[lG,dp]at this;omega
def aD0(s:v?):(s.extract 0 3).toList=(tx s).take 3:=by
 rw[km];show(s.extract 0 3).data.toList=_;rw[bx5];simp[tx]
def aF1(s:v?)(hs:s.size<=100000)(w:jC):jE Tryz.prog 65 #[jL s] w λe w'=>e=a? (c? o? (ai9 (tx s)))/\Below w w w':=by
 have gs:=get_bt s;have N:(⟨#[120]⟩:v?).size=1:=rfl;have ha:fK .add s ⟨#[120]⟩=pure (f? (s++⟨#[120]⟩)):=oL (by omega);have hu:(s++⟨#[120]⟩:v?).size=s.size+1:=by rw[fc];rfl
 have t:tx (s++⟨#[120]⟩:v?)=tx s++[120]:=ah8 s ⟨#[120]⟩;generalize(s++⟨#[120]⟩:v?)=u at*;have C:=ah t;clear t;go_in;go_wp2_with fail;go_loopw[3,4] (λi r wr=>∃pos:O,Hid (It w w u pos wr)/\(pos=0\/(0<s.size/\okR (nP (tx s))=t?/\pos=(nP (tx s)).2)\/(s.size=0/\pos=1))) (λ_ _ wr=>u.size-wr.iterPos w)
 case atStart=>exact⟨0,It.mk0 w u,r? rfl⟩
 obtain⟨pos,m,q⟩:=hrel;have F:=ah m.pos;rcases q with rfl|⟨k,b,rfl⟩|⟨k,rfl⟩
 .have z:0<u.size:=by omega
  have f:∀j,(fw (e? (M ⟨w,0,Z⟩)) t? j).run Tryz.prog wr=_:=λj=>fp wr w u 0 j m.1 z;rw[tX,C,List.drop_zero]at f;have a:=ah (m.move aa (0+(nP (tx s++[120])).2));by_cases k:0<s.size
  .have c:=aC7 k
   cases b:okR (nP (tx s))with
   |true=>
    have o:=aL9 c b;have v:=oQ (tx s);have D:Hid ((nP (tx s)).1=65533->3<=s.size/\((s.extract 0 3).toList==[239,191,189])=t?):=λe=>by
     obtain⟨G,B⟩:=aM1 c b e;have:=v.2.2.2 c;rw[lG]at this;exact⟨by omega,by rw[aD0,B];rfl⟩
    rw[o]at f a;have g:Hid (0<s.size/\okR (nP (tx s))=t?):=⟨k,b⟩;obtain⟨d,A⟩:∃d,nP (tx s)=d:=⟨_,rfl⟩;have J:=ah A;rw[A]at f a v D;generalize V:wr.iterAt w u (0+d.2)=X at*;by_cases c1:d.1=65533
    .obtain⟨h3,h4⟩:=D.out c1;have G:((d.1:I)==65533)=t?:=mO;have B:decide ((s.size:I)<3)=u?:=mO;have R:decide (s.size<3)=u?:=mO;have h5:(3:I)<=(s.size:I):=jS;go_wp2;go_roundw
     case rel=>exact⟨0+d.2,a,s? (r? ⟨g.1,by first|exact g.2|trivial,by rw[J];omega⟩)⟩
     rw[a.pos,F];omega
    have G:((d.1:I)==65533)=u?:=mO;go_wp2_with fail;go_roundw
    case rel=>exact⟨0+d.2,a.out,s? (r? ⟨g.out.1,by first|exact g.out.2|trivial,by rw[J.out];omega⟩)⟩
    rw[a.out.pos,F.out];omega
   |false=>
    have o:=aG9 c b;have g:Hid (ai9 (tx s)=0):=by show _=_;rw[ai9,A? c,b,A? (by simp)]
    rw[o]at f a;have W:Hid (((s.extract 0 3).toList==[239,191,189])=u?):=by
     show _=_;rw[G?,aD0];intro e;rw[aO6 e]at b;cases b
    have D:=W.out;clear o b c;by_cases c1:s.size<3
    .have B:decide (s.size<3)=t?:=F? c1;go_wp2_with fail;go_ret;exact⟨by rw[g.out];rfl,a.out.2⟩
    have B:decide (s.size<3)=u?:=E? c1;have h5:(3:I)<=(s.size:I):=jS;go_wp2;go_ret;exact⟨by rw[g];rfl,a.2⟩
  have K:s.size=0:=jS;have H:tx s=[]:=da (by rw[lG];exact K);rw[H]at f a;have o:nP ([]++[120])=(120,1):=by decide+kernel
  rw[o]at f a;replace a:Hid (It w w u 1 (wr.iterAt w u 1)):=a;clear o H;go_wp2_with fail;go_roundw
  case rel=>exact⟨1,a,s? (s? ⟨K,rfl⟩)⟩
  rw[a.pos,F];omega
 .have c:=aC7 k;obtain⟨_,Q,α,l⟩:=oQ (tx s);have l:=l c;rw[lG]at l;have z:(nP (tx s)).2<u.size:=jS;have f:∀j,(fw (e? (M ⟨w,0,Z⟩)) t? j).run Tryz.prog wr=_:=λj=>fp wr w u (nP (tx s)).2 j m.1 z;rw[tX]at f;have a:=ah (m.move aa ((nP (tx s)).2+(nP ((tx u).drop (nP (tx s)).2)).2));have g:Hid (ai9 (tx s)=(nP (tx s)).2):=by show _=_;rw[ai9,A? c,B? b]
  have HB:Hid ((nP (tx s)).2=1->bt s 0<128):=λh=>by
   have:=aO9 c b h;rw[aP]at this;rw[aE6 k];omega
  generalize nP ((tx u).drop (nP (tx s)).2)=L at*;generalize(nP (tx s)).2=n at*;generalize wr.iterAt w u (n+L.2)=X at*;have c1:decide ((0:I)<n)=t?:=ae;have Y:decide (0<n)=t?:=ae;have c4:decide ((s.size:I)<n)=u?:=mO;have Ip:decide (s.size<n)=u?:=mO;have β:(0:I)<s.size:=jS;by_cases e:n=1
  .have T:=HB e;have c2:((n:I)==1)=t?:=TQ;have c3:decide (128<=bt s 0)=u?:=mO;go_wp2;go_ret;exact⟨mL (by have:=g.out;omega),a.2⟩
  have c2:((n:I)==1)=u?:=O1;go_wp2;go_ret;exact⟨mL (by have:=g.out;omega),a.2⟩
 have z:¬1<u.size:=jS;have f:∀j,(fw (e? (M ⟨w,0,Z⟩)) t? j).run Tryz.prog wr=_:=λj=>fq wr w u 1 j m.1 z;have g:Hid (ai9 (tx s)=0):=by
  show _=_;rw[ai9,B? (da (by rw[lG];exact k))]
 go_wp2;go_ret;exact⟨mL (by rw[g];rfl),m.2⟩
end
section
open Go.RowKit Go.PlainAid
def ar5(a:l≠[])(h:okR (nP l)=t?):ai9 l=(nP l).2/\oJ l=oJ (l.drop (nP l).2)/\(cp l).length=1+(cp (l.drop (nP l).2)).length:=by
 refine⟨by rw[ai9,A? a,B? h],by rw[ah9 a,h,eF],?_⟩;rw[Mx a,c_];omega
def ap2(a:l≠[])(h:okR (nP l)=u?):ai9 l=0/\oJ l=u?:=by
 refine⟨by rw[ai9,A? a,h,A? lV],by rw[ah9 a,h,eO]⟩
variable{w:jC}{B n:O}{xs:E jD}
def aF6{sz:O}{t:jH}{v:jD}(h:w.ownsRow B t sz v n xs):∀j,v.ownBlock=M j->B<=j:=λj e=>(tJ h j e).1
variable{s:v?}
def aI9:tx (s.extract 0 n)=(tx s).take n:=by
 show(s.extract 0 n).data.toList=_;rw[bx5];show((tx s).drop 0).take (n-0)=_;rw[List.drop_zero,Nat.sub_zero]
def ao7(h:n<=s.size):tx (s.extract n s.size)=(tx s).drop n:=by
 show(s.extract n s.size).data.toList=s.data.toList.drop n;rw[bx5,cl];rw[dr];exact Nat.le_of_eq (C? (·-n) (lG s))
def rtV(d:O×O):jD:=f? ⟨(ac0 d).toArray⟩
def ac3(l:E y?):E (O×O):=if oJ l=t? then cp l else[]
def aA1(w:jC)(l:E y?)(e:bi6)(w':jC):Prop:=
 (∃A c,e=a? (d? #[b? A (ac3 l).length c,h? (mc l).2])/\((ac3 l).length:I)=(mc l).1/\Rd w' w' A ((ac3 l).map rtV))/\Below w w w'
def aw0:mc l=(((ac3 l).length:I),oJ l):=by
 unfold mc ac3;cases oJ l<;>simp
variable{w':jC}{A:w? jG}{c:O}
def aA1.mk{m:O}{b:z?}{ds:E (O×O)}(h:oJ l=b)(f:ac3 l=ds)(d:m=ds.length)(e:Rd w' w' A (ds.map rtV))(a:Below w w w'):aA1 w l (a? (d? #[b? A m c,h? b])) w':=by
 subst d f h;exact⟨⟨A,c,by rw[aw0],by rw[aw0],e⟩,a⟩
def aj8(s:v?)(hs:s.size<=100000)(w:jC):jE Tryz.prog 43 #[jL s] w (aA1 w (tx s)):=by
 obtain⟨i0,K,B,H,y⟩:=bi5 Tryz.Un;go_in;go_wp2_with fail;go_loopw[0,4] (λt v wr=>∃(r:v?)(ds:E (O×O)),t=f? r/\ds.length+r.size<=s.size/\Hid (oJ (tx s)=oJ (tx r))/\Hid (cp (tx s)=ds++cp (tx r))/\Hid (wr.ownsRow w 9 1 v ds.length (ds.map rtV))/\(qaC w wr)) (λt _ _=>match t with|f? r=>r.size|_=>0)
 case atStart=>exact⟨s,[],rfl,lV,rfl,rfl,dY _ _ _ _,jQ _⟩
 obtain⟨r,ds,rfl,hm,F,Q,J,p⟩:=hrel;obtain⟨A1,c1,rfl,_⟩:=lB J;by_cases X:0<r.size
 .have b:=aC7 X;have N:r.toList.isEmpty=u?:=by
   rw[km]
   cases e:tx r with
   |nil=>exact H? e b
   |cons a q=>rfl
  have α:¬r.toList=[]:=by rw[km];exact b
  have x:=ah (aF1 r jS wr);obtain⟨_,η,_,f⟩:=oQ (tx r);have f:=f b;rw[lG]at f
  cases k:okR (nP (tx r))with
  |false=>
   obtain⟨D,A⟩:=ap2 b k;rw[D]at x;have m:Hid (oJ (tx s)=u?/\ac3 (tx s)=[]):=by
    have e:oJ (tx s)=u?:=by rw[F,A]
    exact⟨e,by rw[ac3,e];rfl⟩
   go_wp2_with fail;refine x.mono ?_;rintro e V⟨rfl,c⟩;go_wp2;go_ret2;exact aA1.mk m.1 m.2 rfl Rd.none_ (p.trans (c.mono p.size))
  |true=>
   obtain⟨D,A,e3⟩:=ar5 b k;rw[D]at x;have W:=ah (ao7 f);have DE:Hid (oJ (tx s)=oJ (tx (r.extract (nP (tx r)).2 r.size))):=by show _=_;rw[W,F,A]
   have C:Hid (cp (tx s)=(ds++[nP (tx r)])++cp (tx (r.extract (nP (tx r)).2 r.size))):=by show _=_;rw[W,Q,Mx b,eH];rfl
   have HT:Hid (f? (r.extract 0 (nP (tx r)).2)=rtV (nP (tx r))):=by
    show _=_;unfold rtV;rw[al6 b k];congr 1;apply rX;rw[aI9];rfl
   have R:(r.extract (nP (tx r)).2 r.size).size=r.size-(nP (tx r)).2:=by rw[fI];omega
   generalize nP (tx r)=d at*;obtain⟨d1,n⟩:=d;dsimp only at*;have c2:((n:I)==0)=u?:=O1;have δ:(n==0)=u?:=O1;have ε:(0:I)<=n:=jS;have Y:(n:I)<=(r.size:I):=jS;go_wp2_with fail;refine x.mono ?_;rintro e V⟨rfl,c⟩;have T:=ah (lf J c);have g:=p.trans (c.mono p.size);go_wp2_with(at_builtin;refine bk3 _ rfl _ _ 66 rfl w 9 i0 (qaA) 1 16 Tryz.underlying66 K B H y rfl B8 (b? A1 ds.length c1) ds.length _ rfl (T.alloc _) ⟨V,0,Z⟩ 1 1 [_] rfl rfl (m7 _ _ _ _ rfl) ZO O0 jS (by have:=g.size;simp;omega) ?_;intro v' w2 h l _);have xd:Hid (w2.ownsRow w 9 1 v' (ds++[(d1,n)]).length ((ds++[(d1,n)]).map rtV)):=by
    show gX _ _ _ _ _ _ _;rw[dH,cd,List.map_singleton,<-HT];exact h
   have L:=(g.alloc g.size _).grown l (by have:=g.size;simp;omega) (λj e=>aF6 T j e);go_wp2;go_roundw
   case rel=>exact⟨_,ds++[(d1,n)],rfl,by simp;omega,DE,C,xd,L⟩
   show(r.extract n r.size).size<r.size;omega
 have G:tx r=[]:=da (by rw[lG];omega);have z:r.toList=[]:=by rw[km];exact G
 have β:r.toList.isEmpty=t?:=by rw[z];rfl
 have m:Hid (oJ (tx s)=t?/\ac3 (tx s)=ds):=by
  have e:oJ (tx s)=t?:=by rw[F,G];rfl
  exact⟨e,by rw[ac3,e,B? rfl,Q,G,XW,eB]⟩
 go_wp2;go_ret2;exact aA1.mk m.1 m.2 rfl (Rd.own J) p
def ap5(s:v?)(hs:s.size<=100000)(w:jC):jE Tryz.prog 44 #[jL s] w λe w'=>e=a? (d? #[jJ (mc (tx s)).1,h? (mc (tx s)).2])/\Below w w w':=by
 have Q:=ah (aj8 s hs w);go_in;go_wp2_with fail;refine Q.mono ?_;rintro e f⟨⟨A,c,rfl,a,-⟩,b⟩;have d:=ah a;clear a;go_wp2_with fail;go_ret2;exact⟨by rw[d];rfl,b⟩
end
section
open Go.RowKit Go.PlainAid
def aC0(d:l≠[])(f:okR (nP l)=t?)(k:¬(l.getD 0 0).toNat<128):(l.take (nP l).2).all ml=t?:=by
 have p:=aQ.2 d;have g:=am3 f;unfold nP at g⊢;have a:∀b:y?,128<=b.toNat->ml b=t?:=λb h=>by simp[ml];omega
 rcases bw1 l.length (l.getD 0 0).toNat (l.getD 1 0).toNat (l.getD 2 0).toNat (l.getD 3 0).toNat with⟨c,e⟩|⟨c1,c2,j,ad7,e⟩|⟨c1,c2,j,m,ad7,o,e⟩|⟨c1,c2,j,m,n,ad7,ax1,e⟩|e
 .exact H? c k
 .rw[e];dsimp only;rw[Lib.takeB l c2];simp only[bw2,by9,bw6,a _ (show 128<=(l.getD 0 0).toNat by omega),a _ (show 128<=(l.getD 1 0).toNat by omega)]
 .rw[e];dsimp only;rw[Lib.takeC l c2];simp only[bw2,by9,bw6,a _ (show 128<=(l.getD 0 0).toNat by omega),a _ (show 128<=(l.getD 1 0).toNat by omega),a _ (show 128<=(l.getD 2 0).toNat by omega)]
 .rw[e];dsimp only;rw[Lib.takeD l c2];simp only[bw2,by9,bw6,a _ (show 128<=(l.getD 0 0).toNat by omega),a _ (show 128<=(l.getD 1 0).toNat by omega),a _ (show 128<=(l.getD 2 0).toNat by omega),a _ (show 128<=(l.getD 3 0).toNat by omega)]
 rw[e]at g;exact H? ⟨rfl,rfl⟩ g
def az9:∀(n:O)(l:E y?),l.length<=n->oJ l=t?->(cp l).all lm=l.all ml
 |0,l,h,_=>by rw[da (show l.length=0 by omega)];rfl
 |n+1,[],_,_=>rfl
 |n+1,b::l,h,d=>by
  have a:b::l≠[]:=by simp
  rw[ah9 a,ba]at d;obtain⟨_,g,_,f⟩:=oQ (b::l);rw[Mx a,bw2,az9 n _ (by rw[dr];simp only[c_]at h⊢;omega) d.2];have j:(b::l).all ml=(((b::l).take (nP (b::l)).2).all ml&&((b::l).drop (nP (b::l)).2).all ml):=by
   rw[<-gT,fQ]
  rw[j];congr 1;by_cases c:b.toNat<128
  .have e:nP (b::l)=(b.toNat,1):=aw3 c;rw[e];simp[lm,ml]
  have e:=aq5 (l:=b::l) c;rw[aC0 a d.1 c];simp[lm];omega
def an8:mP l=(l.all ml&&((mc l).2&&decide ((mc l).1<=24))):=by
 unfold mP mc
 cases a:oJ l with
 |false=>simp
 |true=>
  rw[az9 l.length l aa a];simp only[if_true,eF];rw[Bool.and_comm];congr 1;rw[decide_eq_decide];omega
def aw1(s:v?)(hs:s.size<=100000)(w:jC):jE Tryz.prog 42 #[jL s] w λe w'=>e=a? (h? (mP (tx s)))/\Below w w w':=by
 have gs:=get_bt s;have l:=ah (ap5 s hs w);go_in;go_wp2_with fail;go_loopw[3] (λi wr=>∃k:O,i=(qaE k)/\k<=s.size/\Hid (((tx s).take k).all ml=t?)/\wr=w) (λi _=>s.size-(av i).toNat)
 case atStart=>exact⟨0,rfl,be _,rfl,rfl⟩
 obtain⟨k,rfl,C,r,rfl⟩:=hrel;by_cases o:k<s.size
 .have d1:decide ((k:I)<s.size)=t?:=ae;have v:(0:I)<=k:=jS;have B:(k:I)<s.size:=jS;have j:k<(tx s).length:=by rw[lG];exact o
  have m:=ah (aE6 o);have q:Hid (((tx s).take (k+1)).all ml=ml (((tx s)[k]?).getD 0)):=by show _=_;rw[ak2 j,r,eF]
  have b:Hid (ml (((tx s)[k]?).getD 0)=u?->mP (tx s)=u?):=λh=>by
   rw[an8,aE7 (q.trans h),eO]
  generalize((tx s)[k]?).getD 0=c at*;by_cases c1:bt s k<32
  .have A:=F? c1;have a:=ah (b (by have:=m.out;simp[ml];omega));go_wp2;go_ret;exact⟨jU a.symm,jQ _⟩
  have A:=E? c1;by_cases c2:bt s k=127
  .have x:(bt s k==127)=t?:=by rw[beq_iff_eq];exact c2
   have a:=ah (b (by have:=m.out;simp[ml];omega));go_wp2;go_ret;exact⟨jU a.symm,jQ _⟩
  have x:(bt s k==127)=u?:=by rw[G?];exact c2
  have a:=ah (q.trans (by have:=m.out;simp[ml];omega:ml c=t?));go_wp2;go_roundw
  case rel=>exact⟨k+1,CJ,jS,a,by first|rfl|trivial⟩
  exact No
 have n:k=s.size:=jS;subst n;have d1:decide ((s.size:I)<s.size)=u?:=lV;have a:Hid (mP (tx s)=((mc (tx s)).2&&decide ((mc (tx s)).1<=24))):=by
  show _=_;have:=r.out;rw[<-lG,dP]at this;rw[an8,this,eF]
 generalize mc (tx s)=g at*;obtain⟨D,z⟩:=g;simp only at l a
 cases z with
 |true=>
  go_wp2_with fail;refine l.mono ?_;rintro e y⟨rfl,d⟩;go_wp2;go_ret;exact⟨jU (by rw[a];rfl),d⟩
 |false=>
  go_wp2_with fail;refine l.mono ?_;rintro e y⟨rfl,d⟩;go_wp2;go_ret;exact⟨jU (by rw[a];rfl),d⟩
end
section
open Go.RowKit Go.PlainAid
def aF9(a b:E y?):Ep b a=decide (0<=K1 a b):=by
 unfold Ep;rcases au0 a b with⟨e,h⟩|⟨e,h⟩|⟨e,h⟩
 .rw[e];have c:=qe h;have d:(b==a)=u?:=by rw[G?];exact(bf2 h).symm
  unfold lsB at c;rw[c,d];rfl
 .rw[e,h];simp
 rw[e];unfold lsB at h;rw[h];rfl
def aO0(h:nameB a=t?):Ep a []=u?:=by
 have c:a≠[]:=by rintro rfl;simp[nameB]at h
 unfold Ep
 cases a with
 |nil=>exact H? rfl c
 |cons b r=>simp[dW]
def aC3{l:E kI}(h:k<l.length):chainB [] (l.take (k+1))=(chainB [] (l.take k)&&ri (tx (pk (l.take k))) (k7 l k)):=by
 rw[BQ h,Io]
def aG1{l:E kI}(h:k+1<=l.length):pk (l.take (k+1))=(k7 l k).1:=by
 rw[BQ jS,yD]
def am5{l:E kI}(h:chainB [] (l.take k)=u?):setB l=u?:=by
 have:=yL (l.take k) (l.drop k) [] h;rw[fQ]at this;unfold setB;rw[this];simp
def ar9(s:v?)(hs:s.size<=maxLen){v:z?}(b:nameB (tx s)=v)(w:jC):jE Tryz.prog 41 #[jL s] w λe w'=>e=a? (h? v)/\Below w w w':=
 (ay5 s hs w).mono λ_ _⟨a,c⟩=>⟨b▸a,c▸jQ _⟩
def ap8(s:v?)(hs:s.size<=100000){v:z?}(b:mP (tx s)=v)(w:jC):jE Tryz.prog 42 #[jL s] w λe w'=>e=a? (h? v)/\Below w w w':=
 (aw1 s hs w).mono λ_ _⟨a,c⟩=>⟨b▸a,c⟩
def ai0(A:w? jG)(l:E kI)(cap:O)(hl:l.length<=4294967296)(hs:∀x∈l,x.1.size<=100000/\x.2.size<=100000)(w:jC)(hS:Lb w w A l):jE Tryz.prog 21 #[jN A l cap] w λe w'=>e=a? (h? (setB l))/\Below w w w':=by
 have W:=ah hS;have R:Hid (∀k,(k7 l k).1.size<=100000/\(k7 l k).2.size<=100000):=λk=>by
  unfold k7
  cases e:l[k]? with
  |none=>simp
  |some x=>exact hs x (cm e)
 go_in;go_wp2_with fail;go_loopw[3] (λi wr=>∃k:O,i=(qaE k)/\k<=l.length/\Hid (chainB [] (l.take k)=t?)/\(qaC w wr)) (λi _=>l.length-(av i).toNat)
 case atStart=>exact⟨0,rfl,be _,rfl,jQ _⟩
 obtain⟨k,rfl,hk,HE,HB⟩:=hrel;by_cases V:k<l.length
 .have d1:decide ((k:I)<l.length)=t?:=ae;obtain⟨b,r,rfl,D,F⟩:=W.at_ jS;obtain⟨c1,c2⟩:=F k V;have i1:=(HB.cell (p:=⟨b,r+k*2,Z⟩) D).trans c1;have i2:=(HB.cell (p:=⟨b,r+k*2+1,Z⟩) D).trans c2;have t:b<wr.heap.size:=qes;have α:(0:I)<=k:=jS;have δ:(k:I)<l.length:=jS;obtain⟨z1,z2⟩:=R k;have h:=ah (aC3 V);rw[HE,eF]at h;have F1:=After.cell i1 t;have F2:=After.cell i2 t;haveI hAW:=After.some wr;obtain⟨X,o⟩:∃q,nameB (tx (k7 l k).1)=q:=⟨_,rfl⟩;obtain⟨Y,y⟩:∃q,mP (tx (k7 l k).2)=q:=⟨_,rfl⟩;have C:Hid (∀x:After wr,jE Tryz.prog 41 #[jL (k7 l k).1] x.at_ λe w'=>e=a? (h? X)/\Below x.at_.heap.size x.at_ w'):=λx=>ar9 _ O0 o x.at_;have z:Hid (∀x:After wr,jE Tryz.prog 42 #[jL (k7 l k).2] x.at_ λe w'=>e=a? (h? Y)/\Below x.at_.heap.size x.at_ w'):=λx=>ap8 _ z2 y x.at_;rw[ri,o,y]at h
  cases X with
  |false=>
   have d:=ah (am5 (k:=k+1) (h.trans lV));go_wp2_with fail;refine rgb ?_;repeat(go_big_quiet_step (first|with_reducible exact na (C.out _)|with_reducible exact na (z.out _)))
   refine bl0 ?_;rintro g⟨f,c⟩;have m:=HB.trans ((show Below wr wr g by rw[c];exact f.is).mono HB.size);go_wp2;go_ret;exact⟨jU d.symm,m⟩
  |true=>
   cases Y with
   |false=>
    have d:=ah (am5 (k:=k+1) (h.trans lV));go_wp2_with fail;refine rgb ?_;repeat(go_big_quiet_step (first|with_reducible exact na (C.out _)|with_reducible exact na (z.out _)))
    refine bl0 ?_;rintro g⟨f,c⟩;have m:=HB.trans ((show Below wr wr g by rw[c];exact f.is).mono HB.size);go_wp2_with fail;go_ret;exact⟨jU d.symm,m⟩
   |true=>
    by_cases s:k=0
    .have d:Hid (chainB [] (l.take (k+1))=t?):=h.trans (by
      rw[s,fO,show tx (pk [])=[]from rfl,<-s,aO0 o];rfl)
     have g1:decide ((0:I)<k)=u?:=by simp;omega
     have H:decide (0<k)=u?:=by simp;omega
     clear h o y s
     go_wp2_with fail
     refine rgb ?_
     repeat(go_big_quiet_step (first|with_reducible exact na (C.out _)|with_reducible exact na (z.out _)))
     refine bl0 ?_
     rintro g⟨f,c⟩
     have m:(qaC w g):=HB.trans ((show Below wr wr g by rw[c];exact f.is).mono HB.size)
     clear c f
     go_wp2_with fail
     go_roundw
     case rel=>exact⟨k+1,by go_num,by omega,d,m⟩
     exact No
    obtain⟨j,rfl⟩:∃j,k=j+1:=⟨k-1,jS⟩;have g1:decide ((0:I)<((j+1:O):I))=t?:=ae;have K:j<l.length:=jS;have i3:=(HB.cell (p:=⟨b,r+j*2,Z⟩) D).trans (W.at_ jS |> λ⟨b',N,e,_,F⟩=>by cases e;exact(F j K).1);have F3:=After.cell i3 t;obtain⟨z3,_⟩:=R j;rw[aG1 jS,aF9]at h;obtain⟨v,T⟩:∃v,K1 (tx (k7 l j).1) (tx (k7 l (j+1)).1)=v:=⟨_,rfl⟩;have QL:Hid (∀x:After wr,jE Tryz.prog 23 #[jL (k7 l j).1,jL (k7 l (j+1)).1] x.at_ λe w'=>e=a? (c? o? v)/\Below x.at_.heap.size x.at_ w'):=λx=>ao3 O0 O0 T x.at_;rw[T]at h;have γ:(0:I)<=j:=jS;have β:(j:I)<l.length:=jS
    cases H:decide (0<=v)with
    |true=>
     have d:=ah (am5 (k:=j+1+1) (h.trans (by rw[H];rfl)));go_wp2_with fail;refine rgb ?_;repeat(go_big_quiet_step (first|with_reducible exact na (C.out _)|with_reducible exact na (z.out _)|with_reducible exact na (QL.out _)))
     refine bl0 ?_;rintro g⟨f,c⟩;have m:=HB.trans ((show Below wr wr g by rw[c];exact f.is).mono HB.size);go_wp2_with fail;go_ret;exact⟨jU d.symm,m⟩
    |false=>
     have d:Hid (chainB [] (l.take (j+1+1))=t?):=h.trans (by rw[H];rfl);go_wp2_with fail;refine rgb ?_;repeat(go_big_quiet_step (first|with_reducible exact na (C.out _)|with_reducible exact na (z.out _)|with_reducible exact na (QL.out _)))
     refine bl0 ?_;rintro g⟨f,c⟩;have m:=HB.trans ((show Below wr wr g by rw[c];exact f.is).mono HB.size);clear c f;go_wp2_with fail;go_roundw
     case rel=>exact⟨j+1+1,by go_num,by omega,d,m⟩
     exact No
 have L:k=l.length:=jS;subst L;have d1:decide ((l.length:I)<l.length)=u?:=lV;have d:Hid (setB l=(decide (1<=l.length)&&decide (l.length<=6))):=by
  show _=_;have:=HE.out;rw[dP]at this;unfold setB;rw[this,bw6]
 generalize l.length=n at*;by_cases c1:1<=n
 .have J:=F? c1;rw[J,eF]at d;go_wp2;go_ret;exact⟨jU (by rw[d];simp;omega),HB⟩
 have J:=E? c1;rw[J,eO]at d;go_wp2;go_ret;exact⟨jU d.symm,HB⟩
end
section
variable{w w':jC}{B B':O}{A:w? jG}{l:E kI}
end
section
open Go.RowKit Go.Shelf
attribute [local go_sem] db
end
section
variable{F:bz1}{n:O}{P:bi3}
end
section
attribute [local go_sem] db
end
section
variable{P:bi3}{ops:x? bk0}{Q:bk7->Act->jC->Prop}{md:fD}{S:jC->Prop}{s:O}
end
section
variable{P:bi3}{md:fD}{ops:x? bk0}{Q:bk7->Act->jC->Prop}{l n:O}
end
section
attribute [local go_sem] db
end
def c1:E y?:=[98,61,120,92,121,44,97,61,195,169,92,44]
def c2:E y?:=[97,61,49,44,97,61,50]
section
attribute [local go_sem] db
end
def az8(b:l≠[])(ok:okR (nP l)=t?):nP (l.take (nP l).2)=nP l:=by
 have h:=aQ.2 b;have f:=am3 ok;have k:=(l.getD 0 0).toNat_lt;unfold nP at f⊢;rcases bw1 l.length (l.getD 0 0).toNat (l.getD 1 0).toNat (l.getD 2 0).toNat (l.getD 3 0).toNat with⟨c,e⟩|⟨c1,c2,a,ad7,e⟩|⟨c1,c2,a,d,ad7,j,e⟩|⟨c1,c2,a,d,g,ad7,ax1,e⟩|e
 .rw[e];dsimp only;rw[Lib.takeA l h];show iW 1 (l.getD 0 0).toNat 0 0 0=_;rw[iW,B? c]
 .rw[e];dsimp only;rw[Lib.takeB l c2];show iW 2 (l.getD 0 0).toNat (l.getD 1 0).toNat 0 0=_;rw[iW,A? jS,B? ⟨c1,jS,a⟩,B? jS]
 .rw[e];dsimp only;rw[Lib.takeC l c2];show iW 3 (l.getD 0 0).toNat (l.getD 1 0).toNat (l.getD 2 0).toNat 0=_;rw[iW,A? jS,A? jS,B? ⟨c1,⟨jS,a⟩,jS,d⟩,B? ⟨jS,jS⟩]
 .rw[e];dsimp only;rw[Lib.takeD l c2];show iW 4 (l.getD 0 0).toNat (l.getD 1 0).toNat (l.getD 2 0).toNat (l.getD 3 0).toNat=_;rw[iW,A? jS,A? jS,A? jS,B? ⟨c1,⟨jS,a⟩,⟨jS,d⟩,jS,g⟩,B? ⟨jS,jS⟩]
 rw[e]at f;exact H? ⟨rfl,rfl⟩ f
def aH1(ok:okR (nP l)=t?):bx6 ((nP l).1:I)=t?:=by
 have a:=am3 ok;have h:=(l.getD 0 0).toNat_lt;unfold nP at a⊢;rcases bw1 l.length (l.getD 0 0).toNat (l.getD 1 0).toNat (l.getD 2 0).toNat (l.getD 3 0).toNat with⟨c,e⟩|⟨c1,c2,b,ad7,e⟩|⟨c1,c2,b,d,ad7,g,e⟩|⟨c1,c2,b,d,f,ad7,ax1,e⟩|e
 all_goals(rw[e]at a⊢;dsimp only at a⊢;simp only[bx6,ft,ba,D?])
 all_goals first|exact H? ⟨rfl,rfl⟩ a|omega
variable{n:O}
def ad6{m:O}(h:n=m):gH n=m.toUInt8:=by rw[h]
def ba6{r:O}(h:bx6 (r:I)=t?):(bx7 (r:I)).data.toList=bw3 (r:I):=by
 have e:=h;simp only[bx6,ft,ba,D?]at e;have d:((r:I)).toNat=r:=jS;unfold bx7 bw3;simp only[h,if_true,d];by_cases a:r<128
 .rw[B? a,Lib.encodeRuneZ_one jS jS];simp only[df,jA];rw[ad6 (show r=((r:I)).toNat by omega)]
 rw[A? a];by_cases b:r<2048
 .rw[B? b,Lib.encodeRuneZ_two jS jS];simp only[df,jA];rw[ad6 (show 192+r/64=((192:I)+(r:I)/64).toNat by omega),ad6 (show 128+r%64=((128:I)+(r:I)%64).toNat by omega)]
 rw[A? b];by_cases c:r<65536
 .rw[B? c,Lib.encodeRuneZ_three jS];simp only[df,jA];rw[ad6 (show 224+r/4096=((224:I)+(r:I)/4096).toNat by omega),ad6 (show 128+r/64%64=((128:I)+(r:I)/64%64).toNat by omega),ad6 (show 128+r%64=((128:I)+(r:I)%64).toNat by omega)]
 rw[A? c,Lib.encodeRuneZ_four jS jS];simp only[df,jA];rw[ad6 (show 240+r/262144=((240:I)+(r:I)/262144).toNat by omega),ad6 (show 128+r/4096%64=((128:I)+(r:I)/4096%64).toNat by omega),ad6 (show 128+r/64%64=((128:I)+(r:I)/64%64).toNat by omega),ad6 (show 128+r%64=((128:I)+(r:I)%64).toNat by omega)]
structure Good(d:T9):Prop where
 ok:okR d=t?
 cp_:∀rest,cp (ac0 d++rest)=d::cp rest
 enc:tx (encR d)=ac0 d
def aO8(h:bx6 (d.1:I)=t?):tx (encR d)=ac0 d:=by
 unfold encR ac0 tx;exact ba6 h
def aL7(b:l≠[])(ok:okR (nP l)=t?):Good (nP l):=by
 obtain⟨_,h,_,f⟩:=oQ l;have f:=f b;have a:(l.take (nP l).2).length=(nP l).2:=qlt;have d:l.take (nP l).2≠[]:=by intro e;rw[e]at a;simp at a;omega
 refine⟨ok,λc=>?_,aO8 (aH1 ok)⟩;have g:nP (l.take (nP l).2++c)=nP l:=by
  rw[ah7 c d (by rw[az8 b ok];exact ok),az8 b ok]
 rw[al6 b ok,Mx (by intro e;exact d (iM.1 e).1),g,List.drop_append,a,List.drop_of_length_le jS,bx4];rfl
def az2:∀(n:O)(t:E y?),t.length<=n->oJ t=t?->(∀d∈cp t,Good d)/\(cp t).flatMap ac0=t
 |0,t,h,_=>by
  have:t=[]:=da (by omega);subst this;exact⟨λd b=>by simp[XW]at b,rfl⟩
 |n+1,t,h,c=>by
  by_cases a:t=[]
  .subst a;exact⟨λd b=>by simp[XW]at b,rfl⟩
  rw[ah9 a,ba]at c;obtain⟨_,j,_,f⟩:=oQ t;obtain⟨e,g⟩:=az2 n (t.drop (nP t).2) (by rw[dr];omega) c.2;rw[Mx a];refine⟨λd b=>?_,?_⟩
  .rcases cw.1 b with rfl|b
   .exact aL7 a c.1
   exact e d b
  rw[dg,g,al6 a c.1,fQ]
variable{t:E y?}
def aw2(h:oJ t=t?):(∀d∈cp t,Good d)/\(cp t).flatMap ac0=t:=az2 t.length t aa h
def bo0(l:E y?):tx ⟨l.toArray⟩=l:=by simp[tx]
section
open Go.RowKit Go.PlainAid
end
section
open Go.RowKit Go.PlainAid
end
section
open Go.RowKit Go.PlainAid
end
section
open Go.RowKit Go.PlainAid
end
section
open Go.RowKit Go.PlainAid
end
section
open Go.RowKit Go.PlainAid
end
section
open Go.RowKit Go.PlainAid
def aE9(a:l≠[])(d:okR (nP l)=t?)(j:¬(l.getD 0 0).toNat<128):∀b∈l.take (nP l).2,128<=b.toNat:=by
 have o:=aQ.2 a;have f:=am3 d;unfold nP at f⊢;rcases bw1 l.length (l.getD 0 0).toNat (l.getD 1 0).toNat (l.getD 2 0).toNat (l.getD 3 0).toNat with⟨c,e⟩|⟨c1,c2,g,ad7,e⟩|⟨c1,c2,g,k,ad7,n,e⟩|⟨c1,c2,g,k,m,ad7,ax1,e⟩|e
 .exact H? c j
 .rw[e];dsimp only;rw[Lib.takeB l c2];intro b h;simp only[cw,bv9,or_false]at h;rcases h with rfl|rfl<;>omega
 .rw[e];dsimp only;rw[Lib.takeC l c2];intro b h;simp only[cw,bv9,or_false]at h;rcases h with rfl|rfl|rfl<;>omega
 .rw[e];dsimp only;rw[Lib.takeD l c2];intro b h;simp only[cw,bv9,or_false]at h;rcases h with rfl|rfl|rfl|rfl<;>omega
 rw[e]at f;exact H? ⟨rfl,rfl⟩ f
end
section
open Go.RowKit Go.PlainAid
end
structure ae0 where
 nm:E y?
 vl:E y?
 place:O
 l:E kI
def mkL(n v:E y?):kI:=(⟨n.toArray⟩,⟨v.toArray⟩)
def ac2(s:ae0)(b:y?):ae0:=
 if s.place=0 then(if b=61 then{s with place:=1}else{s with nm:=s.nm++[b]})
 else if s.place=1 then(if b=44 then⟨[],[],0,s.l++[mkL s.nm s.vl]⟩else if b=92 then{s with place:=2}else{s with vl:=s.vl++[b]})
 else{s with vl:=s.vl++[b],place:=1}
def az7(s:ae0):w? (E kI):=if s.place=1 then M (s.l++[mkL s.nm s.vl])else Z
def ae0.zero:ae0:=⟨[],[],0,[]⟩
def aB7(t:E y?):w? (E kI):=az7 (t.foldl ac2 ae0.zero)
def stepD(s:ae0)(d:T9):ae0:=
 if s.place=0 then(if d.1=61 then{s with place:=1}else{s with nm:=s.nm++ac0 d})
 else if s.place=1 then(if d.1=44 then⟨[],[],0,s.l++[mkL s.nm s.vl]⟩else if d.1=92 then{s with place:=2}else{s with vl:=s.vl++ac0 d})
 else{s with vl:=s.vl++ac0 d,place:=1}
def aL8(g:Good d):ac0 d≠[]:=by
 intro e;have:=g.cp_ [];rw[e,eB,XW]at this;simp at this
def au7(g:Good d):(∃b,ac0 d=[b]/\b.toNat=d.1/\d.1<128)\/(128<=d.1/\∀b∈ac0 d,128<=b.toNat):=by
 have a:=aL8 g;have n:=g.cp_ [];rw[eB,XW,Mx a]at n;have c:=(List.cons.inj n).1;have j:ac0 d=(ac0 d).take (nP (ac0 d)).2:=by
  have:=al6 a (by rw[c];exact g.ok);rw[c]at this;rw[c];exact this
 by_cases k:((ac0 d).getD 0 0).toNat<128
 .left;have e:=aw3 k;rw[c]at e;have o:=C? Prod.fst e;have p:(nP (ac0 d)).2=1:=by rw[c];exact C? Prod.snd e
  refine⟨(ac0 d).getD 0 0,?_,o.symm,by rw[o];exact k⟩;rw[p]at j
  cases h:ac0 d with
  |nil=>exact H? h a
  |cons x r=>rw[h]at j;simp at j;simp[j]
 right;have m:=aq5 k;rw[c]at m;refine⟨m,λb f=>?_⟩;have l:okR (nP (ac0 d))=t?:=by rw[c];exact g.ok
 rw[j]at f;exact aE9 a l k b f
def ap1:∀(l:E y?)(s:ae0),(∀b∈l,128<=b.toNat)->s.place=0->l.foldl ac2 s={s with nm:=s.nm++l}
 |[],s,_,_=>lV
 |b::l,s,h,d=>by
  have g:=h b di;have f:b≠61:=by rintro rfl;revert g;decide
  have e:ac2 s b={s with nm:=s.nm++[b]}:=by rw[ac2,B? d,A? f]
  rw[bw0,e,ap1 l {s with nm:=s.nm++[b]} (λc j=>h c (dS _ j)) d];simp
def ak3:∀(l:E y?)(s:ae0),(∀b∈l,128<=b.toNat)->s.place=1->l.foldl ac2 s={s with vl:=s.vl++l}
 |[],s,_,_=>lV
 |b::l,s,h,d=>by
  have a:=h b di;have g:b≠44:=by rintro rfl;revert a;decide
  have k:b≠92:=by rintro rfl;revert a;decide
  have e:ac2 s b={s with vl:=s.vl++[b]}:=by rw[ac2,A? jS,B? d,A? g,A? k]
  rw[bw0,e,ak3 l {s with vl:=s.vl++[b]} (λc j=>h c (dS _ j)) d];simp
def aw4{b:y?}(h:b.toNat=n)(k:y?):b=k↔n=k.toNat:=by
 rw[<-h];exact⟨λe=>by rw[e],λe=>UInt8.toNat_inj.1 e⟩
def aJ2(g:Good d)(s:ae0):(ac0 d).foldl ac2 s=stepD s d:=by
 rcases au7 g with⟨b,e,f,p⟩|⟨o,a⟩
 .have m:b=61↔d.1=61:=aw4 f 61;have l:b=44↔d.1=44:=aw4 f 44;have k:b=92↔d.1=92:=aw4 f 92;rw[e];show ac2 s b=_;unfold ac2 stepD;simp only[m,l,k,e]
 unfold stepD;by_cases p0:s.place=0
 .rw[B? p0,A? (by omega),ap1 _ _ a p0]
 rw[A? p0];by_cases p1:s.place=1
 .rw[B? p1,A? (by omega),A? (by omega),ak3 _ _ a p1]
 rw[A? p1]
 cases h:ac0 d with
 |nil=>exact H? h (aL8 g)
 |cons b r=>
  have e:ac2 s b={s with vl:=s.vl++[b],place:=1}:=by rw[ac2,A? p0,A? p1]
  rw[bw0,e,ak3 r _ (λc j=>a c (by rw[h];exact dS _ j)) rfl];simp
def az5:∀(ds:E T9)(s:ae0),(∀d∈ds,Good d)->(ds.flatMap ac0).foldl ac2 s=ds.foldl stepD s
 |[],_,_=>rfl
 |d::ds,s,h=>by
  rw[dg,fE,aJ2 (h d di),bw0];exact az5 ds _ (λx a=>h x (dS _ a))
def aF5(a:oJ t=t?):aB7 t=az7 ((cp t).foldl stepD ae0.zero):=by
 obtain⟨g,e⟩:=aw2 a;unfold aB7;rw[<-az5 (cp t) ae0.zero g,e]
def era(s:RS):ae0:=⟨tx s.nm,tx s.vl,s.place.toNat,s.l⟩
def aK7(n v:v?):mkL (tx n) (tx v)=(n,v):=rfl
def av7(g:Good d)(a:v?):tx (a++encR d)=tx a++ac0 d:=by rw[ah8,g.enc]
def aJ1{s b:RS}(g:Good d)(e:s.place=0\/s.place=1\/s.place=2)(h:qk s d=M b):stepD (era s) d=era b/\(b.place=0\/b.place=1\/b.place=2):=by
 obtain⟨f,j,place,c,l⟩:=s;simp only at e;rcases e with rfl|rfl|rfl
 .rw[qk,A? lV]at h;by_cases c1:d.1=61
  .rw[B? c1,uz,A? lV]at h;split at h
   .cases h
   cases h
   exact⟨by unfold stepD era;simp[c1],lV⟩
  rw[A? c1]at h;by_cases c2:d.1=44
  .rw[B? c2,oC,A? lV]at h;cases h
  rw[A? c2]at h;by_cases a:d.1=92
  .rw[B? a,xv,B? rfl]at h;cases h
  rw[A? a,pN,B? rfl]at h;split at h
  .cases h
   exact⟨by unfold stepD era;simp[c1,av7 g],lV⟩
  cases h
 .rw[qk,A? lV]at h;by_cases c1:d.1=61
  .rw[B? c1,uz,B? rfl,pN,A? lV]at h;split at h
   .cases h
    exact⟨by unfold stepD era;simp[c1,av7 g],lV⟩
   cases h
  rw[A? c1]at h;by_cases c2:d.1=44
  .rw[B? c2,oC,B? rfl]at h;split at h
   .cases h
    exact⟨by unfold stepD era;simp[c2];first|exact aK7 _ _|exact⟨rfl,rfl,aK7 _ _⟩|exact⟨rfl,aK7 _ _⟩,lV⟩
   cases h
  rw[A? c2]at h;by_cases a:d.1=92
  .rw[B? a,xv,A? lV]at h
   cases h
   exact⟨by unfold stepD era;simp[a],lV⟩
  rw[A? a,pN,A? lV]at h;split at h
  .cases h
   exact⟨by unfold stepD era;simp[c2,a,av7 g],lV⟩
  cases h
 rw[qk,B? rfl,pN,A? lV]at h;split at h
 .cases h
  exact⟨by unfold stepD era;simp[av7 g],lV⟩
 cases h
def aD6:∀(ds:E T9)(s a:RS),(∀d∈ds,Good d)->(s.place=0\/s.place=1\/s.place=2)->sX s ds=M a->ds.foldl stepD (era s)=era a/\(a.place=0\/a.place=1\/a.place=2)
 |[],s,a,_,b,h=>by cases h;exact⟨rfl,b⟩
 |d::ds,s,a,c,b,h=>by
  rw[sX]at h
  cases e:qk s d with
  |none=>rw[e]at h;cases h
  |some j=>
   rw[e]at h;obtain⟨f,k⟩:=aJ1 (c d di) b e;rw[bw0,f];exact aD6 ds j a (λx g=>c x (dS _ g)) k h
variable{l:E kI}
def aK4(h:pE t=M l):aB7 t=M l:=by
 unfold pE at h
 cases a:oJ t with
 |false=>rw[a]at h;simp at h
 |true=>
  rw[a,B? rfl]at h;rw[aF5 a]
  cases e:sX RS.zero (cp t)with
  |none=>rw[e]at h;cases h
  |some b=>
   rw[e]at h;obtain⟨c,f⟩:=aD6 (cp t) RS.zero b (aw2 a).1 (r? rfl) e;have z:era RS.zero=ae0.zero:=rfl;rw[<-z,c];show az7 (era b)=M l;have h:(oC b).map (·.l)=M l:=h;unfold oC at h;split at h
   .rename_i d;split at h
    .rw[az7,B? (by show b.place.toNat=1;omega)];exact h
    cases h
   cases h
section
open Go.RowKit Go.PlainAid
end
section
open Go.RowKit Go.PlainAid
end
section
open Go.RowKit Go.PlainAid
end
instance(x0:v?)(x1:v?):CoeOut (wU 910 x0 x1) Obj:=⟨λ_=>(m? #[jL x0,jL x1] 71)⟩
open Go.RowKit Go.PlainAid
variable{s:v?}
def ah6(h:k<s.size)(b:y?):bt s k=(b.toNat:I)↔((tx s)[k]?).getD 0=b:=by
 rw[aE6 h];constructor
 .intro e;apply UInt8.toNat_inj.1;omega
 intro e;rw[e]
def RdS(s:v?)(k:O)(n v:E y?)(p:O):Prop:=∀l,((tx s).take k).foldl ac2 ⟨[],[],0,l⟩=⟨n,v,p,l⟩
variable{v:E y?}
def RdS.next{p q:O}{n a v':E y?}(h:RdS s k n v p)(d:k<s.size)(b:y?)(c:bt s k=(b.toNat:I))(e:∀l,ac2 ⟨n,v,p,l⟩ b=⟨a,v',q,l⟩):RdS s (k+1) a v' q:=λl=>by
 have f:=lG s;rw[aj jS,fE,h l];have:=(ah6 d b).1 c;rw[an jS,jz]at this;rw[this];exact e l
def btU(s:v?)(k:O):y?:=((tx s)[k]?).getD 0
def am9(h:k<s.size):bt s k=((btU s k).toNat:I):=(ah6 h _).2 rfl
def aR0(h:k<s.size):tx (s.extract k (k+1))=[btU s k]:=by
 have a:=lG s;rw[Sc.vk,aj jS,List.drop_append_of_le_length qlt,ei qlt];unfold btU;rw[an jS];rfl
def aE8(t:E y?)(x:kI)(more:E y?):Prop:=∀l,az7 (t.foldl ac2 ⟨[],[],0,l⟩)=if more=[]then M (l++[x])else az7 ((more.drop 1).foldl ac2 ⟨[],[],0,l++[x]⟩)
def aC4(w:jC)(s:v?)(e:bi6)(w':jC):Prop:=Below w w w'/\
 ∃(x:kI)(more:v?)(ok:z?),e=a? (d? #[g? #[jL x.1,jL x.2],jL more,h? ok])/\more.size<=s.size/\x.1.size<=s.size/\x.2.size<=s.size/\(ok=t?->aE8 (tx s) x (tx more))
variable{N V:v?}
def aF7{i:O}(hi:i<s.size)(h:RdS s i (tx N) (tx V) 1)(b:bt s i=44):aE8 (tx s) (N,V) (tx (s.extract i s.size)):=λl=>by
 have d:=lG s;have a:tx (s.extract i s.size)=44::(tx s).drop (i+1):=by
  rw[ao7 jS,dN jS];have:=(ah6 hi 44).1 b;rw[an jS,jz]at this;rw[this]
 have c:tx s=(tx s).take i++44::(tx s).drop (i+1):=by rw[<-a,ao7 jS,fQ]
 rw[a,A? lV];conv=>lhs;rw[c]
 rw[fE,h l,bw0];rfl
def aN9(h:RdS s s.size (tx N) (tx V) 1):aE8 (tx s) (N,V) (tx ⟨#[]⟩):=λl=>by
 have:=h l;rw[cl (by rw[lG];exact ay _)]at this;rw[this];rfl
variable{w w':jC}
def aC4.mk{more:v?}{ok:z?}(b:Below w w w')(a:more.size<=s.size)(c:N.size<=s.size)(d:V.size<=s.size)(h:ok=t?->aE8 (tx s) (N,V) (tx more)):aC4 w s (a? (d? #[g? #[jL N,jL V],jL more,h? ok])) w':=⟨b,(N,V),more,ok,rfl,a,c,d,h⟩
variable{g:O}
def ao9{t:jH}{a b x y:jD}(h:Hid (jR w g t #[a,b])):Hid (jR ((w.setCell ⟨g,0,Z⟩ x).setCell ⟨g,1,Z⟩ y) g t #[x,y]):=(h.out.kY 0 x).kY 1 y
def aK9{t:jH}{a b y:jD}(h:Hid (jR w g t #[a,b])):Hid (jR (w.setCell ⟨g,1,Z⟩ y) g t #[a,y]):=h.out.kY 1 y
def aJ9(s:v?)(hs:s.size<=100000)(w:jC):jE Tryz.prog 45 #[jL s] w (aC4 w s):=by
 have gs:=get_bt s;go_in;go_wp2_with fail;have as1:=ah (jR.new w 71 #[qaA,qaA]);have B0:=ah (jP (jQ w) (m? #[qaA,qaA] 71));have z0:(w.alloc (m? #[qaA,qaA] 71)).heap.size=w.heap.size+1:=lV;generalize w.alloc (m? #[qaA,qaA] 71)=W0 at*;go_loopw[5] (λi wr=>∃n:O,i=(qaE n)/\n<=s.size/\Hid (RdS s n ((tx s).take n) [] 0)/\wr=W0) (λi _=>s.size-(av i).toNat)
 case atStart=>exact⟨0,rfl,be _,λl=>rfl,rfl⟩
 obtain⟨n,rfl,hn,HE,rfl⟩:=hrel;have r0:=ce as1 0;have r1:=ce as1 1;have f0:=as1.frozen;have β:=as1.lt;by_cases C:n<s.size
 .have d1:decide ((n:I)<s.size)=t?:=ae;have ν:(0:I)<=n:=jS;have ψ:(n:I)<s.size:=jS;by_cases c1:bt s n=61
  .have b2:(bt s n !=61)=u?:=by simp[c1]
   have n1:((n:I)==(s.size:I))=u?:=O1;have m:Hid (RdS s (n+1) (tx (s.extract 0 n)) (tx ⟨#[]⟩) 1):=by rw[aI9];exact HE.next C 61 c1 λl=>rfl
   have hN:(s.extract 0 n).size<=s.size:=by rw[fI];omega
   go_wp2_with fail;have XB:Hid (jR (wr.alloc (m? #[jL (s.extract 0 n),qaA] 71)) (w.heap.size+1) 71 #[jL (s.extract 0 n),qaA]):=by
    have:=jR.new wr 71 #[jL (s.extract 0 n),qaA];rw[z0]at this;exact this
   have Y:=ah (as1.alloc (m? #[jL (s.extract 0 n),qaA] 71));have B1:=ah (jP B0 (m? #[jL (s.extract 0 n),qaA] 71));generalize wr.alloc (m? #[jL (s.extract 0 n),qaA] 71)=W1 at*;generalize s.extract 0 n=N at*;go_loopw[7] (λt z=>∃(i:O)(V:v?),t=(qaE i)/\i<=s.size/\V.size<=i/\Hid (RdS s i (tx N) (tx V) 1)/\Hid (jR z w 71 #[qaA,qaA])/\Hid (jR z (w.heap.size+1) 71 #[jL N,jL V])/\(qaC w z)) (λt _=>s.size-(av t).toNat)
   case atStart=>exact⟨n+1,⟨#[]⟩,CJ,jS,be _,m,Y,XB,B1⟩
   obtain⟨i,V,rfl,hi,hv,F,f,G,J⟩:=hrel;have r0:=ce f 0;have r1:=ce f 1;have x0:=ce G 0;have x1:=ce G 1;have f0:=f.frozen;have g1:=G.frozen;have β:=G.lt;have ξ:=f.lt;by_cases j:i<s.size
   .have e1:decide ((i:I)<s.size)=t?:=ae;have χ:(0:I)<=i:=jS;have ρ:(i:I)<s.size:=jS;have μ:(i:I)<=(s.size:I):=jS;by_cases b:bt s i=44
    .have α:(bt s i==44)=t?:=by rw[beq_iff_eq];exact b
     have W:=ah (aF7 j F b);have δ:(s.extract i s.size).size<=s.size:=by rw[fI];omega
     go_wp2;refine kG (S:=(λD=>D.cell? ⟨w.heap.size+1,0,Z⟩=M (f? N)/\D.cell? ⟨w.heap.size+1,1,Z⟩=M (f? V))) (s:=4) oo ?_;refine sU ⟨x0,x1⟩ ?_;refine oY 4 λK L=>?_;go_simp;refine L.out _ _ (λh=>qch) ?_;refine az ?_;refine MZ ?_;refine yi ?_;have ai8:=ao9 (x:=f? N) (y:=f? V) f;have r:=ce ai8 0;have B:=ce ai8 1;go_wp2;exact jF (v:=d? #[g? #[jL N,jL V],jL (s.extract i s.size),h? t?]) (by simp[results,Tryz.results45,go_sem,r,B]) rfl (.mk ((J.setCell aa _).setCell aa _).drew δ hN jS λ_=>W)
    have α:(bt s i==44)=u?:=by rw[G?];exact b
    by_cases d:bt s i=92
    case' pos=>
     have η:(bt s i==92)=t?:=by rw[beq_iff_eq];exact d
     have HQ:=ah (F.next (q:=2) j 92 d λl=>rfl);by_cases i2:i+1=s.size
     case pos=>
      have n3:((i:I)+1==(s.size:I))=t?:=TQ;have ai8:=ao9 (x:=f? N) (y:=f? V) f;have r:=ce ai8 0;have B:=ce ai8 1;go_wp2;exact jF (v:=d? #[g? #[jL N,jL V],jL s,h? u?]) (by simp[results,Tryz.results45,go_sem,r,B]) rfl (.mk ((J.setCell aa _).setCell aa _) aa hN jS λe=>LS)
     have n3:((i:I)+1==(s.size:I))=u?:=O1;have H:i+1<s.size:=jS;have hm:i<=i+1:=jS;have A:(s.extract (i+1) (i+1+1)).size=1:=by rw[fI];omega
     have HW:Hid (RdS s (i+1+1) (tx N) (tx (V++s.extract (i+1) (i+1+1))) 1):=by
      rw[ah8,aR0 H];exact HQ.next H _ (am9 H) λl=>rfl
     have hw:IntKind.i64.wrap ((i:I)+1)=((i+1:O):I):=by rw[dv _ jS];omega
     generalize i+1=k at*
    case' neg=>
     have η:(bt s i==92)=u?:=by rw[G?];exact d
     have H:=j;have hm:i<=i:=ay i;have A:(s.extract i (i+1)).size=1:=by rw[fI];omega
     have HW:Hid (RdS s (i+1) (tx N) (tx (V++s.extract i (i+1))) 1):=by
      rw[ah8,aR0 j];refine F.next j _ (am9 j) λl=>?_;have C:btU s i≠44:=λe=>b (by rw[am9 j,e];rfl);have h2:btU s i≠92:=λe=>d (by rw[am9 j,e];rfl);rw[ac2,A? (by simp),B? rfl,A? C,A? h2]
     clear F b d;generalize hk:i=k at*
    all_goals
     have θ:V.size<=k:=by omega
     have a2:fK .add V (s.extract k (k+1))=pure (f? (V++s.extract k (k+1))):=oL (by rw[A];omega);have t1:((k:I)+1).toNat=k+1:=by omega
     have k0:(0:I)<=k:=by omega
     have k2:(k:I)<=(k:I)+1:=by omega
     have k3:(k:I)+1<=(s.size:I):=by omega
     have φ:IntKind.i64.wrap ((k:I)+1)=(k:I)+1:=dv _ (by omega);go_wp2_with fail;refine kG (S:=(λD=>D.cell? ⟨w.heap.size+1,0,Z⟩=M (f? N)/\D.cell? ⟨w.heap.size+1,1,Z⟩=M (f? V))) (s:=9) (by kernel_rfl) ?_;refine sU ⟨x0,x1⟩ ?_;refine oY 9 λK L=>?_;go_simp;have X:=aK9 (y:=f? (V++s.extract k (k+1))) G;have γ:Hid (jR (wr.setCell ⟨w.heap.size+1,1,Z⟩ (f? (V++s.extract k (k+1)))) w 71 #[qaA,qaA]):=f.far (by simp) _;have BI:Hid (Below w w (wr.setCell ⟨w.heap.size+1,1,Z⟩ (f? (V++s.extract k (k+1))))):=J.setCell (by simp) _;refine L.out _ _ (λh=>qch) ?_;refine az ?_;refine yi ?_;go_wp2_with fail;go_roundw
     case rel=>exact⟨k+1,_,CJ,jS,by rw[fc,A];omega,HW,γ.drew,X.drew,BI.drew⟩
     exact No
   have R:i=s.size:=jS;subst R;have e1:decide ((s.size:I)<s.size)=u?:=lV;have W:=ah (aN9 F);have ai8:=ao9 (x:=f? N) (y:=f? V) f;have r:=ce ai8 0;have B:=ce ai8 1;go_wp2;exact jF (v:=d? #[g? #[jL N,jL V],qaA,h? t?]) (by simp[results,Tryz.results45,go_sem,r,B]) rfl (.mk ((J.setCell aa _).setCell aa _) (be _) hN jS λ_=>W)
  have b2:(bt s n !=61)=t?:=by simp[c1]
  have m:Hid (RdS s (n+1) ((tx s).take (n+1)) [] 0):=by
   have hl:=lG s;rw[aj jS];refine HE.next C (btU s n) (am9 C) λl=>?_;have e:btU s n=(tx s)[n]'jS:=by unfold btU;rw[an jS];rfl
   have:btU s n≠61:=λe=>c1 (by rw[am9 C,e];rfl);rw[<-e,ac2,B? rfl,A? this]
  go_wp2;go_roundw
  case rel=>exact⟨n+1,CJ,jS,m,trivial⟩
  exact No
 have ε:n=s.size:=jS;subst ε;have d1:decide ((s.size:I)<s.size)=u?:=lV;have ai8:=ao9 (x:=qaA) (y:=qaA) as1;have r:=ce ai8 0;have B:=ce ai8 1;go_wp2;exact jF (v:=d? #[g? #[qaA,qaA],jL s,h? u?]) (by simp[results,Tryz.results45,go_sem,r,B]) rfl (.mk ((B0.setCell aa _).setCell aa _) aa (be _) (be _) λe=>LS)
def Tryz.aD4(w:jC):(by1 (Tryz.prog.elem 72)).run Tryz.prog w=.ok 2 w:=by
 have e:Tryz.prog.elem 72=71:=by simp[gR,Tryz.underlying72]
 obtain⟨f,a,d,b,c⟩:=bi5 Tryz.Mc;rw[e];simp[by1,typeInfo,a,b]
variable{B:O}{A:w? jG}
def aS6{V:jC}(h:Hid (Lb V B A l))(cap k:O)(c:k<=cap)(w:jC):(gI 72 (.slice A l.length cap) Z (M (qaE k)) Z).run Tryz.prog w=.ok (.slice A k cap) w:=by
 have a:Tryz.prog.underlying 72=M (.slice (Tryz.prog.elem 72)):=by
  have b:Tryz.prog.elem 72=71:=by simp[gR,Tryz.underlying72]
  rw[b];exact Tryz.underlying72
 rw[run_slice_h (P:=Tryz.prog) w 72 A l.length cap a o? (k:I) jS jS,Tryz.aD4];have e:Option.map (λx:jG=>x.add 0) A=A:=by cases A<;>simp[Addr.add_zero']
 simp[dw,sliced,e]
def az4(A:w? jG)(k cap:O):w? jG:=if cap=k then A else A.map (·.add (k*2))
def aL0{V:jC}(h:Hid (Lb V B A l))(cap k:O)(c:k<=l.length)(w:jC):(gI 72 (.slice A l.length cap) (M (qaE k)) Z Z).run Tryz.prog w=.ok (.slice (az4 A k cap) (l.length-k) (cap-k)) w:=by
 have a:Tryz.prog.underlying 72=M (.slice (Tryz.prog.elem 72)):=by
  have b:Tryz.prog.elem 72=71:=by simp[gR,Tryz.underlying72]
  rw[b];exact Tryz.underlying72
 rw[run_slice_l (P:=Tryz.prog) w 72 A l.length cap a o? (k:I) jS jS,Tryz.aD4];simp[dw,sliced,az4]
def ao4(l m:E kI):k_ l++k_ m=k_ (l++m):=by simp[k_]
def aq3(l:E kI)(k:O):k_ l=k_ (l.take k)++k_ (l.drop k):=by rw[ao4,fQ]
def aD8(h:Lb w B A l)(k:O):Lb w B A (l.take k):=λm=>by
 have e:=aq3 l k;obtain⟨b,a,g,d,f⟩:=h (by rw[e];intro z;exact m (iM.1 z).1);exact⟨b,a,g,d,λj u c=>f j u (by rw[e,eL (ci.1 c).1];exact c)⟩
def aO2{b off:O}(h:Lb w B (M ⟨b,off,Z⟩) l)(o:k<=l.length):Lb w B (M ⟨b,off+k*2,Z⟩) (l.drop k):=λn=>by
 have e:=aq3 l k;have m:(k_ (l.take k)).length=k*2:=by rw[sj,cv];omega
 obtain⟨p,a,g,d,f⟩:=h (by rw[e];intro z;exact n (iM.1 z).2)
 cases g
 refine⟨b,off+k*2,rfl,d,λj u c=>?_⟩;have:=f (k*2+j) u (by rw[e,d7 (by omega),m,show k*2+j-k*2=j by omega];exact c);rwa[<- gW]at this
def aO1(h:Lb w B A l){cap:O}(f:l.length<=cap):Lb w B (az4 A k cap) (l.drop k):=λc=>by
 have g:k<l.length:=by
  apply bw4;intro e;rw[List.drop_of_length_le jS]at c;exact c rfl
 obtain⟨b,a,rfl,_,_⟩:=h.at_ jS;have e:az4 (M ⟨b,a,Z⟩) k cap=M ⟨b,a+k*2,Z⟩:=by
  unfold az4;rw[A? jS];show M (iU _ _)=_;unfold iU;split
  .rename_i d;rw[d];rfl
  rfl
 rw[e];exact aO2 h (by omega) c
def aB6:(k_ l).length=l.length*2:=by rw[sj];omega
def aq4:∀u∈k_ l,u.oneCell'=t?:=λu a=>by
 unfold k_ at a;obtain⟨x,_,a⟩:=ir.1 a;simp at a;rcases a with rfl|rfl<;>rfl
variable{c:O}
def aN8(h:w.ownsRow B 71 2 (b? A n c) n (k_ l)):Lb w w A l:=by
 have b:=h;rcases h with⟨a,⟨p,e⟩|⟨g,cap,j,f,k,o,m⟩⟩
 .intro d;subst e;rw[fh]at a;exact H? (da a) d
 cases f
 exact Xe b
variable{xs:E jD}
def aN7(h:w.ownsRow B 71 2 (b? A n c) n xs):c<=9223372036854775807:=by
 rcases h with⟨_,⟨a,_⟩|⟨g,cap,e,b,_,_,_,d,_⟩⟩
 .cases a;omega
 cases b;unfold maxLen at d;omega
def bm5(w:jC)(l:E kI)(x:kI)(e:bi6)(w':jC):Prop:=Below w w w'/\∃b a c,e=a? (b? b c.length a)/\c.Perm (x::l)/\c.length<=a/\a<=9223372036854775807/\Lb w' w' b c
def aJ7(A:w? jG)(l:E kI)(cap:O)(x:kI)(hl:l.length<=1000)(hc:l.length<=cap)(ψ:cap<=9223372036854775807)(hs:∀y∈l,y.1.size<=maxLen)(hx:x.1.size<=maxLen)(w:jC)(Y:Lb w w A l):jE Tryz.prog 46 #[jN A l cap,g? #[jL x.1,jL x.2]] w (bm5 w l x):=by
 have HS:=ah Y;have HZ:=ah hs;clear Y hs;obtain⟨j,m⟩:=x;obtain⟨i0,D,B,C,z⟩:=bi5 Tryz.Mc;go_in;go_wp2_with fail;have X0:=ah (jR.new w 71 #[jL j,jL m]);have B0:=ah (jP (jQ w) (lI 910 j m));generalize w.alloc (lI 910 j m)=W0 at*;go_loopw[5] (λi wr=>∃k:O,i=(qaE k)/\k<=l.length/\Hid (jR wr w 71 #[jL j,jL m])/\(qaC w wr)) (λi _=>l.length-(av i).toNat)
 case atStart=>exact⟨0,rfl,be _,X0,B0⟩
 clear X0 B0;obtain⟨k,rfl,hk,XB,HB⟩:=hrel;have x0:=ce XB 0;have x1:=ce XB 1;have κ:=XB.lt;haveI hAW:=After.some wr;have F0:=After.cell x0 κ;by_cases X:k<l.length
 case' pos=>
  have d1:decide ((k:I)<l.length)=t?:=ae;have Y:=HS;obtain⟨b,η,rfl,hb,R⟩:=Y.at_ (by omega);obtain⟨c1,c2⟩:=R k X;have i1:=(HB.cell (p:=⟨b,η+k*2,Z⟩) hb).trans c1;have ρ:b<wr.heap.size:=by have:=HB.size;omega
  have F1:=After.cell i1 ρ;have μ:(0:I)<=k:=by omega
  have φ:(k:I)<l.length:=by omega
  have z1:=HZ l[k] (ar X);have e1:k7 l k=l[k]:=by unfold k7;rw[an X];rfl
  rw[<-e1]at z1;clear c1 c2 R Y e1;obtain⟨v,hv⟩:∃v,K1 (tx (k7 l k).1) (tx j)=v:=⟨_,rfl⟩;have QL:Hid (∀y:After wr,jE Tryz.prog 23 #[jL (k7 l k).1,jL j] y.at_ λe w'=>e=a? (c? o? v)/\Below y.at_.heap.size y.at_ w'):=λy=>ao3 z1 hx hv y.at_;clear hv
  cases g2:decide (v<0)
 case' neg=>
  have d1:decide ((k:I)<l.length)=u?:=ag;have d2:decide (k<l.length)=u?:=ag;have h2:¬k<l.length:=by omega
  have h3:l.length<=k:=by omega
  clear X
 all_goals
  go_wp2_with fail;refine rgb ?_;repeat(go_big_quiet_step (first|with_reducible exact na (QL.out _)))
  refine bl0 ?_;rintro s⟨y9,Dd⟩;have nu:Below wr wr s:=by rw[Dd];exact y9.is
  have T:=ah (Below.two HB nu);have n:=ah (XB.later nu);clear Dd y9 nu;go_wp2_with fail
 all_goals first
  |(
   refine⟨⟨k+1,by go_num,by omega,n,T⟩,?_⟩
   simp[av];omega)
  |skip
 all_goals
  clear XB HB x0 x1 F0 hAW;have x0:=ce n 0;have x1:=ce n 1;have J:=ah (HS.later T);have Up:=n.lt;have Γ:=T.size;have kT:=aS6 J cap k (by omega);refine bi1 (S:=λw'=>w'.cell? ⟨w,0,Z⟩=M (f? j)/\w'.cell? ⟨w,1,Z⟩=M (f? m)) (by kernel_rfl) ⟨x0,x1⟩ (λd=>?_);refine re d ?_;refine rdy [4,6] (.cons rfl (λK t=>?_) (.cons rfl (λK t=>?_) .nil))
  all_goals first
   |(
    refine tg rfl (.tmp 24) (.tmp 27) 72 rfl (w.heap.size+1) 71 i0 (g? #[qaA,qaA]) 2 32 Tryz.underlying72 D B C z rfl (by decide) (b? Z 0 0) 0 [] rfl (dY _ _ _ _) s _ k cap (k_ (l.take k)) rfl (by rw[aB6,cv];omega) (aD8 J _) aq4 (by unfold maxLen;omega) (by omega) (by simp;omega) ?_
    intro A2 c2 V1 c F
    rw[au,dz]at c
    have G:Below (w.heap.size+1) s V1:=(Below.drew (Below.refl _ _)).grown F (by show _<=s.heap.size;omega) (λq e=>by cases e)
    have r:=n.below G (by omega)
    rw[au]
    refine t.out _ _ ⟨r.cell 0,r.cell 1⟩ (λd=>?_)
    clear t K
    refine az ?_
    refine pL 6 λK t=>?_
    go_simp
    have χ:=G.size
    have NB:=ah (jR.new V1 71 #[jL j,jL m])
    have H:=ah (c.alloc (lI 910 j m))
    have HT:Hid (Below (w.heap.size+1) s (V1.alloc (lI 910 j m))):=G.alloc (by omega) _
    clear c F G r
    generalize V1.alloc (lI 910 j m)=V at*)
   |(
    go_simp
    have L:=jR.new s 71 #[jL j,jL m]
    have G:Below (w.heap.size+1) s (s.alloc (lI 910 j m)):=(Below.refl _ _).alloc (by omega) _
    have r:=n.below G (by omega)
    have ε:=J.later (jP (jQ s) (lI 910 j m))
    refine t.out _ _ ⟨r.cell 0,r.cell 1⟩ (λd=>?_)
    clear t K
    refine az ?_
    refine pL 4 λK t=>?_
    refine tg rfl (.tmp 24) (.tmp 27) 72 rfl (w.heap.size+1) 71 i0 (g? #[qaA,qaA]) 2 32 Tryz.underlying72 D B C z rfl (by decide) (b? Z 0 0) 0 [] rfl (dY _ _ _ _) (s.alloc (lI 910 j m)).heap.size _ k cap (k_ (l.take k)) rfl (by rw[aB6,cv];omega) (aD8 ε _) aq4 (by unfold maxLen;omega) (by omega) (by simp;omega) ?_
    intro A2 c2 V c F
    rw[au,dz]at c
    have HT:Hid (Below (w.heap.size+1) s V):=(Below.drew G).grown F (by show _<=(s.alloc (lI 910 j m)).heap.size;simp;omega) (λq e=>by cases e)
    have H:=ah c
    have NB:=ah (L.drew.grown F (λe=>LS))
    rw[au]
    clear c F G r ε L)
  all_goals
   have N:=n.below HT jS;have EG:=NB.lt;have Rv:=HT.size;refine t.out _ _ ⟨N.cell 0,N.cell 1⟩ (λd=>?_);refine az ?_;refine pL 7 λK t=>?_;refine tg rfl (.tmp 28) (.tmp 30) 72 rfl (w.heap.size+1) 71 i0 (g? #[qaA,qaA]) 2 32 Tryz.underlying72 D B C z rfl B8 (b? A2 k c2) k _ rfl H (_+1) (M ⟨_,0,Z⟩) 1 1 [jL j,jL m] rfl lV (JJ (cs:=[jL j,jL m]) NB) (by intro u hu;simp at hu;rcases hu with rfl|rfl<;>rfl) O0 jS jS ?_;intro A3 c3 W3 c F;have γ:Hid (W3.ownsRow (w.heap.size+1) 71 2 (b? A3 (k+1) c3) (k+1) (k_ (l.take k++[(j,m)]))):=by
    show gX _ _ _ _ _ _ _;rw[AW];exact c
   have T4:=ah (HT.grown F jS (λq e=>(TV H q e).1));have δ:=n.below T4 jS;refine t.out _ _ ⟨δ.cell 0,δ.cell 1⟩ (λd=>?_);refine az ?_;refine re d ?_;refine hdn ?_;have β:=ah (HS.later (w':=W3) (T.trans (T4.mono jS)));have Δ:=T4.size;have kF:=aL0 β cap k jS;try clear h2 h3 d1 d2
   try clear X d1 μ φ i1 F1 g2
   go_wp2_with(at_builtin;refine kr _ rfl (.tmp 32) (.tmp 35) 72 rfl (w.heap.size+1) 71 i0 (g? #[qaA,qaA]) 2 32 Tryz.underlying72 D B C z rfl B8 (b? A3 (k+1) c3) (k+1) _ rfl γ W3 _ (l.length-k) (cap-k) (k_ (l.drop k)) rfl (by rw[aB6,dr]) (aO1 β hc) aq4 O0 jS jS ?_;intro v4 W4 f ν _);obtain⟨A4,c4,rfl⟩:=CR f;have T5:=(T.trans (T4.mono jS)).grown ν jS (λq e=>by have:=(TV γ q e).1;omega);rw[ao4]at f;have W:(l.take k++[(j,m)]++l.drop k).length=k+1+(l.length-k):=by simp only[cd,cv,dr,fT];omega
   go_wp2;go_ret;have ξ:k+1+(l.length-k)<=c4:=by
    obtain⟨_,_,e,h,-,-⟩:=li f
    cases e;exact h
   have θ:=aN7 f;refine⟨T5,A4,c4,l.take k++[(j,m)]++l.drop k,by rw[W];rfl,?_,by rw[W];exact ξ,θ,aN8 f⟩;rw[eH];exact List.perm_middle.trans (by show((j,m)::(l.take k++l.drop k)).Perm _;rw[fQ])
open Go.RowKit Go.PlainAid
def aK6{L m b:E kI}(h:aB7 t=M L)(j:m.Perm L)(hs:setB m=t?)(c:vt t=M b):m=b:=by
 have a:mW t (M b):=by
  unfold vt at c;split at c
  .next e=>cases c;exact e.choose_spec
  cases c
 have k:=CP a;unfold mW at a
 cases e:pE t with
 |none=>rw[e]at a;cases a
 |some l=>
  rw[e]at a;obtain⟨f,p,sc,d⟩:=a;rw[aK4 e]at h
  cases h
  have g:b=f:=by
   split at d
   .cases d;rfl
   cases d
  subst g;exact(Ag m b (LL hs) (PE sc) (p.trans j.symm)).symm
def bb5(w:jC)(s:v?)(e:bi6)(w':jC):Prop:=Below w w w'/\∃(A:w? jG)(ls:E kI)(c:O)(a:I),e=a? (d? #[jN A ls c,jJ a])/\Lb w' w' A ls/\ls.length<=400/\(∀x∈ls,x.1.size<=400/\x.2.size<=400)/\(a=0->∀l,vt (tx s)=M l->ls=l)
def bb5.no(h:Below w w w'):bb5 w s (a? (d? #[jM,jJ 40])) w':=⟨h,Z,[],0,40,rfl,Rd.none_,lV,lV,λe=>LS⟩
def aB3(s:v?)(hs:s.size<=300)(w:jC):jE Tryz.prog 24 #[jL s] w (bb5 w s):=by
 have χ:fK .add ⟨#[44]⟩ s=pure (f? (⟨#[44]⟩++s)):=oL (by show 1+_<=_;omega);have hv:=aw0 (l:=tx s);go_in;go_wp2_with fail;refine(ap5 s jS w).mono ?_;rintro e w1⟨rfl,β⟩;rw[hv];have z:=ah β
 cases oJ (tx s)with
 |false=>
  go_wp2;go_ret2;exact .no z
 |true=>
  go_wp2_with fail;go_loopw[6,7] (λv t wr=>∃(L ψ:E kI)(A:w? jG)(c:O)(R:v?),v=b? A ψ.length c/\t=f? R/\ψ.length<=c/\c<=9223372036854775807/\L.length+R.size<=301/\Hid (ψ.Perm L)/\Hid (∀y∈ψ,y.1.size<=400/\y.2.size<=400)/\Hid (Lb wr wr A ψ)/\
   Hid (aB7 (tx s)=if tx R=[]then M L else az7 (((tx R).drop 1).foldl ac2 ⟨[],[],0,L⟩))/\(qaC w wr)) (λ_ t _=>match t with|f? r=>r.size|_=>0)
  case atStart=>
   refine⟨[],[],Z,0,_,rfl,rfl,ay _,jS,by rw[fc];show 0+(1+_)<=_;omega,List.Perm.refl _,λy b=>(by simp at b),Rd.none_,?_,z⟩;show aB7 (tx s)=_;rw[ah8];show _=if 44::tx s=[]then _ else _
   rw[A? lV];rfl
  obtain⟨L,ψ,A,c,R,rfl,rfl,hc,J,hn,HP,G,W,Y,HB⟩:=hrel;have hO:ψ.length<=301:=by have:=HP.length_eq;omega
  by_cases h0:0<R.size
  .have d:=aC7 h0;have C:¬R.toList=[]:=by rw[km];exact d
   have μ:R.toList.isEmpty=u?:=by simpa using C
   have φ:(R.toList==[])=u?:=by simpa using C
   have a:=Y;rw[A? d]at a;have θ:=ah a;clear a Y d;have l1:(1:I)<=(R.size:I):=by omega
   have ρ:(R.extract 1 R.size).size=R.size-1:=by rw[fI];omega
   have HX:Hid (tx (R.extract 1 R.size)=(tx R).drop 1):=ao7 (by omega);go_wp2_with fail;refine(aJ9 _ jS _).mono ?_;rintro e w2⟨F,x,more,ok,rfl,hm,α,K,ho⟩;have η:=ah (Below.two HB F);have δ:=ah (W.later F);have HO:Hid (ok=t?->aB7 (tx s)=if tx more=[]then M (L++[x])else az7 (((tx more).drop 1).foldl ac2 ⟨[],[],0,L++[x]⟩)):=λh=>by
    rw[θ,<-HX];exact ho h L
   obtain⟨j,k⟩:=x;have n:=jP (jQ w2) (lI 910 j k);have XB:=ah (jR.new w2 71 #[jL j,jL k]);have f:=ah (Below.two η n);have SS:=ah (δ.later n);have y0:=ce XB 0;have y1:=ce XB 1;simp only at α K
   cases ok with
   |false=>
    go_wp2;go_ret2;exact .no f
   |true=>
    have H:Hid (∀y∈(j,k)::ψ,y.1.size<=400/\y.2.size<=400):=λy b=>by
     rcases cw.1 b with rfl|b
     .exact⟨by show j.size<=_;omega,by show k.size<=_;omega⟩
     exact G y b
    go_wp2_with fail;refine(aJ7 A ψ c (j,k) jS hc J (λy b=>by have:=G.out y b;unfold maxLen;omega) (by show j.size<=maxLen;unfold maxLen;omega) _ SS).mono ?_;rintro e w4⟨q,A4,c4,B,rfl,T,γ,X,m⟩;have Q:=ah (Below.two f q);have Lu:=ah m;have N:=ah (T.trans (((List.Perm.cons _ HP).trans (List.perm_append_singleton _ _).symm)));have ε:Hid (∀y∈B,y.1.size<=400/\y.2.size<=400):=λy b=>H y (T.mem_iff.1 b);clear m q f SS XB y0 y1 T;go_wp2_with fail;go_roundw
    case rel=>exact⟨L++[(j,k)],B,A4,c4,more,rfl,rfl,γ,X,by rw[cd,fT];omega,N,ε,Lu,HO trivial,Q⟩
    show more.size<R.size;omega
  have ht:tx R=[]:=da (by rw[lG];omega);have V:R.toList=[]:=by rw[km];exact ht
  have ξ:R.toList.isEmpty=t?:=by rw[V];rfl
  have a:=Y;rw[B? ht]at a;have HD:=ah a;go_wp2_with fail;refine(ai0 A ψ c jS (λy b=>by have:=G.out y b;omega) wr W).mono ?_;rintro e w5⟨rfl,o⟩;have y_:=ah (Below.two HB o);have κ:=ah (W.later o)
  cases p:setB ψ with
  |false=>
   go_wp2;go_ret2;exact .no y_
  |true=>
   have HE:Hid (∀l,vt (tx s)=M l->ψ=l):=λl h=>aK6 HD HP p h;go_wp2;go_ret2;exact⟨y_,A,ψ,c,0,rfl,κ,jS,G,λ_=>HE⟩
def ac9(vs:E O)(b:E z?)(s:Sc.Sg):O->z?
 |0=>match s with
  |.any=>b.getD 0 u?
  |_=>u?
 |k+1=>match s with
  |.any=>b.getD (k+1) u?||ac9 vs b s k
  |.one=>b.getD k u?
  |.that c=>b.getD k u?&&c==vs.getD k 0
def aS3(vs:E O)(b:E z?)(s:Sc.Sg):E z?:=(bu (vs.length+1)).map (ac9 vs b s)
def OkD(vs:E O)(l:E Sc.Sg)(b:E z?):Prop:=∀k,k<=vs.length->Sc.Mt l (vs.take k)->b.getD k u?=t?
def am8{vs:E O}{b:E z?}:∀{k j:O},j<=k->b.getD j u?=t?->ac9 vs b .any k=t?
 |0,j,h,e=>by
  have:j=0:=jS;subst this;exact e
 |k+1,j,h,e=>by
  show(b.getD (k+1) u?||ac9 vs b .any k)=t?;by_cases c:j=k+1
  .subst c;rw[e];rfl
  rw[am8 (show j<=k by omega) e,Bool.or_true]
variable{vs:E O}{b:E z?}
def aD7{s:Sc.Sg}(h:k<=vs.length):(aS3 vs b s).getD k u?=ac9 vs b s k:=by
 unfold aS3;rw[aP,eD,List.getElem?_range jS];rfl
def OkD.zero(h:b.getD 0 u?=t?):OkD vs [] b:=λk c a=>by
 have e:=Sc.Mt.LX.1 a;have:k=0:=by
  have:=C? ez e;rw[cv,dp]at this;omega
 subst this;exact h
variable{l:E Sc.Sg}
def OkD.step(h:OkD vs l b)(s:Sc.Sg):OkD vs (l++[s]) (aS3 vs b s):=λk o j=>by
 rw[aD7 o];obtain⟨x,y,e,q,n⟩:=j.parts;have r:x=vs.take x.length:=by
  have:=C? (by5 x.length) e;rw[by3,List.take_left]at this;have a:=C? ez e;rw[cv,cd]at a;rw[Nat.min_eq_left jS]at this;exact this.symm
 have a:=C? ez e;rw[cv,cd]at a;have g:=h x.length jS (r▸q);by_cases f:s=.any
 .subst f;exact am8 jS g
 obtain⟨c,rfl,t⟩:=(Sc.Mt.LV f).1 n;rw[fT]at a;obtain rfl:k=x.length+1:=jS
 cases s with
 |any=>exact H? rfl f
 |one=>exact g
 |that d=>
  show(b.getD x.length u?&&d==vs.getD x.length 0)=t?;have p:d=c:=by simpa[Sc.Hk]using t
  have m:vs.getD x.length 0=c:=by
   have:=C? (λz=>z[x.length]?) e;simp only[gJ,d7 aa,bx4]at this;rw[B? jS]at this;rw[aP,this];rfl
  rw[g,m,p];simp
def aE2(g:Good d){b:y?}(j:b.toNat<128):ac0 d=[b]↔d.1=b.toNat:=by
 rcases au7 g with⟨c,e,a,f⟩|⟨a,f⟩
 .rw[e];constructor
  .intro h;cases h;exact a.symm
  intro h;rw[UInt8.toNat_inj.1 (a.trans h)]
 constructor
 .intro h;have:=f b (by rw[h];exact di);omega
 intro h;omega
def aO7{e:T9}(g:Good d)(k:Good e):ac0 d=ac0 e↔d.1=e.1:=by
 constructor
 .intro h;have a:=g.cp_ [];have b:=k.cp_ [];rw[h,b]at a;injection a with a _;rw[a]
 intro h;unfold ac0;rw[h]
def rtS(d:T9):v?:=⟨(ac0 d).toArray⟩
def aj0(d:T9):(rtS d).toList=ac0 d:=by rw[km];rfl
def ap6{l:E y?}:∀d∈ac3 l,Good d:=λd a=>by
 unfold ac3 at a;split at a
 .next h=>exact(aw2 h).1 d a
 cases a
def av9:(ac3 (tx s)).length<=s.size:=by
 unfold ac3;split
 .have:=Dr (tx s);rw[lG]at this;exact this
 exact be _
def ai4(ds:E T9)(k:O):z?:=(Sc.BT ([],u?) (ds.take k)).2
variable{ds:E T9}
def ap9(a:k<ds.length)(h:ai4 ds k=u?):ai4 ds (k+1)=decide (ds[k].1=126):=by
 unfold ai4 at h⊢;rw[aj a,Sc.PI,Sc.stepS,A? (by rw[h];simp)];by_cases c:ds[k].1=126
 .rw[A? jS,A? jS,B? c];simp[c]
 rw[A? (c:=ds[k].1=126) c];split<;>(try split)<;>simp[c]
def az0(a:k<ds.length)(h:ai4 ds k=t?):ai4 ds (k+1)=u?:=by
 unfold ai4 at h⊢;rw[aj a,Sc.PI,Sc.stepS,B? h]
variable{p:E y?}
def aF0(h:(Sc.mu p).isSome=t?):mP p=t?/\ai4 (ac3 p) (ac3 p).length=u?:=by
 obtain⟨a,d⟩:=Option.isSome_iff_exists.1 h;obtain⟨b,c⟩:=Sc.qF9 d;refine⟨b,?_⟩;unfold ai4 ac3;rw[B? (by simp only[mP,ba]at b;exact b.1.1),dP,c]
def one_set{p:v?}(h:mP (tx p)=t?):setB [(⟨#[97]⟩,p)]=t?:=by
 have:nameB (tx ⟨#[97]⟩)=t?:=TO;simp[setB,chainB,ri,h,this,Ep];decide+kernel
def aA2(w:jC)(p:E y?)(e:bi6)(w':jC):Prop:=Below w w w'/\∃b:z?,e=a? (h? b)/\((Sc.mu p).isSome=t?->b=t?)/\(b=t?->ai4 (ac3 p) (ac3 p).length=u?)
def aA2.mk{b:z?}(c:Below w w w')(a:(Sc.mu p).isSome=t?->b=t?)(d:b=t?->ai4 (ac3 p) (ac3 p).length=u?):aA2 w p (a? (h? b)) w':=⟨c,b,rfl,a,d⟩
def ap7(p:v?)(hp:p.size<=1000)(w:jC):jE Tryz.prog 22 #[jL p] w (aA2 w (tx p)):=by
 have hn:=av9 (s:=p);have HG:=ah (ap6 (l:=tx p));have K:=ah (aF0 (p:=tx p));have HO:=ah (one_set (p:=p));go_in;go_wp2_with fail;have j:=ah (jP (jQ w) (m? #[f? ⟨#[97]⟩,jL p] 71));have t:=ah (jR.new w 71 #[f? ⟨#[97]⟩,jL p]);refine(aj8 p (by omega) _).mono ?_;rintro e Q⟨⟨A,c,rfl,-,L⟩,n⟩;have f:(qaC w Q):=j.trans (n.mono j.size);have z:=ah (t.later n);have H:=ah L;clear j t n L;generalize o:ac3 (tx p)=ds at*;have F:=ah o;clear o;go_wp2_with fail;go_loopw[6] (λi wr=>∃k:O,i=(qaE k)/\k<=ds.length/\Hid (ai4 ds k=u?)/\(qaC Q wr)) (λi _=>ds.length-(av i).toNat)
 case atStart=>exact⟨0,rfl,be _,rfl,jQ _⟩
 obtain⟨k,rfl,hk,R,g⟩:=hrel;by_cases C:k<ds.length
 .have d1:decide ((k:I)<ds.length)=t?:=ae;have X:(0:I)<=k:=by omega
  have α:(k:I)<ds.length:=by omega
  obtain⟨b,m,rfl,n,N⟩:=H.at_ (by rw[ax];omega);have i0:wr.cell? ⟨b,m+k,Z⟩=M (f? (rtS ds[k])):=(g.cell (p:=⟨b,m+k,Z⟩) n).trans (N k _ (by rw[eD,an C];rfl));have β:b<wr.heap.size:=by have:=g.size;omega
  have v:=ap9 C R;have r:=aE2 (HG ds[k] (ar C)) (b:=126) (by decide);rw[<-aj0]at r;generalize ds[k]=d at*;clear N;by_cases c1:d.1=126
  .have b1:((rtS d).toList==[126])=t?:=by rw[beq_iff_eq];exact r.2 c1
   have y:Hid (ai4 ds (k+1)=t?):=by show _=_;rw[v];simp[c1]
   clear r v c1;have W:IntKind.i64.wrap ((k:I)+1)=((k+1:O):I):=by rw[dv _ (by omega)];omega
   by_cases V:k+1=ds.length
   .have Y:(((k+1:O):I)==(ds.length:I))=t?:=by rw[beq_iff_eq];omega
    go_wp2_with fail;go_ret;exact aA2.mk (f.trans (g.mono f.size)) (λh=>by have a:=(K h).2;rw[<-V,y]at a;cases a) (λh=>by cases h)
   have Y:(((k+1:O):I)==(ds.length:I))=u?:=by rw[G?];omega
   go_wp2_with fail;go_roundw
   case rel=>exact⟨k+2,by go_num,by omega,az0 (by omega) y,g⟩
   simp[av];omega
  have b1:((rtS d).toList==[126])=u?:=by rw[G?];exact λe=>c1 (r.1 e)
  have y:Hid (ai4 ds (k+1)=u?):=by show _=_;rw[v];simp[c1]
  clear r v c1;go_wp2_with fail;go_roundw
  case rel=>exact⟨k+1,by go_num,by omega,y,g⟩
  exact No
 have J:k=ds.length:=jS;subst J;have d1:decide ((ds.length:I)<ds.length)=u?:=lV;have HX:=ah (z.later g);go_wp2_with fail;refine(ai0 _ [(⟨#[97]⟩,p)] 1 lV (λx T=>by simp at T;subst T;exact⟨by show 1<=_;decide,by show p.size<=_;omega⟩) wr HX.lab).mono ?_;rintro e w3⟨rfl,B⟩;have D:=ah (g.trans (B.mono g.size));go_wp2;go_ret;exact aA2.mk (f.trans (D.mono f.size)) (λh=>HO (K h).1) (λ_=>F▸R)
open Go.RowKit Go.PlainAid
def af2(s:v?):kI:=if 61∈tx s then Sc.nf (tx s)else(⟨#[]⟩,⟨#[]⟩)
def aN2(l:k<s.size)(h:∀j,j<k->bt s j≠61)(c:bt s k=61):af2 s=(s.extract 0 k,s.extract (k+1) s.size):=by
 have m:=lG s;have e:=(ah6 l 61).1 c;rw[an jS,jz]at e;have f:(tx s).idxOf 61=k:=by
  unfold List.idxOf;rw[List.findIdx_eq jS];refine⟨by rw[e];rfl,λj b=>?_⟩;have g:=h j b;have a:(tx s)[j]≠61:=λq=>g ((ah6 jS 61).2 (by rw[an jS,jz];exact q));simpa using a
 have d:(61:y?)∈tx s:=by rw[<-e];exact ar _
 unfold af2;rw[B? d];unfold Sc.nf;rw[f];refine Prod.ext (rX ?_) (rX ?_)
 .rw[aI9];rfl
 rw[Sc.vk,show(tx s).take s.size=tx s from cl jS];rfl
def aN1(h:∀j,j<s.size->bt s j≠61):af2 s=(⟨#[]⟩,⟨#[]⟩):=by
 unfold af2;rw[A?];intro b;obtain⟨j,a,e⟩:=dR b;have c:=lG s;exact h j jS ((ah6 jS 61).2 (by rw[an a,jz];exact e))
def as9(s:v?)(hs:s.size<=400)(w:jC):jE Tryz.prog 20 #[jL s] w λe w'=>e=a? (d? #[jL (af2 s).1,jL (af2 s).2])/\Below w w w':=by
 have gs:=get_bt s;go_in;go_wp2_with fail;go_loopw[4] (λi wr=>∃k:O,i=(qaE k)/\k<=s.size/\Hid (∀j,j<k->bt s j≠61)/\wr=w) (λi _=>s.size-(av i).toNat)
 case atStart=>exact⟨0,rfl,be _,λj h=>jS,rfl⟩
 obtain⟨k,rfl,C,d,rfl⟩:=hrel;by_cases r:k<s.size
 .have d1:decide ((k:I)<s.size)=t?:=ae;have o:(0:I)<=k:=jS;have y:(k:I)<s.size:=jS;by_cases c1:bt s k=61
  .have x:(bt s k==61)=t?:=by rw[beq_iff_eq];exact c1
   have c:=ah (aN2 r d c1);have D:(k:I)<=(s.size:I):=jS;have A:(0:I)<=k+1:=jS;have B:(k:I)+1<=(s.size:I):=by omega
   have q:IntKind.i64.wrap ((k:I)+1)=(k:I)+1:=dv _ (by omega);have z:((k:I)+1).toNat=k+1:=jS;go_wp2;refine bi1 (S:=λ_=>True) oo trivial (λb=>?_);refine re b ?_;refine hdn ?_;clear b;go_wp2_with fail;refine jF (v:=d? #[jL (s.extract 0 k),jL (s.extract (k+1) s.size)]) (by simp[results,Tryz.results20,go_sem]) rfl ?_;rw[c];exact⟨rfl,(jQ _).drew⟩
  have x:(bt s k==61)=u?:=by rw[G?];exact c1
  have g:Hid (∀j,j<k+1->bt s j≠61):=λj t=>by
   rcases bw7.1 t with h|rfl
   .exact d j h
   exact c1
  go_wp2;go_roundw
  case rel=>exact⟨k+1,CJ,jS,g,trivial⟩
  exact No
 have m:k=s.size:=jS;subst m;have d1:decide ((s.size:I)<s.size)=u?:=lV;have c:=ah (aN1 d);go_wp2;refine jF (v:=d? #[qaA,qaA]) (by simp[results,Tryz.results20,go_sem]) rfl ?_;rw[c];exact⟨rfl,jQ _⟩
def Tryz.aL1:(Tryz.prog.info? 9).map (λi=>(i.zero,i.size,i.bytes))=M (M (f? ⟨#[]⟩),1,16):=oo
def an9(l:E (E y?)):E jD:=l.map λx=>f? (Sc.bt x)
structure TmI(s:v?)(k f:O)(ps:E (E y?)):Prop where
 le:f<=k
 no:∀j,f<=j->j<k->bt s j≠59
 sp:Sc.kX (tx s)=ps++Sc.kX ((tx s).drop f)
 len:ps.length<=k
variable{f:O}
def aJ6(c:k<=s.size)(h:∀j,f<=j->j<k->bt s j≠59):(59:y?)∉((tx s).take k).drop f:=λa=>by
 obtain⟨i,b,e⟩:=dR a;have d:=lG s;rw[dr,cv]at b;rw[List.getElem_drop,jt]at e;exact h (f+i) jS jS ((ah6 jS 59).2 (by rw[an jS,jz];exact e))
variable{ps:E (E y?)}
def TmI.cut(h:TmI s k f ps)(c:k<s.size)(b:bt s k=59):TmI s (k+1) (k+1) (ps++[((tx s).take k).drop f]):=by
 have m:=lG s;have e:=(ah6 c 59).1 b;rw[an jS,jz]at e;refine⟨ay _,λj d g=>jS,?_,by have:=h.len;simp;omega⟩;have l:=h.le;have a:(tx s).drop f=((tx s).take k).drop f++59::(tx s).drop (k+1):=by
  conv=>lhs;rw[<-fQ k (tx s)]
  rw[List.drop_append_of_le_length qlt,dN (show k<(tx s).length by omega),e]
 rw[h.sp,a,Sc.FN (aJ6 jS h.no),eH];rfl
def TmI.end_(h:TmI s s.size f ps):Sc.kX (tx s)=ps++[((tx s).take s.size).drop f]:=by
 have b:=lG s;have a:=aJ6 aa h.no;have e:(tx s).take s.size=tx s:=cl (by omega);rw[e]at a⊢;rw[h.sp,Sc.tj a]
def TmI.on(h:TmI s k f ps)(b:bt s k≠59):TmI s (k+1) f ps:=
 ⟨by have:=h.le;omega,λj a c=>by
  rcases bw7.1 c with d|rfl
  .exact h.no j a d
  exact b,h.sp,by have:=h.len;omega⟩
def aR5{a b:O}:Sc.bt (((tx s).take b).drop a)=s.extract a b:=rX (by rw[Sc.vk];rfl)
def aR2(w:jC)(s:v?)(e:bi6)(w':jC):Prop:=Below w w w'/\∃A c,e=a? (b? A (Sc.kX (tx s)).length c)/\Rd w' w' A (an9 (Sc.kX (tx s)))
def ap3(s:v?)(hs:s.size<=400)(w:jC):jE Tryz.prog 19 #[jL s] w (aR2 w s):=by
 have gs:=get_bt s;obtain⟨t0,o,A,y,t⟩:=bi5 Tryz.aL1;go_in;go_wp2_with fail;go_loopw[3,4,5] (λv F i wr=>∃(k f:O)(g:w? jG)(c2:O)(ps:E (E y?)),i=c? o? (k:I)/\F=c? o? (f:I)/\v=b? g ps.length c2/\k<=s.size+1/\ps.length<=k/\Hid (wr.ownsRow w 9 1 (b? g ps.length c2) ps.length (an9 ps))/\Hid (Below w w wr)/\Hid ((k<=s.size->TmI s k f ps)/\(k=s.size+1->Sc.kX (tx s)=ps))) (λ_ _ i _=>s.size+1-(av i).toNat)
 case atStart=>exact⟨0,0,Z,0,[],rfl,rfl,rfl,be _,be _,dY _ _ _ _,jQ _,λ_=>⟨ay _,λj Q h2=>jS,rfl,ay _⟩,λh=>jS⟩
 obtain⟨k,f,g,c2,ps,rfl,rfl,rfl,hk,β,n,m,T⟩:=hrel;by_cases Q:k<=s.size
 .have d1:decide ((k:I)<=(s.size:I))=t?:=ae;have N:=T.1 Q;have X:=N.le;have c:=ah N;have l1:(0:I)<=f:=jS;have l2:(f:I)<=(k:I):=jS;have l3:(k:I)<=(s.size:I):=jS;by_cases a:k=s.size\/bt s k=59
  .have G:Hid (∃C,C=k+1/\((k+1<=s.size->TmI s (k+1) C (ps++[((tx s).take k).drop f]))/\(k+1=s.size+1->Sc.kX (tx s)=ps++[((tx s).take k).drop f]))):=by
    refine⟨k+1,rfl,λh=>?_,λh=>?_⟩
    .exact c.cut jS (a.resolve_left jS)
    have e:k=s.size:=jS;subst e;exact c.end_
   have J:=jR.new wr 9 #[jL (s.extract f k)]
   have q:=jP (jQ wr) (m? #[jL (s.extract f k)] 9)
   have D:=ah (m.trans (q.mono m.size))
   have x:((k:I)==(s.size:I))=t?\/(((k:I)==(s.size:I))=u?/\(k:I)<s.size/\(bt s k==59)=t?):=by
    by_cases e:k=s.size
    .left;simp[e]
    right;exact⟨O1,jS,by rw[beq_iff_eq];exact a.resolve_left e⟩
   rcases x with R|⟨R,H,d3⟩
   all_goals
    go_wp2_with(at_builtin;refine Stop.i ?_);unfold Stop;refine kr _ rfl (.tmp 22) (.tmp 27) 66 rfl w 9 t0 _ 1 16 Tryz.underlying66 o A y t rfl B8 (b? g ps.length c2) ps.length _ rfl (n.alloc _) _ _ 1 1 [jL (s.extract f k)] rfl rfl (tY J) (λu K=>by simp at K;rw[K];rfl) O0 jS D.size ?_;intro v' W9 b d hv;obtain⟨L,V,rfl,-,-,-⟩:=li b;have Y:=ah (D.grown d D.size (λr e=>(pf (n.alloc (m? #[jL (s.extract f k)] 9)) r e).1));have W:Hid (W9.ownsRow w 9 1 (b? L (ps++[((tx s).take k).drop f]).length V) (ps++[((tx s).take k).drop f]).length (an9 (ps++[((tx s).take k).drop f]))):=by
     show gX _ _ _ _ _ _ _;rw[cd];simpa[an9,aR5]using b
    obtain⟨C,rfl,hn⟩:=G;have z:=ah hn;go_wp2;go_roundw
    case rel=>exact⟨k+1,k+1,L,V,ps++[((tx s).take k).drop f],CJ,CJ,lV,jS,mO,W,Y,z⟩
    exact No
  have R:((k:I)==(s.size:I))=u?:=O1;have H:(k:I)<s.size:=jS;have α:(0:I)<=k:=jS;have d3:(bt s k==59)=u?:=by rw[G?];exact λe=>a (s? e)
  have G:=ah (c.on (λe=>a (s? e)));go_wp2;go_roundw
  case rel=>exact⟨k+1,f,g,c2,ps,CJ,rfl,rfl,jS,jS,n,m,λ_=>G,λh=>jS⟩
  exact No
 have d1:decide ((k:I)<=(s.size:I))=u?:=ag;have e:=T.2 jS;have HE:=ah e;go_wp2;go_ret;unfold aR2;rw[HE];exact⟨m,g,c2,rfl,Rd.own n⟩
def sgD(a:z?)(d:T9):Sc.Sg:=if a=t? then .that d.1 else if d.1=42 then .any else if d.1=63 then .one else .that d.1
def sgK(ds:E T9)(k:O):E Sc.Sg:=(Sc.BT ([],u?) (ds.take k)).1
def av8{q:z?}(h:ai4 ds k=q):Sc.BT ([],u?) (ds.take k)=(sgK ds k,q):=Prod.ext rfl h
def aN4(b:k<ds.length)(h:ai4 ds k=u?)(a:¬ds[k].1=126):sgK ds (k+1)=sgK ds k++[sgD u? ds[k]]:=by
 have e:sgK ds (k+1)=(Sc.stepS (sgK ds k,u?) ds[k]).1:=by
  unfold sgK;rw[aj b,Sc.PI,av8 h]
 rw[e];unfold Sc.stepS sgD;simp only[bw8,if_false,a];split<;>(try split)<;>rfl
def aN3(b:k+1<ds.length)(h:ai4 ds k=u?)(a:ds[k].1=126):sgK ds (k+2)=sgK ds k++[sgD t? ds[k+1]]:=by
 have e:sgK ds (k+1)=sgK ds k:=by
  unfold sgK;rw[aj (show k<ds.length by omega),Sc.PI,av8 h];simp[Sc.stepS,a,sgK]
 have q:=ap9 (show k<ds.length by omega) h;rw[a]at q;show(Sc.BT ([],u?) (ds.take (k+1+1))).1=_;rw[aj b,Sc.PI,av8 q,e];rfl
structure NbI(vs:E O)(b:E z?)(s:Sc.Sg)(nb:E z?)(j:O):Prop where
 len:nb.length=vs.length+1
 lo:∀i,i<j->nb.getD i u?=ac9 vs b s i
 hi:∀i,j<=i->nb.getD i u?=u?
variable{j:O}
def aq2{i:O}{x:z?}(a:j<b.length):(b.set j x).getD i u?=if i=j then x else b.getD i u?:=by
 rw[aP,jq,aP];by_cases e:j=i
 .subst e;simp[a]
 rw[A? e,A? (by6 e)]
def NbI.new{s:Sc.Sg}:NbI vs b s (de (vs.length+1) u?) 0:=
 ⟨ey,λi h=>jS,λi _=>by rw[aP,List.getElem?_replicate];split<;>rfl⟩
def NbI.set{vs:E O}{b:E z?}{s:Sc.Sg}{nb:E z?}{j:O}{x:z?}(h:NbI vs b s nb j)(d:j<=vs.length)(c:x=ac9 vs b s j):NbI vs b s (nb.set j x) (j+1):=
 ⟨by rw[eq];exact h.len,λi a=>by
  rw[aq2 (by rw[h.len];omega)];split
  .next e=>rw[e,c]
  exact h.lo i jS,λi a=>by rw[aq2 (by rw[h.len];omega),A? jS];exact h.hi i jS⟩
variable{nb:E z?}
def NbI.keep{s:Sc.Sg}(h:NbI vs b s nb j)(c:ac9 vs b s j=u?):NbI vs b s nb (j+1):=
 ⟨h.len,λi a=>by
  rcases bw7.1 a with e|rfl
  .exact h.lo i e
  rw[c];exact h.hi i aa,λi a=>h.hi i jS⟩
def NbI.ok{s:Sc.Sg}(h:NbI vs b s nb (vs.length+1))(c:OkD vs l b):OkD vs (l++[s]) nb:=λk a d=>by
 rw[h.lo k jS,<-aD7 a];exact c.step s k a d
def NbI.cast{s:Sc.Sg}(h:NbI vs b s nb (n+1))(e:vs.length=n):NbI vs b s nb (vs.length+1):=by rw[e];exact h
def aP3(h:b.getD j u?=t?):ac9 vs b .any j=t?:=am8 (ay j) h
def blV(b:E z?):x? jD:=(b.map Value.bool).toArray
def aA0{t:jH}(h:jR w g t (blV b)){i:O}(hi:i<b.length):w.cell? ⟨g,i,Z⟩=M (h? (b.getD i u?)):=
 h.at_ i (by simp[blV,hi,aP])
def ba8{t:jH}(h:jR w g t (blV b))(i:O)(x:z?):jR (w.setCell ⟨g,i,Z⟩ (h? x)) g t (blV (b.set i x)):=by
 have e:blV (b.set i x)=(blV b).setIfInBounds i (h? x):=by simp[blV,iJ]
 rw[e];exact h.kY i _
def aP2(b:E z?)(i:O)(x:z?):(blV b).setIfInBounds i (h? x)=blV (b.set i x):=by simp[blV,iJ]
def aF8(n:O):madeCells #[h? u?] n=blV (de n u?):=by
 apply Array.ext
 .simp[bz0,blV]
 intro i a b;simp[madeCells,Nat.mod_one,blV]
def Tryz.aG2:(Tryz.prog.info? 4).map (λi=>(i.zero,i.size,i.bytes))=M (M (h? u?),1,1):=oo
def av4(w:jC)(p v:E y?)(e:bi6)(w':jC):Prop:=Below w w w'/\∃b:z?,e=a? (h? b)/\(Sc.qB p v=t?->b=t?)
def av4.mk{b:z?}(a:Below w w w')(h:Sc.qB p v=t?->b=t?):av4 w p v (a? (h? b)) w':=⟨a,b,rfl,h⟩
def SgC(a:z?)(s:Sc.Sg)(q:T9):Prop:=(s=.any/\a=u?/\((rtS q).toList==[42])=t?)\/(s=.one/\a=u?/\((rtS q).toList==[42])=u?/\((rtS q).toList==[63])=t?)\/(s=.that q.1/\(a=t?\/(((rtS q).toList==[42])=u?/\((rtS q).toList==[63])=u?)))
def aJ4(d:z?){q:T9}(g:Good q):SgC d (sgD d q) q:=by
 have a:=aE2 g (b:=42) B8;have c:=aE2 g (b:=63) B8;rw[<-aj0]at a c;have f:¬q.1=42->((rtS q).toList==[42])=u?:=λh=>by rw[G?];exact λe=>h (a.1 e)
 have j:¬q.1=63->((rtS q).toList==[63])=u?:=λh=>by rw[G?];exact λe=>h (c.1 e)
 unfold SgC sgD
 cases d with
 |true=>exact s? (s? ⟨rfl,r? rfl⟩)
 |false=>
  by_cases c1:q.1=42
  .exact r? ⟨by simp[c1],rfl,by rw[beq_iff_eq];exact a.2 c1⟩
  by_cases c2:q.1=63
  .exact s? (r? ⟨by simp[c2],rfl,f c1,by rw[beq_iff_eq];exact c.2 c2⟩)
  exact s? (s? ⟨by simp[c1,c2],s? ⟨f c1,j c2⟩⟩)
def ba4(h:OkD ((ac3 v).map (·.1)) (sgK (ac3 p) (ac3 p).length) b)(n:Sc.qB p v=t?):b.getD (ac3 v).length u?=t?:=by
 obtain⟨l,d,k,e⟩:=Sc.xP.1 n;obtain⟨c,m⟩:=Sc.qF9 d;have f:oJ p=t?:=by simp only[mP,ba]at c;exact c.1.1
 have g:ac3 p=cp p:=by unfold ac3;rw[B? f]
 have a:ac3 v=cp v:=by unfold ac3;rw[B? k]
 rw[g,a]at h;rw[a];have:=h (cp v).length (by rw[ax];exact ay _);refine this ?_;have j:sgK (cp p) (cp p).length=l:=by unfold sgK;rw[dP,m]
 rw[j,cl (by rw[ax];exact ay _)];exact e
def ba2(h:oJ v=u?\/¬(Sc.mu p).isSome=t?):Sc.qB p v=t?->False:=λc=>by
 obtain⟨l,b,a,d⟩:=Sc.xP.1 c;rcases h with h|h
 .rw[h]at a;cases a
 exact h (by rw[b];rfl)
def aF3(p v:v?)(hp:p.size<=1000)(hv:v.size<=1000)(w:jC):jE Tryz.prog 48 #[jL p,jL v] w (av4 w (tx p) (tx v)):=by
 obtain⟨t0,ht0,tz0,tz1,tz2⟩:=bi5 Tryz.aG2;have hn:=av9 (s:=p);have hm:=av9 (s:=v);have O2:=aw0 (l:=tx v);have α:=ah (ap6 (l:=tx p));have HGV:=ah (ap6 (l:=tx v));have aP5:=ah (λb=>ba4 (p:=tx p) (v:=tx v) (b:=b));have Wr:=ah (ba2 (p:=tx p) (v:=tx v));go_in;go_wp2_with fail;refine(aj8 p (by omega) _).mono ?_;rintro e w1⟨⟨A,c,rfl,-,hr⟩,D⟩;have δ:=ah D;have R:=ah hr;clear D hr;generalize(mc (tx p)).2=ok1 at*;go_wp2_with fail;refine(aj8 v (by omega) _).mono ?_;rintro e w2⟨⟨B,d,rfl,-,hr⟩,D⟩;have β:(qaC w w2):=δ.trans (D.mono δ.size);have Θ:=ah ((Rd.below R D).more D.size);have φ:=ah hr;rw[O2];clear D hr δ R O2;generalize ac3 (tx v)=ac7 at*
 cases T:oJ (tx v)with
 |false=>
  have HN:=ah (Wr (r? T));clear T;go_wp2_with fail;go_ret;exact av4.mk β λh=>(HN h).elim
 |true=>
  clear T;go_wp2_with fail;refine(ap7 p hp _).mono ?_;rintro e C⟨D,r,rfl,Ω,ρ⟩;have γ:(qaC w C):=β.trans (D.mono β.size);have HA3:=ah ((Rd.below Θ D).more D.size);have MO:=ah ((Rd.below φ D).more D.size);have R:=ah Ω;have Ξ:=ah ρ;clear D Θ φ β Ω ρ
  cases r with
  |false=>
   go_wp2_with fail;go_ret;exact av4.mk γ λh=>(Wr (s? λk=>by have:=R.out k;cases this) h).elim
  |true=>
   have Yr:=ah (Ξ rfl);clear R Ξ Wr;generalize ac3 (tx p)=Cr at*;obtain⟨n,hdn⟩:∃n,ac7.length=n:=⟨_,rfl⟩;have hmk:∀W,(bx9 149 (c? o? ((n:I)+1)) (c? o? ((n:I)+1))).run Tryz.prog W=.ok (b? (M ⟨W,0,Z⟩) (n+1) (n+1)) (W.alloc (m? (blV (de (n+1) u?)) 4)):=λW=>by
    have:=vo (P:=Tryz.prog) 149 4 t0 (h? u?) Tryz.underlying149 ht0 tz0 tz1 o? o? (n+1) (n+1) aa (by rw[tz2];omega) (by omega) W;rw[<-aF8 (n+1)];exact this
   rw[hdn];have hn1:n<=1000:=by omega
   have Y:=ah hdn;clear hdn;have hx0:(0:I)<=0:=Int.le_refl 0;have hx1:(0:I)<((n+1:O):I):=by omega
   have HX:=jR.new C 4 (blV (de (n+1) u?));have fz:=HX.frozen 0;have hlt:=HX.lt;go_wp2_with fail;rw[aP2];have HB4:=ah (jP (jQ C) (m? (blV ((de (n+1) u?).set 0 t?)) 4));have HX4:=ah (jR.new C 4 (blV ((de (n+1) u?).set 0 t?)));have YC:Hid (OkD (ac7.map (·.1)) (sgK Cr 0) ((de (n+1) u?).set 0 t?)):=OkD.zero (by rw[aq2 (by simp),B? rfl]);have hb0:((de (n+1) u?).set 0 t?).length=n+1:=by simp
   generalize(de (n+1) u?).set 0 t?=b0 at*;generalize C.alloc (m? (blV b0) 4)=w4 at*;clear HX fz hlt;go_loopw[9,10] (λbe3 i wr=>∃(g k:O)(b:E z?),be3=b? (M ⟨g,0,Z⟩) (n+1) (n+1)/\i=(qaE k)/\k<=Cr.length/\b.length=n+1/\C.heap.size<=g/\(qaC C wr)/\Hid (jR wr g 4 (blV b))/\Hid (ai4 Cr k=u?)/\Hid (OkD (ac7.map (·.1)) (sgK Cr k) b)) (λ_ i _=>Cr.length-(av i).toNat)
   case atStart=>exact⟨C,0,b0,rfl,rfl,be _,hb0,ay _,HB4,HX4,rfl,YC⟩
   obtain⟨g,k,b,rfl,rfl,hk,hbl,hg,HB,HX,HQ,HK⟩:=hrel;by_cases h1:k<Cr.length
   .have d1:decide ((k:I)<Cr.length)=t?:=ae;have hi1:(0:I)<=k:=by omega
    have hi2:(k:I)<Cr.length:=by omega
    obtain⟨ab,aQ1,rfl,hab,Ψ⟩:=HA3.at_ (by rw[ax];omega);have JS:Hid (∀W i(h:i<Cr.length),Below C C W->W.cell? ⟨ab,aQ1+i,Z⟩=M (f? (rtS Cr[i]))):=λW i h hW=>(hW.cell (p:=⟨ab,aQ1+i,Z⟩) hab).trans (Ψ i _ (by rw[eD,an h];rfl));have hgr:=HX.lt;have O_:=ah (HB.trans ((jP (jQ wr) (m? (blV (de (n+1) u?)) 4)).mono HB.size));have HXA:=ah (HX.alloc (m? (blV (de (n+1) u?)) 4));have HXN:=ah (jR.new wr 4 (blV (de (n+1) u?)));have bs6:ab<wr.heap.size:=by have:=HB.size;omega
    have i0:=JS wr k h1 HB;have hq:=ap9 h1 HQ;have he:=aE2 (α Cr[k] (ar h1)) (b:=126) (by decide);rw[<-aj0]at he;clear Ψ;by_cases c1:Cr[k].1=126
    case' pos=>
     have L:k+1<Cr.length:=by
      rcases fB (k+1) Cr.length with h|h
      .exact h
      have e:k+1=Cr.length:=by omega
      have:=Yr.out;rw[<-e,hq]at this;simp[c1]at this
     have b1:((rtS Cr[k]).toList==[126])=t?:=by rw[beq_iff_eq];exact he.2 c1
     have HS:Hid (sgK Cr (k+1+1)=sgK Cr k++[sgD t? Cr[k+1]]):=aN3 L HQ c1;have Wp:Hid (ai4 Cr (k+1+1)=u?):=az0 L (by rw[hq];simp[c1]);have Tf:Hid (k+1+1<=Cr.length):=L;have i1:=JS wr (k+1) L HB;have hi3:(0:I)<=k+1:=by omega
     have hi4:(k:I)+1<(Cr.length:I):=by omega
     have htn:((k:I)+1).toNat=k+1:=by omega
     have η:=α Cr[k+1] (ar L);have Γ:=ah η;have HC:=ah (aJ4 t? η);clear he hq c1 η;generalize sgD t? Cr[k+1]=s at*;generalize Cr[k+1]=q at*;generalize Cr[k]=q0 at*;go_wp2_with fail
    case' neg=>
     have b1:((rtS Cr[k]).toList==[126])=u?:=by rw[G?];exact λe=>c1 (he.1 e)
     have HS:Hid (sgK Cr (k+1)=sgK Cr k++[sgD u? Cr[k]]):=aN4 h1 HQ c1;have Wp:Hid (ai4 Cr (k+1)=u?):=by show _=_;rw[hq];simp[c1]
     have HC:=ah (aJ4 u? (α Cr[k] (ar h1)));have Γ:=ah (α Cr[k] (ar h1));have Tf:Hid (k+1<=Cr.length):=h1;clear he hq c1;generalize sgD u? Cr[k]=s at*;generalize Cr[k]=q at*;go_wp2_with fail
    all_goals
     have ω:C.heap.size<=wr.heap.size:=HB.size;clear b1 i0 HB HX;generalize wr.alloc (m? (blV (de (n+1) u?)) 4)=W5 at*;generalize wr.heap.size=N at*;have hne:g≠N:=by omega
     go_loopw[14] (λμ W=>∃(j:O)(nb:E z?),μ=(qaE j)/\j<=n+1/\Hid (NbI (ac7.map (·.1)) b s nb j)/\(qaC C W)/\Hid (jR W g 4 (blV b))/\Hid (jR W N 4 (blV nb))) (λμ _=>n+1-(av μ).toNat)
     case atStart=>
      refine⟨0,de (n+1) u?,rfl,be _,?_,O_,HXA,HXN⟩;show NbI _ _ _ _ _;rw[<-Y,<-ax (·.1)];exact NbI.new
     obtain⟨j,nb,rfl,hj,V,y_,H,m⟩:=hrel;have θ:(ac7.map (·.1)).length=n:=by rw[ax];exact Y
     have hnl:=V.len;rw[θ]at hnl;have z:=ah θ;have fz:=m.frozen;have hl5:=m.lt;have hl6:=H.lt;have hj1:(0:I)<=j:=by omega
     clear θ;by_cases h3:j<=n
     .have d3:decide ((j:I)<=(n:I))=t?:=ae;have hj2:(j:I)<((n+1:O):I):=by omega
      have i2:=aA0 H (show j<b.length by omega);have Bd:Hid (∀x,Below C C (wr.setCell ⟨N,j,Z⟩ (h? x))/\jR (wr.setCell ⟨N,j,Z⟩ (h? x)) g 4 (blV b)/\jR (wr.setCell ⟨N,j,Z⟩ (h? x)) N 4 (blV (nb.set j x))):=λx=>⟨y_.setCell (p:=⟨N,j,Z⟩) ω _,H.far (p:=⟨N,j,Z⟩) hne _,ba8 m j x⟩;have i3:∃y,wr.cell? ⟨N,j,Z⟩=M (h? y):=⟨_,aA0 m (show j<nb.length by omega)⟩;obtain⟨y,i3⟩:=i3;have ak0:Hid (∀i,j=i+1->decide ((0:I)<j)=t?/\(0:I)<=j-1/\(j:I)-1<((n+1:O):I)/\(j:I)-1<(n:I)/\((j:I)-1).toNat=i/\wr.cell? ⟨g,i,Z⟩=M (h? (b.getD i u?))/\wr.cell? ⟨N,i,Z⟩=M (h? (nb.getD i u?))/\nb.getD i u?=ac9 (ac7.map (·.1)) b s i):=λi e=>
       ⟨ae,by omega,by omega,by omega,by omega,aA0 H (by omega),aA0 m (by omega),V.lo i (by omega)⟩
      have J:j=0\/∃i,j=i+1:=by cases j with|zero=>exact r? rfl|succ i=>exact s? ⟨i,rfl⟩
      rcases HC with⟨rfl,ν,κ⟩|⟨rfl,ν,κ,ψ⟩|⟨rfl,h⟩
      .cases ν
       all_goals
        cases t:b.getD j u? with
        |true=>
         rw[t]at i2;have f:=ah (aP3 (vs:=ac7.map (·.1)) t).symm;clear t J ak0;go_wp2_with fail;go_roundw
         case rel=>exact⟨j+1,nb.set j t?,by go_num,by omega,V.set (by rw[z];exact h3) f,(Bd _).1,(Bd _).2.1,(Bd _).2.2⟩
         simp[av];omega
        |false=>
         rw[t]at i2;rcases J with J|⟨i,K⟩
         .have f:Hid (u?=ac9 (ac7.map (·.1)) b .any j):=by subst J;exact t.symm
          have d4:decide (0<j)=u?:=ag;clear t J ak0;go_wp2_with fail;go_roundw
          case rel=>exact⟨j+1,nb.set j u?,by go_num,by omega,V.set (by rw[z];exact h3) f,(Bd _).1,(Bd _).2.1,(Bd _).2.2⟩
          simp[av];omega
         obtain⟨d4,e1,e2,e3,e4,e5,e6,e7⟩:=ak0 i K;generalize F:nb.getD i u?=x at*;have f:Hid (x=ac9 (ac7.map (·.1)) b .any j):=by
          show _=_;subst K;show x=(b.getD (i+1) u?||ac9 _ b .any i);rw[t,<-e7];rfl
         clear t F e5 e7 K ak0;go_wp2_with fail;go_roundw
         case rel=>exact⟨j+1,nb.set j x,by go_num,by omega,V.set (by rw[z];exact h3) f,(Bd _).1,(Bd _).2.1,(Bd _).2.2⟩
         simp[av];omega
      .cases ν
       all_goals
        rcases J with J|⟨i,K⟩
        .have f:Hid (ac9 (ac7.map (·.1)) b .one j=u?):=by subst J;rfl
         have d4:decide (0<j)=u?:=ag;clear J ak0;go_wp2_with fail;go_roundw
         case rel=>exact⟨j+1,nb,by go_num,by omega,V.keep f,y_,H,m⟩
         simp[av];omega
        obtain⟨d4,e1,e2,e3,e4,e5,e6,e7⟩:=ak0 i K;generalize F:b.getD i u?=x at*;have f:Hid (x=ac9 (ac7.map (·.1)) b .one j):=by subst K;exact F.symm
        clear F e6 e7 K ak0;go_wp2_with fail;go_roundw
        case rel=>exact⟨j+1,nb.set j x,by go_num,by omega,V.set (by rw[z];exact h3) f,(Bd _).1,(Bd _).2.1,(Bd _).2.2⟩
        simp[av];omega
      cases κ:(rtS q).toList==[42]
      all_goals cases ψ:(rtS q).toList==[63]
      all_goals first
       |(exfalso;rcases h with e|⟨e,e'⟩<;>first|(cases e;done)|(rw[κ]at e;cases e;done)|(rw[ψ]at e';cases e';done))
       |skip
      all_goals
       clear h;rcases J with J|⟨i,K⟩
       .have f:Hid (ac9 (ac7.map (·.1)) b (.that q.1) j=u?):=by subst J;rfl
        have d4:decide (0<j)=u?:=ag;clear J ak0;go_wp2_with fail;go_roundw
        case rel=>exact⟨j+1,nb,by go_num,by omega,V.keep f,y_,H,m⟩
        simp[av];omega
       obtain⟨d4,e1,e2,e3,e4,e5,e6,e7⟩:=ak0 i K;have ε:i<ac7.length:=by rw[Y];omega
       have ξ:Hid (ac9 (ac7.map (·.1)) b (.that q.1) j=(b.getD i u?&&((rtS q).toList==(rtS ac7[i]).toList))):=by
        subst K;show(b.getD i u?&&q.1==(ac7.map (·.1)).getD i 0)=_;congr 1;rw[gU,beq_iff_eq,beq_iff_eq,aj0,aj0,aO7 Γ (HGV _ (ar ε)),aP,eD,an ε];rfl
       obtain⟨vb,Δ,rfl,hvb,χ⟩:=MO.at_ (by rw[ax];omega);have i4:wr.cell? ⟨vb,Δ+i,Z⟩=M (f? (rtS ac7[i])):=(y_.cell (p:=⟨vb,Δ+i,Z⟩) hvb).trans (χ i _ (by rw[eD,an ε];rfl));generalize ac7[i]=r at*;clear e6 e7 K ak0 χ
       cases G:b.getD i u? with
       |false=>
        rw[G]at e5;have f:Hid (u?=ac9 (ac7.map (·.1)) b (.that q.1) j):=by have:=ξ.out;rw[G]at this;exact this.symm
        clear G;go_wp2_with fail;go_roundw
        case rel=>exact⟨j+1,nb.set j u?,by go_num,by omega,V.set (by rw[z];exact h3) f,(Bd _).1,(Bd _).2.1,(Bd _).2.2⟩
        simp[av];omega
       |true=>
        rw[G]at e5;have f:Hid (((rtS q).toList==(rtS r).toList)=ac9 (ac7.map (·.1)) b (.that q.1) j):=by have:=ξ.out;rw[G]at this;exact this.symm
        clear G ξ
        cases F:((rtS q).toList==(rtS r).toList)
        all_goals
         rw[F]at f;go_wp2_with fail;go_roundw
         case rel=>exact⟨j+1,nb.set j _,by go_num,by omega,V.set (by rw[z];exact h3) f,(Bd _).1,(Bd _).2.1,(Bd _).2.2⟩
         exact No
     have hjn:j=n+1:=jS;subst hjn;have d3:decide (((n+1:O):I)<=(n:I))=u?:=ag;go_wp2;go_roundw
     case rel=>exact⟨N,_,nb,rfl,CJ,Tf,jS,ω,y_,m,Wp,by rw[HS];exact(V.cast z).ok HK⟩
     exact No
   have hkk:k=Cr.length:=jS;subst hkk;have d1:decide ((Cr.length:I)<Cr.length)=u?:=lV;have i0:=aA0 HX (show n<b.length by omega);obtain⟨x,hx⟩:∃x,b.getD n u?=x:=⟨_,rfl⟩;rw[hx]at i0;have HXE:=ah hx;have hi1:(0:I)<=n:=jS;have hi2:(n:I)<((n+1:O):I):=jS;have hgr:=HX.lt;go_wp2;go_ret;exact av4.mk (γ.trans (HB.mono γ.size)) λhf=>by have:=aP5.out b HK hf;rwa[Y,HXE]at this
def ax8:∀(l:E y?),∀x∈Sc.kX l,x.length<=l.length
 |[],x,h=>by simp[Sc.kX]at h;subst h;exact ay _
 |b::t,x,h=>by
  have a:=ax8 t;unfold Sc.kX at h;split at h
  .rcases cw.1 h with rfl|h
   .exact be _
   have:=a x h;simp only[c_];omega
  rcases cw.1 h with rfl|h
  .cases e:Sc.kX t with
   |nil=>simp
   |cons y r=>have:=a y (by rw[e];exact di);simp only[List.headD_cons,c_];omega
  have:=a x (bx8 h);simp only[c_];omega
def al9:∀(l:E y?),(Sc.kX l).length<=l.length+1
 |[]=>by simp[Sc.kX]
 |b::t=>by
  have c:=al9 t;have a:=aQ.2 (Sc.CA t);unfold Sc.kX;split<;>simp only[c_,List.length_tail]<;>omega
def as8:(af2 s).1.size<=s.size/\(af2 s).2.size<=s.size:=by
 unfold af2;split
 .have a:∀l:E y?,(Sc.bt l).size=l.length:=λl=>by rw[<-lG];rfl
  have:=lG s;unfold Sc.nf;simp only[a,cv,dr];omega
 exact⟨be _,be _⟩
def Sc.aP0(l:E y?):(Sc.bt l).size=l.length:=by rw[<-lG];rfl
def aD3(a:ps=Sc.kX (tx s))(b:k<ps.length):(Sc.bt ps[k]).size<=s.size:=by
 subst a;rw[Sc.aP0];have:=ax8 (tx s) _ (ar b);rw[lG]at this;exact this
def ao0(s:v?)(hs:s.size<=300)(w:jC):jE Tryz.prog 9 #[jL s] w λe w'=>Below w w w'/\∃b:z?,e=a? (h? b):=by
 have J:=al9 (tx s);rw[lG]at J;have Q:=ah (ap3 s (by omega) w);by_cases t:s.toList.isEmpty=t?
 .go_in;go_wp2_with fail;go_ret;exact⟨jQ _,_,rfl⟩
 have t:s.toList.isEmpty=u?:=by simpa using t
 have D:¬s.toList=[]:=by simpa using t
 go_in;go_wp2_with fail;refine Q.mono ?_;rintro e B⟨y,A,c,rfl,Y⟩;have d:=ah y;have F:=ah Y;have HP:=ah (λk(K:k<(Sc.kX (tx s)).length)=>aD3 rfl K);clear y Y Q t D;generalize Sc.kX (tx s)=ps at*;go_wp2_with fail;go_loopw[4,5] (λlv i wr=>∃(k:O)(ls:v?),i=(qaE k)/\lv=f? ls/\ls.size<=300/\k<=ps.length/\(qaC B wr)) (λ_ i _=>ps.length-(av i).toNat)
 case atStart=>exact⟨0,⟨#[]⟩,rfl,rfl,by decide,be _,jQ _⟩
 obtain⟨k,ls,rfl,rfl,γ,K,l⟩:=hrel;by_cases X:k<ps.length
 .have d1:decide ((k:I)<ps.length)=t?:=ae;have β:(0:I)<=k:=by omega
  have δ:(k:I)<ps.length:=by omega
  obtain⟨b,n,rfl,y,R⟩:=F.at_ (by unfold an9;rw[ax];omega);have i0:wr.cell? ⟨b,n+k,Z⟩=M (f? (Sc.bt ps[k])):=(l.cell (p:=⟨b,n+k,Z⟩) y).trans (R k _ (by unfold an9;rw[eD,an X];rfl));have ε:b<wr.heap.size:=by have:=l.size;omega
  have G:=HP k X;generalize Sc.bt ps[k]=x at*;have ht:=as8 (s:=x);clear R;go_wp2_with fail;refine(as9 x (by omega) wr).mono ?_;rintro e N⟨rfl,r⟩;have j:=ah (l.trans (r.mono l.size));clear r l i0;generalize af2 x=H at*;obtain⟨f,pt⟩:=H;dsimp only at ht;go_wp2_with fail;have g:=ah (j.trans ((jP (jQ N) (m? #[jL f,qaA] 71)).mono j.size));have L:=ah (jR.new N 71 #[jL f,qaA]).lab;refine(ai0 _ [(f,⟨#[]⟩)] 1 lV (λx G=>by simp at G;subst G;exact⟨by show f.size<=_;omega,by show 0<=_;decide⟩) _ L).mono ?_;rintro e w3⟨rfl,m⟩;have a:=ah (g.trans (m.mono g.size));clear m g L j;generalize setB [(f,⟨#[]⟩)]=r1 at*;have an7:Hid (∀W,Below B B W->Below w w W):=λW h=>d.trans (h.mono d.size)
  cases r1 with
  |false=>
   go_wp2_with fail;go_ret;exact⟨an7 _ a,_,rfl⟩
  |true=>
   go_wp2_with fail;refine(ap7 pt jS w3).mono ?_;rintro e w4⟨o,r2,rfl,-,-⟩;have z:=ah (a.trans (o.mono a.size));clear o a
   cases r2 with
   |false=>
    go_wp2_with fail;go_ret;exact⟨an7 _ z,_,rfl⟩
   |true=>
    go_wp2_with fail;refine(at6 ls f O0 O0 w4).mono ?_;rintro e w5⟨rfl,T,rfl⟩;generalize K1 (tx ls) (tx f)=v at*;by_cases V:0<=v
    .have d2:=F? V;go_wp2_with fail;go_ret;exact⟨an7 _ (below_drewN z T),_,rfl⟩
    have d2:=E? V;go_wp2_with fail;go_roundw
    case rel=>exact⟨k+1,f,CJ,rfl,jS,jS,below_drewN z T⟩
    exact No
 have C:k=ps.length:=jS;subst C;have d1:decide ((ps.length:I)<ps.length)=u?:=lV;go_wp2_with fail;go_ret;exact⟨d.trans (l.mono d.size),_,rfl⟩
def ay9:∀(ps:E (E y?))(a L:E kI),Sc.ow a ps=M L->∀s∈ps,(61:y?)∈s
 |[],_,_,_,s,h=>qch
 |p::ps,a,L,h,s,c=>by
  unfold Sc.ow at h;split at h
  .next b=>
   rcases cw.1 c with rfl|c
   .unfold Sc.YU at b;simp only[ba,D?]at b;exact b.1
   exact ay9 ps _ L h s c
  cases h
variable{sc:v?}{ls:E kI}
def aK8(g:ps=Sc.kX (tx sc))(a:tx sc≠[])(d:k<ps.length)(h:(k8 ls (af2 (Sc.bt ps[k])).1).2=u?\/¬Sc.qB (tx (af2 (Sc.bt ps[k])).2) (tx (k8 ls (af2 (Sc.bt ps[k])).1).1)=t?):nX sc ls=u?:=by
 subst g;unfold nX
 cases b:Sc.lU (tx sc)with
 |none=>rfl
 |some L=>
  have e:=Sc.LP a b;unfold Sc.lU at b;rw[A? a]at b;have f:=ay9 _ _ _ b _ (ar d);have j:af2 (Sc.bt (Sc.kX (tx sc))[k])=Sc.nf (Sc.kX (tx sc))[k]:=by unfold af2;rw[Sc.vQ,B? f]
  rw[j]at h;show Sc.allM L ls=u?
  cases c:Sc.allM L ls with
  |false=>rfl
  |true=>
   unfold Sc.allM at c;have:=dZ.1 c (Sc.nf (Sc.kX (tx sc))[k]) (by rw[e];exact dq.2 ⟨_,ar d,rfl⟩);rw[ba]at this;have this:(k8 ls (Sc.nf (Sc.kX (tx sc))[k]).1).2=t?/\Sc.qB (tx (Sc.nf (Sc.kX (tx sc))[k]).2) (tx (k8 ls (Sc.nf (Sc.kX (tx sc))[k]).1).1)=t?:=this;rcases h with h|h
   .rw[h]at this;cases this.1
   exact H? this.2 h
def aO4{n:v?}{z:O}(h:∀x∈ls,x.1.size<=z/\x.2.size<=z):(k8 ls n).1.size<=z:=by
 unfold k8;split
 .next e=>exact(h _ (bw5 e)).2
 exact be _
def aq7(w:jC)(sc:v?)(ls:E kI)(e:bi6)(w':jC):Prop:=Below w w w'/\∃(b:z?)(a:I),e=a? (d? #[h? b,jJ a])/\(a=0->b=u?->nX sc ls=u?)
def aq7.bad{b:z?}(h:Below w w w'):aq7 w sc ls (a? (d? #[h? b,jJ 50])) w':=⟨h,b,50,rfl,λe=>LS⟩
def aq7.no(h:Below w w w')(a:nX sc ls=u?):aq7 w sc ls (a? (d? #[h? u?,jJ 0])) w':=⟨h,u?,0,rfl,λ_ _=>a⟩
def aq7.yes(h:Below w w w'):aq7 w sc ls (a? (d? #[h? t?,jJ 0])) w':=⟨h,t?,0,rfl,λ_ e=>LS⟩
def aB4(s:v?)(A:w? jG)(ls:E kI)(c:O)(w:jC)(hs:s.size<=300)(hL:Lb w w A ls)(hn:ls.length<=400)(hz:∀x∈ls,x.1.size<=400/\x.2.size<=400):jE Tryz.prog 25 #[jL s,jN A ls c] w (aq7 w s ls):=by
 have R:=al9 (tx s);rw[lG]at R;have HL:=ah hL;have T:=ah hz;clear hL hz;go_in;go_wp2_with fail;refine(ao0 s hs w).mono ?_;rintro e w1⟨j,r1,rfl⟩;have a:=ah j;clear j
 cases r1 with
 |false=>
  go_wp2_with fail;go_ret2;exact .bad a
 |true=>
  go_wp2_with fail;refine(ai0 A ls c (by omega) (λx hx=>by have:=T.out x hx;omega) w1 (Rd.more (Rd.below HL a) a.size)).mono ?_;rintro e w2⟨rfl,j⟩;have g:=ah (a.trans (j.mono a.size));clear j a;generalize setB ls=r2 at*
  cases r2 with
  |false=>
   go_wp2_with fail;go_ret2;exact .bad g
  |true=>
   by_cases y:s.toList.isEmpty=t?
   .go_wp2_with fail;go_ret2;exact .yes g
   have y:s.toList.isEmpty=u?:=by simpa using y
   have t:¬s.toList=[]:=by simpa using y
   go_wp2_with fail;refine(ap3 s (by omega) w2).mono ?_;rintro e G⟨j,B,d,rfl,hr⟩;have o:=ah (g.trans (j.mono g.size));have HR:=ah hr;have HP:=ah (λk(z:k<(Sc.kX (tx s)).length)=>aD3 rfl z);have L:=ah (λk(z:k<(Sc.kX (tx s)).length)=>aK8 (ls:=ls) rfl (by rw[<-km];exact t) z);clear j hr g y t;generalize Sc.kX (tx s)=ps at*;go_wp2_with fail;go_loopw[7] (λi wr=>∃k:O,i=(qaE k)/\k<=ps.length/\(qaC G wr)) (λi _=>ps.length-(av i).toNat)
   case atStart=>exact⟨0,rfl,be _,jQ _⟩
   obtain⟨k,rfl,z,l⟩:=hrel;have an7:Hid (∀W,Below G G W->Below w w W):=λW h=>o.trans (h.mono o.size);by_cases H:k<ps.length
   .have d1:decide ((k:I)<ps.length)=t?:=ae;have β:(0:I)<=k:=by omega
    have γ:(k:I)<ps.length:=by omega
    obtain⟨b,m,rfl,j,Y⟩:=HR.at_ (by unfold an9;rw[ax];omega);have i0:wr.cell? ⟨b,m+k,Z⟩=M (f? (Sc.bt ps[k])):=(l.cell (p:=⟨b,m+k,Z⟩) j).trans (Y k _ (by unfold an9;rw[eD,an H];rfl));have δ:b<wr.heap.size:=by have:=l.size;omega
    have hx:=HP k H;have C:=ah (L k H);generalize Sc.bt ps[k]=x at*;have ht:=as8 (s:=x);clear Y;go_wp2_with fail;refine(as9 x (by omega) wr).mono ?_;rintro e w4⟨rfl,r⟩;have f:=ah (l.trans (r.mono l.size));clear r l i0;generalize af2 x=Q at*;obtain⟨K,pt⟩:=Q;dsimp only at ht C;have J:=an7 _ f;go_wp2_with fail;refine(aK1 A ls c K jS w4 (Rd.more (Rd.below HL J) J.size)).mono ?_;rintro e w5⟨rfl,rfl⟩;have N:=aO4 (n:=K) T;clear J;generalize k8 ls K=gv at*;obtain⟨vl,ok⟩:=gv;dsimp only at N C
    cases ok with
    |false=>
     go_wp2_with fail;go_ret2;exact .no (an7 _ f) (C (r? trivial))
    |true=>
     go_wp2_with fail;refine(aF3 pt vl jS jS _).mono ?_;rintro e w6⟨q,D,rfl,X⟩;have V:=ah (f.trans (q.mono f.size));have HF:=ah X;clear q f X
     cases D with
     |false=>
      go_wp2_with fail;go_ret2;exact .no (an7 _ V) (C (s? λe=>by have:=HF.out e;cases this))
     |true=>
      go_wp2_with fail;go_roundw
      case rel=>exact⟨k+1,CJ,jS,V⟩
      exact No
   have F:k=ps.length:=jS;subst F;have d1:decide ((ps.length:I)<ps.length)=u?:=lV;go_wp2_with fail;go_ret2;exact .yes (an7 _ l)
end Go.Proofs.YtfcnedcahoifoaaGreatDoor
namespace Go.Proofs.YtfcnedcahoifoaaGreatDoor
def Yl(w:jC)(c:lO)(e:bi6)(w':jC):Prop:=Below w w w'/\
 ((0<=c.budget/\c.budget<=1000000/\∃g,w.heap.size<=g/\e=a? (d? #[jO g,jJ 0])/\kB w' (λ_=>False) g c newT)\/(¬(0<=c.budget/\c.budget<=1000000)/\e=a? (d? #[e? Z,jJ 180])))
def Fz(c:lO)(w:jC):jE Tryz.prog 27 #[g? #[jK c.id,jJ c.budget,jK c.life],g? #[jK c.ka,jK c.kb]] w (Yl w c):=by
 have b:=ah (((kj.nil (λ_=>False) w).alloc w 63 [jK c.id,jJ c.budget,jK c.life]).alloc (w.heap.size+1) 24 [jK c.ka,jK c.kb]);rcases(by omega:c.budget<0\/(¬c.budget<0/\1000000<c.budget)\/(¬c.budget<0/\¬1000000<c.budget))with k|⟨k,a⟩|⟨k,a⟩
 .have j:=ah k;go_in;go_wp2_with fail;refine kh (λ_=>True) b trivial (λm d _=>?_);clear b;go_ret2;exact⟨d.out.out.below aa λ_ h=>h.elim,s? ⟨λh=>by have:=j.out;omega,rfl⟩⟩
 .have j:=ah a;go_in;go_wp2_with fail;refine kh (λ_=>True) b trivial (λm d _=>?_);clear b;go_ret2;exact⟨d.out.out.below aa λ_ h=>h.elim,s? ⟨λh=>by have:=j.out;omega,rfl⟩⟩
 have j:=ah k;have l:=ah a;go_in;have f:=ah (b.alloc (aN w) 117 [jM,jK 0,jM,jK 0,jM,jK 0,jK c.id,jJ c.budget,jK c.life,jK c.ka,jK c.kb]);clear b;go_wp2_with fail;refine kq (λ_=>True) f trivial (λV g _=>?_);clear f;refine(Ry V).mono ?_;rintro e o⟨rfl,a⟩;replace g:=ah (g.call a);clear a;have x:=fk (g.facts);have n:=aT (ah ((g.put 0 1 (c? n? 1)).put 0 2 aO));go_wp2_with fail;refine kh (λ_=>True) n trivial (λm d _=>?_);clear x n g;go_ret2;refine⟨d.out.out.below aa λ_ h=>h.elim,r? ⟨by have:=j.out;omega,by have:=l.out;omega,w.heap.size+1+1,jS,rfl,Z,0,[],Z,0,Z,0,(d.blk _ ab).2,rfl,⟨λh=>H? rfl h,λ_ h=>WY⟩,⟨λh=>H? rfl h,λ_ h=>WY⟩,ay _,λh=>H? rfl h,λh=>H? rfl h,λh=>H? rfl h,λh=>H? rfl h,ay _⟩⟩
structure Pb where
 id:I
 budget:I
 life:I
def OA(x:Pb):E jD:=[jK x.id,jJ x.budget,jK x.life]
noncomputable def qF(ka kb:I)(x:Pb):lO:=⟨x.id,x.budget,x.life,(Kl ka kb x.id).1,(Kl ka kb x.id).2⟩
noncomputable def lE(ka kb:I)(l:E Pb):Col:=l.map λx=>(qF ka kb x,newT)
structure pP(B:O)(W:jC)(cb:O)(ka kb:I)(ids:E I)(G:E O)(cs:E lO)(iv tv:jD):Prop where
 blk:jR W cb 81 #[jK ka,jK kb,iv,tv]
 cbB:B<=cb
 zW:W.ownsRow B 22 1 iv ids.length (qM ids)
 BX:W.ownsRow B 82 1 tv G.length (wh G)
 len:G.length=cs.length
 nd:G.Nodup
 gB:∀g∈G,B<=g/\g≠cb
 NU:∀r,iv.ownBlock=M r->r≠cb/\r∉G/\tv.ownBlock≠M r
 BN:∀r,tv.ownBlock=M r->r≠cb/\r∉G
 ten:∀(k:O)(hk:k<G.length)(hc:k<cs.length),kB W (λ_=>False) G[k] cs[k] newT
section
variable{B:O}{W W1 W':jC}{cb:O}{ka kb:I}{ids:E I}{G:E O}{cs:E lO}{iv tv:jD}
variable{g:O}
def pP.XJ(h:pP B W cb ka kb ids G cs iv tv)(b:g∈G):g<W.heap.size:=by
 obtain⟨k,a,rfl⟩:=dR b;obtain⟨_,_,_,_,_,_,_,c⟩:=h.ten k a (by rw[<-h.len];exact a);exact c.blk.lt
def pP.call(h:pP B W cb ka kb ids G cs iv tv)(a:Below W W W'):pP B W' cb ka kb ids G cs iv tv:=
 ⟨h.blk.later a,h.cbB,lf h.zW a,lf h.BX a,h.len,h.nd,h.gB,h.NU,h.BN,λk b c=>(h.ten k b c).later a⟩
def pP.drew(h:pP B W cb ka kb ids G cs iv tv):pP B W.drew cb ka kb ids G cs iv tv:=h.call (Below.refl _ W).drew
def pP.ag1(h:pP B W cb ka kb ids G cs iv tv){id:I}{v':jD}(v:W1.ownsRow B 22 1 v' (ids.length+1) (qM ids++[c? n? id]))(c:W.grownBy W1 iv.ownBlock)(s:v'.ownBlock=iv.ownBlock\/∃r,v'.ownBlock=M r/\W.heap.size<=r):pP B (W1.setCell ⟨cb,2,Z⟩ v') cb ka kb (ids++[id]) G cs v' tv:=by
 have y:=h.blk.lt;have d:∀r,v'.ownBlock=M r->r≠cb/\r∉G/\tv.ownBlock≠M r:=λr e=>by
  rcases s with a|⟨q,a,C⟩
  .exact h.NU r (a▸e)
  rw[a]at e;cases e;exact⟨by omega,λt=>by have:=h.XJ t;omega,λA=>by have:=(pf h.BX _ A).2;omega⟩
 have m:=k6 W1 cb 2 v';have j:jR W1 cb 81 #[jK ka,jK kb,iv,tv]:=h.blk.grown c (λe=>(h.NU _ e.symm).1 rfl);have g:=od h.BX c (λr e a=>(h.NU r a).2.2 e);refine⟨?_,h.cbB,?_,od g m (λr e a=>by cases a;exact(h.BN _ e).1 rfl),h.len,h.nd,h.gB,d,h.BN,λk l w=>?_⟩
 .have:=j.kY 2 v';simpa using this
 .have:=od v m (λr e a=>by cases a;exact(d _ e).1 rfl);rw[cd,fT,show qM (ids++[id])=qM ids++[c? n? id] by simp[qM]];exact this
 have f:=ar l;have z:Out (λb=>iv.ownBlock=M b) W W1:=⟨c.os,c.tape,c.output,c.size,λi n x=>c.block i n λe=>x e.symm⟩;have o:Out (λb=>b=cb) W1 (W1.setCell ⟨cb,2,Z⟩ v'):=(Out.refl (λb=>b=cb) W1).setCell (p:=⟨cb,2,Z⟩) (r? rfl) _;exact((h.ten k l w).out z (λ_ e=>e.elim) λe=>(h.NU _ e).2.1 f).out o (λ_ e=>e.elim) (h.gB _ f).2
variable{c:lO}
def pP.Ye(h:pP B W cb ka kb ids G cs iv tv){v':jD}(V:W1.ownsRow B 82 1 v' (G.length+1) (wh G++[e? (aC g)]))(n:W.grownBy W1 tv.ownBlock)(T:v'.ownBlock=tv.ownBlock\/∃r,v'.ownBlock=M r/\W.heap.size<=r)(H:kB W (λ_=>False) g c newT) (A:B<=g) (s:g≠cb) (Xx:g∉G) (C:iv.ownBlock≠M g) (v:tv.ownBlock≠M g):pP B (W1.setCell ⟨cb,3,Z⟩ v') cb ka kb ids (G++[g]) (cs++[c]) iv v':=by
 have α:=h.blk.lt;have R:g<W.heap.size:=by obtain⟨_,_,_,_,_,_,_,Q⟩:=H;exact Q.blk.lt
 have j:∀r,v'.ownBlock=M r->r≠cb/\r∉G/\iv.ownBlock≠M r/\r≠g:=λr e=>by
  rcases T with l|⟨q,l,hq⟩
  .have o:tv.ownBlock=M r:=l▸e;exact⟨(h.BN r o).1,(h.BN r o).2,λy=>(h.NU r y).2.2 o,λy=>v (y▸o)⟩
  rw[l]at e;cases e;exact⟨jS,λd=>by have:=h.XJ d;omega,λo=>by have:=(pf h.zW _ o).2;omega,jS⟩
 have L:=k6 W1 cb 3 v';have D:jR W1 cb 81 #[jK ka,jK kb,iv,tv]:=h.blk.grown n (λe=>(h.BN _ e.symm).1 rfl);have w:=od h.zW n (λr e l=>(h.NU r e).2.2 l);have J:Out (λb=>tv.ownBlock=M b) W W1:=⟨n.os,n.tape,n.output,n.size,λi X m=>n.block i X λe=>m e.symm⟩;have F:Out (λb=>b=cb) W1 (W1.setCell ⟨cb,3,Z⟩ v'):=(Out.refl (λb=>b=cb) W1).setCell (p:=⟨cb,3,Z⟩) (r? rfl) _;refine⟨?_,h.cbB,od w L (λr e l=>by cases l;exact(h.NU _ e).1 rfl),?_,by simp[h.len],?_,λx m=>?_,λr e=>⟨(h.NU r e).1,λd=>?_,λl=>(j r l).2.2.1 e⟩,λr e=>⟨(j r e).1,λd=>?_⟩,λk N hc=>?_⟩
 .have:=D.kY 3 v';simpa using this
 .have:=od V L (λr e l=>by cases l;exact(j _ e).1 rfl);rw[cd,fT,show wh (G++[g])=wh G++[e? (aC g)] by simp[wh]];exact this
 .refine List.nodup_append.2 ⟨h.nd,lV,λa Y b K e=>?_⟩;simp at K;exact Xx (by rw[<-K,<-e];exact Y)
 .rcases ed.1 m with m|m
  .exact h.gB x m
  simp at m;rw[m];exact⟨A,s⟩
 .rcases ed.1 d with d|d
  .exact(h.NU r e).2.1 d
  simp at d;rw[d]at e;exact C e
 .rcases ed.1 d with d|d
  .exact(j r e).2.1 d
  simp at d;exact(j r e).2.2.2 d
 by_cases f:k<G.length
 .have t:=ar f;rw[List.getElem_append_left f,List.getElem_append_left (by rw[<-h.len];exact f)];exact((h.ten k f (by rw[<-h.len];exact f)).out J (λ_ e=>e.elim) λe=>(h.BN _ e).2 t).out F (λ_ e=>e.elim) (h.gB _ t).2
 have z:k=G.length:=by simp at N;omega
 subst z;rw[List.getElem_append_right aa,List.getElem_append_right (by rw[h.len];exact ay _)];simp only[bx4,dQ,show G.length-cs.length=0 by rw[h.len];omega];exact(H.out J (λ_ e=>e.elim) λe=>v e).out F (λ_ e=>e.elim) s
variable{C:Col}
def pP.col(h:pP B W cb ka kb ids G cs iv tv)(hi:ids=C.map (·.1.id))(o:C=cs.map λc=>(c,newT))(z:4<=B):kE (·∈G) W cb G ka kb C:=by
 have d:C.length=G.length:=by rw[o,ax,h.len]
 have f:ids.length=C.length:=by rw[hi,ax]
 obtain⟨q,s,n,_,l,v⟩:=li h.zW;obtain⟨t,r,p,_,j,x⟩:=li h.BX;refine⟨⟨q,s,t,r,?_,⟨?_,λ_ m e b=>?_⟩,⟨j,λ_ m e b=>?_⟩⟩,λb=>(h.gB _ b).2 rfl,d.symm,h.nd,λg a=>a,λg a=>by have:=(h.gB g a).1;omega,λk y a=>?_⟩
 .have:=h.blk;rw[n,p,f,<-d]at this;exact this
 .rw[EB,<-hi];exact l
 .subst e;rw[n]at h;exact(h.NU m.block rfl).2.1 b
 .subst e;rw[p]at h;exact(h.BN m.block rfl).2 b
 have w:C[k]=(cs[k]'(by rw[<-h.len];exact a),newT):=by simp[o]
 rw[w];exact(h.ten k a (by rw[<-h.len];exact a)).mono λ_ e=>e.elim
end
def nH.new(c:lO):nH c newT:=⟨GT.nil,GG.new,GL.new _ _,⟨by show(0:I)<=0;omega,by show(0:I)<=_;omega⟩,rfl⟩
instance(x0:Pb):CoeOut (sH 21 x0) (x? jD):=⟨λ_=>#[jK x0.id,jJ x0.budget,jK x0.life]⟩
def Tryz.Rb:(Tryz.prog.info? 82).map (λi=>(i.zero,i.size,i.bytes))=M (M (e? Z),1,8):=oo
variable{P:bi3}{w:jC}{ops:x? bk0}{o:bk0}{a:gG}{Q:bk7->gG->jC->Prop}
def ti{K:gG->jC->Prop}{X:Prop}(y:o.guard=none)(s x:bl7)(t:jH)(F:o.op=.call {callee:=.builtin .append,args:=#[s,x],argTypes:=#[t,t]})(base:Nat) (e:jH) (i:TypeInfo) (z:jD) (size bytes:Nat) (G:P.underlying t=some (.slice e)) (hi:P.info? e=some i) (N:i.zero=some z)(f:i.size=size) (C:i.bytes=bytes) (q:z.cells.size=size) (p:0<size)(v:jD) (n:Nat) (xs:List jD) (hs:a.eval s=v) (l:w.ownsRow base e size v n xs)(B:Nat) (A:Option jG) (m c:Nat) (news:List jD) (V:a.eval x=.slice A m c) (H:news.length=m*size) (J:Rd w B A news) (R:∀u∈news,u.oneCell'=true)(r:n+m<=maxLen) (b:(n+m)*bytes<=140737488355328) (d:base<=w.heap.size)(h:∀g j w',w'.ownsRow base e size (.slice g (n+m) j) (n+m) (xs++news)->w.grownBy w' v.ownBlock->((eo g (n+m) j).ownBlock=v.ownBlock\/(eo g (n+m) j).ownBlock=some w)->K (a.put o.dst (.slice g (n+m) j)) w'):if eQ o (yielded ops a.tmps)=true then je P o a w K Q else X:=by
 have W:eQ o (yielded ops a.tmps)=true:=by simp[eQ,y]
 rw[if_pos W];obtain⟨v',w',k,D,L,T⟩:=rg (P:=P) w base t o.type e i z size bytes G hi N f C q p v n xs l B A m c news H J R r b d;obtain⟨g,j,rfl,_⟩:=lB D;unfold je execOp;simp only[F,resolve,invoke,builtin,eT,fX,iF,List.map_toArray,df,jA,hs,V,k];exact h g j w' D L T
variable{ka kb:I}{k:O}
def Hp{l:E Pb}(e:k<l.length)(c:l.Pairwise λa b=>a.id≠b.id):m6 (lE ka kb (l.take k)) l[k].id=Z:=by
 unfold m6 lE;rw[fU];intro x f;obtain⟨y,g,rfl⟩:=dq.1 f;obtain⟨j,h,rfl⟩:=dR g;have d:j<k:=by simp at h;omega
 rw[jt];have:=cj.1 c j k jS e d;simpa[qF]using this
variable{ids:E I}{G:E O}{C:Col}{X:O->Prop}
def pP.ax6{B:O}{W:jC}{cb:O}{cs:E lO}{iv tv:jD}(h:pP B W cb ka kb ids G cs iv tv)(hi:ids=C.map (·.1.id))(t:C=cs.map λc=>(c,newT))(F:4<=B)(o:∀b,X b->b∈G\/b<B)(m:∀g∈G,X g):kE X W cb G ka kb C:=by
 have d:C.length=G.length:=by rw[t,ax,h.len]
 have l:ids.length=C.length:=by rw[hi,ax]
 obtain⟨w,y,s,_,p,q⟩:=li h.zW;obtain⟨z,x,v,_,n,r⟩:=li h.BX;refine⟨⟨w,y,z,x,?_,⟨?_,λ_ j e a=>?_⟩,⟨n,λ_ j e a=>?_⟩⟩,λa=>?_,d.symm,h.nd,m,λg f=>by have:=(h.gB g f).1;omega,λk D f=>?_⟩
 .have:=h.blk;rw[s,v,l,<-d]at this;exact this
 .rw[EB,<-hi];exact p
 .rcases o _ a with a|a
  .subst e;rw[s]at h;exact(h.NU j.block rfl).2.1 a
  have:=q j e;omega
 .rcases o _ a with a|a
  .subst e;rw[v]at h;exact(h.BN j.block rfl).2 a
  have:=r j e;omega
 .rcases o _ a with a|a
  .exact(h.gB _ a).2 rfl
  have:=h.cbB;omega
 have A:C[k]=(cs[k]'(by rw[<-h.len];exact f),newT):=by simp[t]
 rw[A];exact(h.ten k f (by rw[<-h.len];exact f)).mono λ_ e=>e.elim
def VF(w:jC)(ka kb:I)(l:E Pb)(e:bi6)(w':jC):Prop:=Below w w w'/\∃cb G,e=a? (d? #[jO cb,jJ 0])/\kE (·∈G) w' cb G ka kb (lE ka kb l)/\∀g∈G,w.heap.size<=g
def S4(w:jC)(ka kb:I)(l:E Pb)(e:bi6)(w':jC):Prop:=Below w w w'/\∃cb G,e=a? (d? #[jO cb,jJ 0])/\(∀X:O->Prop,(∀b,X b->b∈G\/b<w.heap.size)->(∀g∈G,X g)->kE X w' cb G ka kb (lE ka kb l))/\∀g∈G,w.heap.size<=g
def Ds(ka kb:I)(A:w? jG)(l:E Pb)(cap:O)(h1l:1<=l.length)(h8l:l.length<=8)(ω:l.Pairwise λa b=>a.id≠b.id)(Ψ:∀x∈l,0<=x.budget/\x.budget<=1000000)(hu:∀x∈l,U x.id)(w:jC)(hw:4<=w.heap.size)(hS:Rd w w A (l.flatMap OA)):jE Tryz.prog 15 #[cI ka kb,jN A l cap] w (S4 w ka kb l):=by
 obtain⟨t0,ht0,tz0,tz1,tz2⟩:=bi5 Tryz.p_;obtain⟨t1,ht1,hy0,hy1,hy2⟩:=bi5 Tryz.Rb;have HS:=ah hS;have HND:=ah ω;have IY:=ah Ψ;have HU:=ah hu;have d1:decide ((l.length:I)<1)=u?:=ag;have d2:decide ((8:I)<l.length)=u?:=ag;have ε:=ah (jP (jQ (w.alloc (aW ka kb))) (m? #[jK ka,jK kb,jM,jM] 81));have IT:Hid (pP (w.heap.size+1) ((w.alloc (aW ka kb)).alloc (m? #[jK ka,jK kb,jM,jM] 81)) (w.heap.size+1) ka kb [] [] [] aO aO):=
  ⟨jR.new2 w _ _ _,ay _,dY _ _ _ _,dY _ _ _ _,rfl,List.nodup_nil,(λ_ h=>qch),(λ_ h=>qch),(λ_ h=>qch),(λ_ h=>qch)⟩
 have Γ:=ah (jR.new w 24 #[jK ka,jK kb]);obtain⟨f,α⟩:∃f,f=w.alloc (aW ka kb):=⟨_,rfl⟩;have hWs:f.heap.size=w.heap.size+1:=by rw[α];simp
 have β:=ah hWs;have ρ:(bB w f):=by show Below _ _ _;rw[α];exact jP (jQ w) _
 clear hS ω Ψ hu;go_in;go_wp2_with fail;rw[<-α]at ε IT Γ;clear d1 d2;go_loopw[24] (λi wr=>∃(k:O)(G:E O)(iv tv:jD),i=(aJ k)/\k<=l.length/\Hid (pP (w.heap.size+1) wr (w.heap.size+1) ka kb ((l.take k).map (·.id)) G ((l.take k).map (qF ka kb)) iv tv)/\(bB f wr)) (λi _=>l.length-(av i).toNat)
 case atStart=>
  rw[<-α];exact⟨0,[],_,_,rfl,be _,IT,ε⟩
 clear IT ε α;obtain⟨k,G,iv,tv,rfl,hkk,HN,HB⟩:=hrel;obtain⟨ids,EF⟩:∃ids,ids=(l.take k).map (·.id):=⟨_,rfl⟩;rw[<-EF]at HN;have SW:=ah EF;have hil:ids.length<=8:=by rw[EF,ax,cv];omega
 clear EF;obtain⟨IA,ic,rfl,-⟩:=li HN.zW;obtain⟨TA,tc,rfl,-⟩:=li HN.BX;have hcw:=HN.blk.lt;by_cases h1:k<l.length
 .have d1:decide ((k:I)<l.length)=t?:=ae;obtain⟨b,T,rfl,hb,hc⟩:=oP (n:=3) (λ_=>rfl) B8 HS jS;have hs0:=HB.size;have S1:(bB w wr):=ρ.trans (HB.mono jS);have i0:wr.cell? ⟨b,T+k*3,Z⟩=M (c? n? l[k].id):=(S1.cell (p:=⟨b,T+k*3+0,Z⟩) hb).trans (hc k h1 0 _ B8 rfl);have i1':wr.cell? ⟨b,T+k*3+1,Z⟩=M (c? o? l[k].budget):=(S1.cell (p:=⟨b,T+k*3+1,Z⟩) hb).trans (hc k h1 1 _ B8 rfl);have i2':wr.cell? ⟨b,T+k*3+2,Z⟩=M (c? n? l[k].life):=(S1.cell (p:=⟨b,T+k*3+2,Z⟩) hb).trans (hc k h1 2 _ B8 rfl);have xO:(0:I)<=k:=jS;have xN:(k:I)<l.length:=jS;have hbw:b<wr.heap.size:=by have:=S1.size;omega
  have Ww:Hid (m6 (lE ka kb (l.take k)) l[k].id=Z):=Hp h1 HND;have Fi:Hid (l.take (k+1)=l.take k++[l[k]]):=aj h1;have HXB:Hid (0<=l[k].budget/\l[k].budget<=1000000):=IY _ (ar h1);have HXU:Hid (U l[k].id):=HU _ (ar h1);clear hc;generalize l[k]=c0 at*;have S0:Hid (kE (·∈G) wr (w.heap.size+1) G ka kb (lE ka kb (l.take k))):=HN.col (by rw[SW];unfold lE;rw[fY];try rfl) (by unfold lE;rw[fY];try rfl) jS;have I1:(lE ka kb (l.take k)).length<=100:=by unfold lE;rw[ax,cv];omega
  have j:=jP (jQ wr) (m? (lz 21 c0) 63);have BE:=ah (jR.new wr 63 (lz 21 c0));have MQ:=ah (HN.call j);have H:Hid (Below f f (wr.alloc (m? (lz 21 c0) 63))):=HB.trans (j.mono hs0);have QF:=ah (uA (·∈G) (w.heap.size+1) G ka kb (lE ka kb (l.take k)) c0.id I1 _ (S0.later j));rw[Ww]at QF;unfold Ad at QF;clear j;go_wp2_with fail;refine QF.mono ?_;rintro e w1⟨rfl,rfl⟩;clear QF i0 i1' i2' d1 S0 Ww;go_wp2_with fail;refine Ql (λV=>jR V wr 63 (lz 21 c0)/\pP (w.heap.size+1) V (w.heap.size+1) ka kb ids G ((l.take k).map (qF ka kb)) (cZ IA ids ic) (b? TA G.length tc)/\Below f f V) ⟨BE,MQ,H⟩ (λV hV=>?_);obtain⟨hV1,χ,AQ⟩:=hV;clear BE MQ H;generalize wr.heap.size=N at*;have BE:=ah hV1.drew;have MQ:=ah χ.drew;have H:Hid (Below f f V.drew):=AQ.drew;clear hV1 χ AQ;have y:=ce BE 0;have B:=ce BE 1;have C:=ce BE 2;have SU:Hid (jR V.drew w 24 #[jK ka,jK kb]):=Γ.below H jS;have z:=ce SU 0;have Ip:=ce SU 1;have hbx:N<V.drew.heap.size:=BE.lt;have hkx:w.heap.size<V.drew.heap.size:=SU.lt;refine bi1 (S:=(λw'=>w'.cell? ⟨N,0,Z⟩=M (c? n? c0.id)/\w'.cell? ⟨N,1,Z⟩=M (c? o? c0.budget)/\w'.cell? ⟨N,2,Z⟩=M (c? n? c0.life)/\(rU 8 w' w ka kb))) oo ⟨y,B,C,z,Ip⟩ (λm=>?_);refine re m ?_;generalize V.drew=V2 at*;refine pL 4 λK J=>?_;go_simp;refine(Mb ka kb c0.id HXU V2).mono ?_;rintro e w3⟨rfl,L⟩;have BD:=ah (BE.later L);have Wt:=ah (MQ.call L);have hz2:=H.size;have η:(bB f w3):=H.trans (L.mono hz2);have Cs:=ah (SU.later L);have hz3:=L.size;clear BE MQ H SU L y B C z Ip;have y:=ce BD 0;have B:=ce BD 1;have C:=ce BD 2;have z:=ce Cs 0;have Ip:=ce Cs 1;refine J.out _ _ ⟨y,B,C,z,Ip⟩ (λm=>?_);clear J K;refine az ?_;refine pL 5 λK J=>?_;go_simp;refine(Fz (qF ka kb c0) w3).mono ?_;rintro e w4⟨R,h4⟩;obtain⟨-,-,g,hg3,rfl,mo⟩|⟨μ,-⟩:=h4
  rotate_left
  .exact H? HXB μ
  have xc:=ah mo;have Cq:=ah (BD.later R);have Ξ:=ah (Wt.call R);have ν:(bB f w4):=η.trans (R.mono η.size);have MR:=ah (Cs.later R);have Rg:=R.size;have Zu:Hid ((∀r,(eo IA ids.length ic).ownBlock=M r->r<w3.heap.size)/\(∀r,(eo TA G.length tc).ownBlock=M r->r<w3.heap.size)/\(∀x∈G,x<w3.heap.size)/\w.heap.size+1<w3.heap.size):=⟨λr e=>(pf Wt.zW r e).2,λr e=>(pf Wt.BX r e).2,λx hx=>Wt.XJ hx,Wt.blk.lt⟩;clear BD Wt η Cs R y B C z Ip mo;have y:=ce Cq 0;have B:=ce Cq 1;have C:=ce Cq 2;have z:=ce MR 0;have Ip:=ce MR 1;refine J.out _ _ ⟨y,B,C,z,Ip⟩ (λm=>?_);clear J K;refine az ?_;refine re m ?_;refine hdn ?_;clear m;go_wp2_with fail;clear y B C z Ip;have γ:=ah Ξ.drew;have Yv:Hid (jR w4.drew N 63 (lz 21 c0)):=Cq.drew;have y_:Hid (Below f f w4.drew):=ν.drew;have θ:Hid (kB w4.drew (λ_=>False) g (qF ka kb c0) newT):=xc.later (Below.refl _ w4).drew;have hz5:w3.heap.size<=w4.drew.heap.size:=Rg;have k0:w4.drew.cell? (bW w)=M (cZ IA ids ic):=γ.blk.cell 2;have k1:w4.drew.cell? ⟨N,0,Z⟩=M (c? n? c0.id):=Yv.cell 0;clear Ξ Cq ν xc MR Rg;refine kG (S:=(λw'=>w'.cell? (bW w)=M (cZ IA ids ic)/\w'.cell? ⟨N,0,Z⟩=M (c? n? c0.id))) (s:=11) oo ?_;refine sU ⟨k0,k1⟩ ?_;generalize w4.drew=D at*;refine oY 7 λK J=>?_;go_simp;have j:Below D D (D.alloc (m? #[jK c0.id] 22)):=jP (jQ D) _;have Θ:Hid (Rd (D.alloc (m? #[jK c0.id] 22)) (dE D) (aM D) [jK c0.id]):=JJ (cs:=[jK c0.id]) (jR.new D _ _);have Vt:=ah (γ.call j);have Vr:=ah (Yv.later j);have Δ:=ah (θ.later j);have VA:Hid (Below f f (D.alloc (m? #[jK c0.id] 22))):=y_.trans (j.mono y_.size);have hz6:D.heap.size<=(D.alloc (m? #[jK c0.id] 22)).heap.size:=j.size;have hgx:g<D.heap.size:=by obtain⟨_,_,_,_,_,_,_,ht⟩:=θ;exact ht.blk.lt
  clear j k0 k1 γ Yv θ y_;generalize D.alloc (m? #[jK c0.id] 22)=w6 at*;have k0:w6.cell? (bW w)=M (cZ IA ids ic):=Vt.blk.cell 2;have k1:w6.cell? ⟨N,0,Z⟩=M (c? n? c0.id):=Vr.cell 0;refine J.out _ _ (λ_=>⟨k0,k1⟩) ?_;clear J K;try try simp only[gL,eK,ej,dQ,bd,ak,am]
  refine oY 8 λK J=>?_;refine ti rfl (.tmp 48) (.tmp 51) 33 rfl (w.heap.size+1) 22 t0 (c? n? 0) 1 8 Tryz.underlying33 ht0 tz0 tz1 tz2 rfl B8 (cZ IA ids ic) ids.length _ rfl Vt.zW (dE D) (aM D) 1 1 [jK c0.id] rfl lV Θ (by intro u hu;simp at hu;subst hu;rfl) O0 jS (by have:=Vt.blk.lt;omega) ?_;intro A3 c3 Y t d hv;have Zo:=ah (Vt.ag1 (v':=b? A3 (ids.length+1) c3) t d (by rcases hv with e|e;exact r? e;exact s? ⟨_,e,ay _⟩));have sZ:=Vt.blk.grown d (λe=>(Vt.NU _ e.symm).1 rfl);have aa4:∀r,(eo IA ids.length ic).ownBlock=M r->r≠N:=λr hr e=>by
   obtain⟨_,⟨h9,_⟩|⟨r',cap',cur',hv',hb',F,_⟩⟩:=Vt.zW
   .rw[h9]at hr;cases hr
   rw[hv']at hr
   cases hr
   have e9:r'=N:=e;rw[e9]at F;rw[show w6.heap[N]? =_ from Vr]at F;injection F with F;injection F with _ F;exact H? F B8
  have ψ:Hid (jR Y N 63 (lz 21 c0)):=Vr.grown d (λe=>aa4 _ e.symm rfl);have δ:(eo IA ids.length ic).ownBlock≠M g:=λe=>by have:=Zu.1 g e;omega
  have κ:Hid (kB (Y.setCell (bW w) (b? A3 (ids.length+1) c3)) (λ_=>False) g (qF ka kb c0) newT):=
   (Δ.out.out (w':=Y) (X:=λb=>(eo IA ids.length ic).ownBlock=M b) ⟨d.os,d.tape,d.output,d.size,λi hi hx=>d.block i hi λe=>hx e.symm⟩ (λ_ e=>e.elim) δ).out (X:=λb=>b=w.heap.size+1) ((Out.refl (λb=>b=w.heap.size+1) Y).setCell (p:=(bW w)) (r? rfl) _) (λ_ e=>e.elim) (by have:=Zu.2.2.2;omega)
  have ξ:Hid (Below f f (Y.setCell (bW w) (b? A3 (ids.length+1) c3))):=(VA.grown d VA.size (λr e=>by have:=(pf Vt.zW r e).1;have:=β;omega)).setCell (p:=(bW w)) (by show f.heap.size<=w.heap.size+1;have:=β;omega) _;have HGX:Hid ((eo A3 (ids.length+1) c3).ownBlock≠M g):=λe=>by
   rcases hv with e2|e2
   .exact δ (e2▸e)
   rw[e2]at e;cases e;omega
  have fz:Y.frozen? (bW w)=u?:=sZ.frozen 2;have zl:w.heap.size+1<Y.heap.size:=sZ.lt;have zn:(eo A3 (ids.length+1) c3)=b? A3 (ids.length+1) c3:=rfl;clear k0 k1 t d hv Θ zn;have k0:Y.cell? (bW w)=M (cZ IA ids ic):=sZ.cell 2;have k1:Y.cell? ⟨N,0,Z⟩=M (c? n? c0.id):=ψ.cell 0;clear sZ aa4 δ Vt Vr Δ VA;refine J.out _ _ (λ_=>⟨k0,k1⟩) ?_;clear J K;try try simp only[gL,eK,ej,dQ,bd,ak,am]
  refine sU ⟨k0,k1⟩ ?_;refine oY 11 λK J=>?_;go_simp;refine J.out _ _ (λh=>qch) ?_;clear J K;try try simp only[gL,eK,ej,dQ,bd,ak,am]
  refine yi ?_;clear k0 k1 fz ψ;have hz7:Y.heap.size=(Y.setCell (bW w) (b? A3 (ids.length+1) c3)).heap.size:=lV;generalize Y.setCell (bW w) (b? A3 (ids.length+1) c3)=w7 at*;have hm2:w7.cell? (lz 51 w)=M (b? TA G.length tc):=Zo.blk.cell 3;go_wp2_with(at_builtin;refine Stop.i ?_);unfold Stop;have Ω:Hid ((w7.alloc (m? #[jO g] 82)).ownsRow (w.heap.size+1) 82 1 (b? TA G.length tc) G.length (wh G)):=Zo.BX.alloc _;refine kr _ rfl (.tmp 59) (.tmp 61) 79 rfl (w.heap.size+1) 82 t1 (e? Z) 1 8 Tryz.underlying79 ht1 hy0 hy1 hy2 rfl B8 (b? TA G.length tc) G.length _ rfl Ω _ _ 1 1 [jO g] rfl rfl (tY (jR.new w7 _ #[jO g])) (λu hu=>by simp at hu;rw[hu];try rfl) (by have:=Zo.len;rw[ax,cv]at this;unfold maxLen;omega) (by have:=Zo.len;rw[ax,cv]at this;omega) mO ?_;intro v' W t d hv;obtain⟨A2,c2,rfl,-⟩:=lB t;have Ws:=ah (Zo.call (jP (jQ w7) (m? #[jO g] 82)));have aT0:g<w7.heap.size:=by obtain⟨_,_,_,_,_,_,_,ht⟩:=κ;exact ht.blk.lt
  have HN9:=ah (Ws.Ye (c:=qF ka kb c0) (v':=b? A2 (G.length+1) c2) t d (by rcases hv with e|e;exact r? e;exact s? ⟨_,e,ay _⟩) (κ.later (jP (jQ w7) _)) (by have:=Zu.2.2.2;omega) (by have:=Zu.2.2.2;omega) (λhm=>by have:=Zu.2.2.1 g hm;omega) HGX (λe=>by have:=Zu.2.1 g e;omega));have BI:Hid (Below f f (W.setCell (lz 51 w) (b? A2 (G.length+1) c2))):=((jP ξ (m? #[jO g] 82)).grown d (by simp;have:=ξ.size;omega) (λr e=>by have:=(pf Zo.BX r e).1;have:=β;omega)).setCell (p:=(lz 51 w)) (by show f.heap.size<=w.heap.size+1;have:=β;omega) _;have zc:W.cell? (lz 51 w)=M (b? TA G.length tc):=by
   have h9:=Ws.blk.grown d (λe=>(Ws.BN _ e.symm).1 rfl);have:=h9.cell 3;simpa using this
  have zf:W.frozen? (lz 51 w)=u?:=(Ws.blk.grown d (λe=>(Ws.BN _ e.symm).1 rfl)).frozen 3;have zl:w.heap.size+1<W.heap.size:=(Ws.blk.grown d (λe=>(Ws.BN _ e.symm).1 rfl)).lt;clear t d hv Ω Ws;go_wp2;go_roundw
  case rel=>
   refine⟨k+1,G++[g],b? A3 (ids.length+1) c3,b? A2 (G.length+1) c2,CJ,jS,?_,BI⟩;show pP _ _ _ _ _ _ _ _ _ _;rw[Fi,dH,dH,<-SW];exact HN9
  exact No
 have hkn:k=l.length:=jS;subst hkn;have d1:decide ((l.length:I)<l.length)=u?:=lV;have OT:=HN;rw[SW,dP]at OT;have HBE:=ah (ρ.trans (HB.mono jS));clear HN HB;go_wp2;go_ret2;exact⟨HBE,_,G,rfl,λX hX hGX=>OT.ax6 (by unfold lE;rw[fY];try rfl) (by unfold lE;rw[fY];try rfl) jS (λb hb=>(hX b hb).imp id λq=>jS) hGX,λg hg=>by have:=(OT.gB g hg).1;omega⟩
def Sa(ka kb:I)(A:w? jG)(l:E Pb)(cap:O)(c:1<=l.length)(f:l.length<=8)(d:l.Pairwise λa b=>a.id≠b.id)(g:∀x∈l,0<=x.budget/\x.budget<=1000000)(n:∀x∈l,U x.id)(w:jC)(p:4<=w.heap.size)(m:Rd w w A (l.flatMap OA)):jE Tryz.prog 15 #[cI ka kb,jN A l cap] w (VF w ka kb l):=by
 refine(Ds ka kb A l cap c f d g n w p m).mono ?_;rintro e w'⟨o,cb,G,j,k,q⟩;exact⟨o,cb,G,j,k _ (λ_ h=>r? h) (λ_ h=>h),q⟩
instance(x0:I)(x1:I):CoeOut (wU 49 x0 x1) Obj:=⟨λ_=>(m? #[c? n? 1,c? o? x0,c? n? x1,c? n? 2,c? o? x0,c? n? x1] 63)⟩
def zv(s:v?)(hs:s.size<=maxLen)(w:jC):jE Tryz.prog 38 #[f? s] w λe w'=>e=a? (f? (rp s 300))/\w'=w:=by
 unfold maxLen at hs;unfold rp;obtain⟨c,b⟩:∃a:O,min s.size 300=a:=⟨_,rfl⟩;have d:min (s.size:I) 300=(c:I):=jS;have f:(0:I)<=c:=jS;have g:(c:I)<=(s.size:I):=jS;rw[b];clear b;go_in;go_wp2;go_ret;exact⟨rfl,rfl⟩
def KH(m:ReqM):ReqM:=⟨lu m.r,m.ia,m.ic,m.ta,m.tc⟩
def Do(m:ReqM)(g:ReqRaw m)(hi:m.r.items.length<=m.ic)(A:m.r.jV.length<=m.tc)(w:jC):jE Tryz.prog 17 #[g? (uD m).toArray] w λe w'=>e=a? (g? (uD (KH m)).toArray)/\(bJ w w'):=by
 obtain⟨⟨o,now,labels,b,kind,items,h,to,id,y⟩,n,l,p,k⟩:=m;have z:=ah (zv labels g.labels);have D:=ah (zv b g.scope);have j:=g.items;have f:=g.jV;simp only[uD,KH,lu]at hi A j f⊢;unfold maxLen at j f;generalize rp labels 300=x at*;generalize rp b 300=q at*;obtain⟨d,s⟩:∃a:O,(items.take 52).length=a:=⟨_,rfl⟩;obtain⟨c,t⟩:∃a:O,(y.take 10).length=a:=⟨_,rfl⟩;rw[s,t];rw[cv]at s t;have H:min (items.length:I) 52=(d:I):=jS;have J:min (y.length:I) 10=(c:I):=jS;have L:(0:I)<=d:=jS;have C:(0:I)<=c:=jS;have G:(d:I)<=(l:I):=jS;have K:(c:I)<=(k:I):=jS;have B:=ah (jP (jP (jQ w) (m? #[jJ o,jK now,jL x,jL q,jJ kind,b? n d l,jK h,jK to,jK id,b? p c k] 35)) (m? #[jJ o,jK now,jL x,jL q,jJ kind,b? n d l,jK h,jK to,jK id,b? p c k] 35));clear s t g;go_in;go_wp2_with fail;refine(z _).mono ?_;rintro e F⟨rfl,rfl⟩;go_wp2_with fail;refine(D _).mono ?_;rintro e F⟨rfl,rfl⟩;go_wp2;refine jF (v:=g? #[jJ o,jK now,jL x,jL q,jJ kind,b? n d l,jK h,jK to,jK id,b? p c k]) (by simp[results,Tryz.results17,go_sem]) rfl ?_;exact⟨rfl,B⟩
variable{m:ReqM}
def nG.few(h:nG X w m):nG X w (KH m):=by
 have l:(m.r.items.take 52).flatMap Q8 <+: m.r.items.flatMap Q8:=by
  conv=>rhs;rw[<-fQ 52 m.r.items,eZ]
  exact List.prefix_append _ _
 have o:qM (m.r.jV.take 10) <+: qM m.r.jV:=by
  unfold qM;rw[iR];exact eS _ _
 have a:∀{A:w? jG}{xs d:E jD},pO X w A xs->d <+: xs->pO X w A d:=λ{A xs d} h p=>by
  obtain⟨t,rfl⟩:=p;refine⟨λf=>?_,λf=>h.x (by intro e;exact f (iM.1 e).1)⟩;obtain⟨b,c,e,k,n⟩:=h.rd (by intro e;exact f (iM.1 e).1);exact⟨b,c,e,k,λj v g=>n j v (by rw[eL (ci.1 g).1];exact g)⟩
 exact⟨a h.i l,a h.t o,by show(by5 _ _).length<=m.ic;rw[cv];have:=h.ic;omega,by show(by5 _ _).length<=m.tc;rw[cv];have:=h.tc;omega⟩
def two_any(b l:I)(w:jC):jE Tryz.prog 13 #[c? o? b,c? n? l] w λe w'=>e=a? (b? (M (lz 43 w)) 2 2)/\w'=w.alloc (lI 49 b l):=by
 go_in;go_wp2;go_ret;exact⟨rfl,rfl⟩
def nK(id:I)(w:jC):jE Tryz.prog 10 #[c? n? id] w λe w'=>e=a? (g? #[c? n? id,c? o? 3,c? n? 0])/\(bJ w w'):=by
 have a:=ah (jP (jQ w) (m? #[jK id,jJ 3,jK 0] 30));go_in;go_wp2;refine jF (v:=g? #[jK id,jJ 3,jK 0]) (by simp[results,Tryz.results10,go_sem]) rfl ?_;exact⟨rfl,a⟩
def m9(b l:I):E Pb:=[⟨1,b,l⟩,⟨2,b,l⟩]
def Jb(b l:I)(w:jC):Rd (w.alloc (lI 49 b l)) (w.alloc (lI 49 b l)).heap.size (M (lz 43 w)) ((m9 b l).flatMap OA):=tY (jR.new w _ _)
def vR(b l:I):(m9 b l).Pairwise λx y=>x.id≠y.id:=by simp[m9]
def zL(b l:I):∀x∈m9 b l,U x.id:=λx a=>by
 simp[m9]at a;rcases a with rfl|rfl
 .exact⟨by show(0:I)<=1;omega,by show(1:I)<=18446744073709551615;omega⟩
 exact⟨by show(0:I)<=2;omega,by show(2:I)<=18446744073709551615;omega⟩
def Um(A B:w? jG)(l:E O)(t cb:O)(J:l.length<=9223372036854775807)(w:jC)(s:Rd w w.heap.size A (lC l))(n:Rd w w.heap.size B (lC l)):jE Tryz.prog 39 #[b? A l.length t,b? B l.length cb] w λe w'=>e=a? (h? t?)/\(bJ w w'):=by
 have v:=ah s;have z:=ah n;have x:((l.length:I)!=(l.length:I))=u?:=lV;clear s n;go_in;go_wp2_with fail;clear x;go_loopw[5] (λi wr=>∃k:O,i=(aJ k)/\k<=l.length/\Hid (bJ w wr)) (λi _=>l.length-(av i).toNat)
 case atStart=>exact⟨0,rfl,be _,jQ _⟩
 obtain⟨k,rfl,H,g⟩:=hrel;by_cases r:k<l.length
 .have d1:decide ((k:I)<l.length)=t?:=ae;obtain⟨b,f,rfl,C,o⟩:=za v jS;obtain⟨q,a,rfl,h,c⟩:=za z jS;have D:=(g.cell (p:=⟨b,f+k,Z⟩) C).trans (o k r);have G:=(g.cell (p:=⟨q,a+k,Z⟩) h).trans (c k r);have L:(0:I)<=k:=jS;have K:(k:I)<l.length:=jS;have m:=ah g.drew;clear o c;generalize l[k]=y at*;go_wp2;go_region_held(λw'=>w'.cell? ⟨b,f+k,Z⟩=M (aJ y)/\w'.cell? ⟨q,a+k,Z⟩=M (aJ y)) (first|assumption|exact⟨D,G⟩|go_keep) (fail);go_wp2;go_roundw
  case rel=>exact⟨k+1,CJ,jS,m⟩
  exact No
 have j:k=l.length:=jS;subst j;have d1:decide ((l.length:I)<l.length)=u?:=lV;go_wp2;go_ret;exact⟨rfl,g⟩
def KL(A B:w? jG)(l:E mV)(L cb:O)(W:l.length<=9223372036854775807)(w:jC)(J:Rd w w.heap.size A (l.flatMap nE))(z:Rd w w.heap.size B (l.flatMap nE)):jE Tryz.prog 40 #[b? A l.length L,b? B l.length cb] w λe w'=>e=a? (h? t?)/\(bJ w w'):=by
 have N:=ah J;have R:=ah z;have Q:((l.length:I)!=(l.length:I))=u?:=lV;clear J z;go_in;go_wp2_with fail;clear Q;go_loopw[5] (λi wr=>∃k:O,i=(aJ k)/\k<=l.length/\Hid (bJ w wr)) (λi _=>l.length-(av i).toNat)
 case atStart=>exact⟨0,rfl,be _,jQ _⟩
 obtain⟨k,rfl,V,g⟩:=hrel;by_cases j:k<l.length
 .have d1:decide ((k:I)<l.length)=t?:=ae;obtain⟨b,c,rfl,q,m⟩:=oP (n:=4) (λ_=>rfl) B8 N jS;obtain⟨d,a,rfl,h,f⟩:=oP (n:=4) (λ_=>rfl) B8 R jS;have s:wr.cell? ⟨b,c+k*4+0,Z⟩=M (c? n? l[k].seq):=(g.cell (p:=⟨b,c+k*4+0,Z⟩) q).trans (m k j 0 _ B8 rfl);have D:wr.cell? ⟨b,c+k*4+1,Z⟩=M (c? n? l[k].tm):=(g.cell (p:=⟨b,c+k*4+1,Z⟩) q).trans (m k j 1 _ B8 rfl);have x:wr.cell? ⟨b,c+k*4+2,Z⟩=M (f? l[k].text):=(g.cell (p:=⟨b,c+k*4+2,Z⟩) q).trans (m k j 2 _ B8 rfl);have K:wr.cell? ⟨b,c+k*4+3,Z⟩=M (c? n? l[k].sum):=(g.cell (p:=⟨b,c+k*4+3,Z⟩) q).trans (m k j 3 _ B8 rfl);have v:wr.cell? ⟨d,a+k*4+0,Z⟩=M (c? n? l[k].seq):=(g.cell (p:=⟨d,a+k*4+0,Z⟩) h).trans (f k j 0 _ B8 rfl);have C:wr.cell? ⟨d,a+k*4+1,Z⟩=M (c? n? l[k].tm):=(g.cell (p:=⟨d,a+k*4+1,Z⟩) h).trans (f k j 1 _ B8 rfl);have F:wr.cell? ⟨d,a+k*4+2,Z⟩=M (f? l[k].text):=(g.cell (p:=⟨d,a+k*4+2,Z⟩) h).trans (f k j 2 _ B8 rfl);have G:wr.cell? ⟨d,a+k*4+3,Z⟩=M (c? n? l[k].sum):=(g.cell (p:=⟨d,a+k*4+3,Z⟩) h).trans (f k j 3 _ B8 rfl);rw[ip]at s v;have Y:(0:I)<=k:=jS;have X:(k:I)<l.length:=jS;have t:=ah g.drew;clear m f;generalize l[k]=y at*;obtain⟨H,yt,yx,ym⟩:=y;simp only at s D x K v C F G;go_wp2;go_region_held(λw'=>w'.cell? ⟨b,c+k*4,Z⟩=M (c? n? H)/\w'.cell? ⟨b,c+k*4+1,Z⟩=M (c? n? yt)/\w'.cell? ⟨b,c+k*4+2,Z⟩=M (f? yx)/\w'.cell? ⟨b,c+k*4+3,Z⟩=M (c? n? ym)/\w'.cell? ⟨d,a+k*4,Z⟩=M (c? n? H)/\w'.cell? ⟨d,a+k*4+1,Z⟩=M (c? n? yt)/\w'.cell? ⟨d,a+k*4+2,Z⟩=M (f? yx)/\w'.cell? ⟨d,a+k*4+3,Z⟩=M (c? n? ym)) (first|assumption|exact⟨s,D,x,K,v,C,F,G⟩|go_keep) (fail);go_wp2;go_roundw
  case rel=>exact⟨k+1,CJ,jS,t⟩
  exact No
 have r:k=l.length:=jS;subst r;have d1:decide ((l.length:I)<l.length)=u?:=lV;go_wp2;go_ret;exact⟨rfl,g⟩
structure Bx(w:jC)(v:jD)(r:Rep):Prop where
 at_:∃A k E k2,v=g? #[c? o? r.e,c? n? r.n,b? A r.notices.length k,b? E r.entries.length k2]/\Rd w w.heap.size A (lC r.notices)/\Rd w w.heap.size E (r.entries.flatMap nE)
def FZ(v u:jD)(r:Rep)(F:r.notices.length<=1000)(D:r.entries.length<=1000)(w:jC)(h:Bx w v r)(k:Bx w u r):jE Tryz.prog 18 #[v,u] w λe w'=>e=a? (h? t?)/\(bJ w w'):=by
 obtain⟨A,ka,G,ke,rfl,s,o⟩:=h.at_;obtain⟨j,c,l,d,rfl,q,p⟩:=k.at_;have t:Hid (∀W,(bJ w W)->jE Tryz.prog 39 #[jN A r.notices ka,jN j r.notices c] W λe w'=>e=a? (h? t?)/\(bJ W w')):=λW a=>Um A j r.notices ka c jS W ((Rd.below s a).more a.size) ((Rd.below q a).more a.size);have y:Hid (∀W,(bJ w W)->jE Tryz.prog 40 #[jN G r.entries ke,jN l r.entries d] W λe w'=>e=a? (h? t?)/\(bJ W w')):=λW a=>KL G l r.entries ke d jS W ((Rd.below o a).more a.size) ((Rd.below p a).more a.size);have m:=ah (((Hold.nil w).alloc w 55 [jJ r.e,jK r.n,jN A r.notices ka,jN G r.entries ke]).alloc (w.heap.size+1) 55 [jJ r.e,jK r.n,jN j r.notices c,jN l r.entries d]);clear h s o k q p;go_in;go_wp2_with fail;refine kf (λ_=>True) m trivial (λV b _=>?_);clear m;refine(t V b.below).mono ?_;rintro e z⟨rfl,f⟩;replace b:=ah (b.call f);clear f;have x:=fk (b.facts);go_wp2_with fail;refine(y z b.below).mono ?_;rintro e C⟨rfl,g⟩;replace b:=ah (b.call g);clear g x;go_wp2;go_ret;exact⟨rfl,b.below⟩
def MD:v?:=⟨#[97,61,120]⟩
def O4:E kI:=[(⟨#[97]⟩,⟨#[120]⟩)]
def TH:pE (tx MD)=M O4:=TO
def WQ:setB O4=t?:=TO
def Qg:vt (tx MD)=M O4:=by
 refine Gk ?_;unfold mW;rw[TH];exact⟨O4,List.Perm.refl _,λa b d c=>by simp[O4]at c;omega,by rw[B? WQ]⟩
def VR:Sc.lU (tx MD)=M [((⟨#[97]⟩:v?),(⟨#[120]⟩:v?))]:=TO
def FW:mw MD=t?:=by unfold mw;rw[VR];try rfl
def Qr:nX MD O4=t?:=by
 unfold nX;rw[VR];have a:Sc.k8 O4 ⟨#[97]⟩=(⟨#[120]⟩,t?):=TO;have c:Sc.mu (tx ⟨#[120]⟩)=M [Sc.Sg.that 120]:=TO;have b:Sc.rn (tx ⟨#[120]⟩)=[120]:=TO;simp only[Sc.allM,bw2,by9,bw6,a,eF];rw[Sc.vE c TO,b];exact .for_ _ _ _ _ rfl .nil
def NI{l:E mV}{a b:I}(h:late l a=u?)(c:a<=b):late l b=u?:=by
 unfold late at h⊢
 cases d:l.getLast? with
 |none=>rfl
 |some x=>rw[d]at h;simp only[decide_eq_false_iff_not]at h⊢;omega
variable{c:lO}{T T2:kM}{now:I}
def Wg{α:Type}{d:v?}{step:kM->K? I (kM×α)}{a:α}(f:nH c T)(m:U now)(o:T.tm<=now)(hs:step (ko c T now)=.ok (T2,a))(n:T2.lb=T.lb)(g:T2.ll=T.ll)(j:T2.tm=now)(h:d.size<=200)(k:kO T.ll<18446744073709551615):∃b l,EQ c T now d step=.ok ({T2 with lb:=b,ll:=l},a):=by
 obtain⟨b,l,e,-⟩:=Wj f.lg m h (NI f.late o) k;refine⟨b,l,?_⟩;unfold EQ;rw[A? jS,hs];simp only;rw[n,g,j,e]
variable{labels:v?}{kind:I}{items:E Item}
def Pp{l:E kI}(b:T.tb=[])(hi:items.length<=50)(e:vt (tx labels)=M l)(a:1<=kind/\kind<=3)(f:kJ [⟨l,mF (nC kind) items,T.tm⟩]<=c.budget):me c T labels kind items=.ok ({T with tb:=[⟨l,mF (nC kind) items,T.tm⟩]},[]):=by
 have d:mf T.tb l kind=nC kind:=by rw[b];simp[mf,mQ,o_]
 have g:we T.tb ⟨l,mF (nC kind) items,T.tm⟩=M [⟨l,mF (nC kind) items,T.tm⟩]:=by rw[b];simp[we,Dm,CL,mQ,o_]
 unfold me;rw[A? jS,e];simp only;rw[B? a,d,B? (wj a).2.1,g];simp only;rw[show pI c.budget 100 [⟨l,mF (nC kind) items,T.tm⟩] []=M ([⟨l,mF (nC kind) items,T.tm⟩],[])from by show(if _ then _ else _)=_;rw[B? f]]
def J1(sc:v?)(hs:mw sc=t?)(a:1<=kind/\kind<=3):kA [] sc kind=.ok (nC kind):=by
 unfold kA nj;rw[B? hs];simp only;rw[B? a];rfl
variable{s:mq}{sc:v?}
def J0(hs:mw sc=t?)(b:nX sc s.l=t?)(c:1<=kind/\kind<=3)(a:s.k.kind=kind):kA [s] sc kind=.ok (mZ (nC kind) s.k):=by
 unfold kA nj;rw[B? hs];simp only;rw[B? c];have:mj sc [s] 1=[0]:=by simp[mj,uo,b]
 rw[show[s].length=1 from rfl,this];simp[nN,a]
variable{r:s9}
def ae6(h:nR C)(l:C[k]? =M (c,T))(m:lN r):nR (Hz C k c T r).1/\(Hz C k c T r).1.map (·.1)=C.map (·.1):=by
 obtain⟨j,b⟩:=ci.1 l;have o:=(h.at_ l).2;have d:∀f,nH c f->nR (C.set k (c,f))/\(C.set k (c,f)).map (·.1)=C.map (·.1):=λf g=>by
  have n:=h.set j (T:=f) (by rw[b];exact g);rw[b]at n;refine⟨n,?_⟩;rw[iJ];refine iO lV λi s t=>?_;rw[eW];split
  .subst_vars;simp[b]
  rfl
 unfold Hz;split
 .cases q:qt c T r with
  |error e=>exact⟨h,rfl⟩
  |ok x=>exact d _ (T_ (T2:=x.1) (a:=x.2) o m q).1.g
 cases p:p6 c T r with
 |error e=>exact⟨h,rfl⟩
 |ok x=>exact d _ (ZT (T2:=x.1) (y:=x.2) o m p).1
variable{x:Cu}
def Ia(h:nR C)(b:lN r):nR (tW C x r).1/\(tW C x r).1.map (·.1)=C.map (·.1):=by
 unfold tW;split
 .exact⟨h,rfl⟩
 split
 .exact⟨h,rfl⟩
 rename_i c T a;split
 .exact⟨h,rfl⟩
 split
 .exact⟨h,rfl⟩
 exact ae6 h a b
def ER(h:nR C)(a:lN r):(tW C x r).1.length=C.length:=by
 have:=C? ez (Ia (x:=x) h a).2;simpa using this
def Q7(a b id:I):U (Kl a b id).1/\U (Kl a b id).2:=⟨Sp.Jk _ _ _,Sp.Jk _ _ _⟩
def nR.new{ka kb:I}{l:E Pb}(d:l.Pairwise λa b=>a.id≠b.id)(f:∀x∈l,0<=x.budget/\x.budget<=1000000)(g:∀x∈l,U x.id/\U x.life):nR (lE ka kb l):=by
 refine⟨λx e=>?_,λx e=>?_,?_⟩
 .obtain⟨y,c,rfl⟩:=dq.1 e;exact⟨(g y c).1,(f y c).1,(f y c).2,(g y c).2,(Q7 _ _ _).1,(Q7 _ _ _).2⟩
 .obtain⟨y,c,rfl⟩:=dq.1 e;exact nH.new _
 unfold lE;rw[List.pairwise_map];exact d.imp λh=>h
def qh{id:I}(d:m6 C id=M k)(a:C[k]? =M (c,T))(b:1<=r.op/\r.op<=7):tW C ⟨id,3,0⟩ r=Hz C k c T r:=
 R6 d a b (by
  show zZ 3 r.op=t?;have:r.op=1\/r.op=2\/r.op=3\/r.op=4\/r.op=5\/r.op=6\/r.op=7:=jS;rcases this with e|e|e|e|e|e|e<;>rw[e]<;>decide)
structure SbX where
def bX:SbX:=⟨⟩
instance:CoeOut SbX Sk:=⟨λ_=>mF (nC 1) [⟨5,0⟩,⟨6,0⟩,⟨5,0⟩]⟩
def DV:s9:=⟨1,0,MD,⟨#[]⟩,1,[⟨5,0⟩,⟨6,0⟩,⟨5,0⟩],0,0,0,[]⟩
def xn:s9:=⟨2,0,⟨#[]⟩,MD,1,[],0,0,0,[]⟩
variable{n:O}
def U.nat(h:n<=18446744073709551615):U (n:I):=⟨by show(0:I)<=_;omega,by show(n:I)<=18446744073709551615;omega⟩
def U.zero:U 0:=U.nat (n:=0) jS
def vU:lN DV:=⟨U.zero,B8,B8,B8,λx a=>by
 simp[DV]at a;rcases a with rfl|rfl|rfl
 .exact⟨U.nat (n:=5) jS,U.zero⟩
 .exact⟨U.nat (n:=6) jS,U.zero⟩
 exact⟨U.nat (n:=5) jS,U.zero⟩,U.zero,U.zero,U.zero,B8,λx a=>by simp[DV]at a⟩
def vT:lN xn:=⟨U.zero,B8,B8,B8,λx a=>by simp[xn]at a,U.zero,U.zero,U.zero,B8,λx a=>by simp[xn]at a⟩
def WI: "query".toByteArray.size<=200:=TO
def WJ: "ingest".toByteArray.size<=200:=TO
def ar4: "grant".toByteArray.size<=200:=TO
def Gf{h:I}{s:Sk}(g:nH c T)(f:U now)(j:T.tm<=now)(e:kA (ko c T now).tb sc kind=.ok s)(d:kO T.ll<18446744073709551615):∃b l,pM c T now sc kind h=.ok ({ko c T now with lb:=b,ll:=l},rt s h):=
 Wg (T2:=ko c T now) (a:=rt s h) g f j (by show(kA (ko c T now).tb sc kind).map _=_;rw[e];try rfl) rfl rfl rfl WI d
variable{ps:E O}
def NT(k:nH c T)(h:U now)(m:T.tm<=now)(d:me c (ko c T now) labels kind items=.ok (T2,ps))(f:kO T.ll<18446744073709551615):∃b l,nl c T now labels kind items=.ok ({T2 with lb:=b,ll:=l},ps):=by
 obtain⟨j,g,e,_⟩:=zQ d;exact Wg (T2:=T2) (a:=ps) k h m d g j e WJ f
def Tw:∃B z R n,tW (lE 3 4 (m9 1000 9)) ⟨1,3,0⟩ DV=(B,⟨0,n,[],[]⟩)/\tW B ⟨1,3,0⟩ xn=(z,⟨0,2,[],[]⟩)/\tW z ⟨2,3,0⟩ xn=(R,⟨0,0,[],[]⟩):=by
 obtain⟨c1,d⟩:∃c,c=qF 3 4 ⟨1,1000,9⟩:=⟨_,rfl⟩;obtain⟨c2,j⟩:∃c,c=qF 3 4 ⟨2,1000,9⟩:=⟨_,rfl⟩;have Y:lE 3 4 (m9 1000 9)=[(c1,newT),(c2,newT)]:=by rw[d,j];try rfl
 have w:c1.id=1:=by rw[d];try rfl
 have C:c2.id=2:=by rw[j];try rfl
 have H:c1.budget=1000:=by rw[d];try rfl
 have W:c1.life=9:=by rw[d];try rfl
 have x:∀T U:kM,m6 [(c1,T),(c2,U)] 1=M 0:=λT U=>by simp[m6,w,jl]
 have L:∀T U:kM,m6 [(c1,T),(c2,U)] 2=M 1:=λT U=>by simp[m6,w,C,jl]
 rw[Y];have t:kJ [⟨O4,bX,0⟩]<=c1.budget:=by rw[H];decide+kernel
 have F:me c1 (ko c1 newT 0) MD 1 [⟨5,0⟩,⟨6,0⟩,⟨5,0⟩]=.ok ({ko c1 newT 0 with tb:=[⟨O4,bX,0⟩]},[]):=Pp (T:=ko c1 newT 0) rfl B8 Qg B8 t;obtain⟨b,l,A⟩:=NT (nH.new c1) U.zero (by show(0:I)<=0;omega) F (by show(0:I)<_;omega);have p:=wy (nH.new c1) U.zero vU.iu A;generalize o:({({ko c1 newT 0 with tb:=[⟨O4,bX,0⟩]}:kM)with lb:=b,ll:=l}:kM)=a at*;have v:a.tb=[⟨O4,bX,0⟩]:=by rw[<-o]
 have r:kO a.ll=1:=by rw[p.1.last];try rfl
 have d1:tW [(c1,newT),(c2,newT)] ⟨1,3,0⟩ DV=([(c1,a),(c2,newT)],⟨0,kJ a.tb,[],[]⟩):=by
  rw[qh (x _ _) rfl B8];exact xR B8 (by show p6 c1 newT DV=_;unfold p6;rw[B? (show DV.op=1 from rfl)];show(nl c1 newT 0 MD 1 [⟨5,0⟩,⟨6,0⟩,⟨5,0⟩]).map _=_;rw[A];try rfl)
 have m:(ko c1 a 0).tb=[⟨O4,bX,0⟩]:=by
  show a.tb.filter _=_;rw[v,W];try rfl
 have k:kA (ko c1 a 0).tb MD 1=.ok (mZ (nC 1) (bX)):=by
  rw[m];exact J0 FW Qr B8 TO
 obtain⟨K,X,y⟩:=Gf (h:=0) p.1.g U.zero (by rw[p.1.tm];omega) k (by rw[r];omega);have f:rt (mZ (nC 1) (bX)) 0=2:=TO;rw[f]at y;generalize({ko c1 a 0 with lb:=K,ll:=X}:kM)=T2 at*;have N:tW [(c1,a),(c2,newT)] ⟨1,3,0⟩ xn=([(c1,T2),(c2,newT)],⟨0,2,[],[]⟩):=by
  rw[qh (x _ _) rfl B8];exact xR B8 (by show p6 c1 a xn=_;unfold p6;rw[A? B8,B? (show xn.op=2 from rfl)];show(pM c1 a 0 MD 1 0).map _=_;rw[y];try rfl)
 have s:kA (ko c2 newT 0).tb MD 1=.ok (nC 1):=J1 MD FW B8;obtain⟨Q,G,e⟩:=Gf (h:=0) (nH.new c2) U.zero (by show(0:I)<=0;omega) s (by show(0:I)<_;omega);have q:rt (nC 1) 0=0:=TO;rw[q]at e;generalize({ko c2 newT 0 with lb:=Q,ll:=G}:kM)=J at*;have D:tW [(c1,T2),(c2,newT)] ⟨2,3,0⟩ xn=([(c1,T2),(c2,J)],⟨0,0,[],[]⟩):=by
  rw[qh (L _ _) rfl B8];exact xR B8 (by show p6 c2 newT xn=_;unfold p6;rw[A? B8,B? (show xn.op=2 from rfl)];show(pM c2 newT 0 MD 1 0).map _=_;rw[e];try rfl)
 exact⟨_,_,_,_,d1,N,D⟩
instance:CoeOut (Cp 35) Obj:=⟨λ_=>(m? #[c? n? 5,c? n? 0,c? n? 6,c? n? 0,c? n? 5,c? n? 0] 39)⟩
def nG.nil(X:O->Prop)(w:jC)(r:s9)(hi:r.items=[])(a:r.jV=[]):nG X w ⟨r,Z,0,Z,0⟩:=
 ⟨⟨by rw[hi];exact Rd.none_,λ_ _ e=>LS⟩,⟨by rw[a];exact Rd.none_,λ_ _ e=>LS⟩,by simp[hi],by simp[a]⟩
variable{y:Rep}
def EP{V:jC}{cb:O}{C':Col}{bs:E (O×jH×E jD)}(p:nR C)(B:C.length<=100)(q:lN m.r)(L:4<=w.heap.size)(F:Tb w)(z:Er w)(s:∀g∈G,w.heap.size<=g)(H:kj (·∈G) w V bs)(h:kE (·∈G) V cb G ka kb C)(d:∀b∈bs,b.1∉G)(o:nG (·∈G) V m)(J:tW C x m.r=(C',y)):jE Tryz.prog 16 #[e? (aC cb),g? (Ij x).toArray,g? (uD m).toArray] V λe W=>kj (·∈G) w W bs/\kE (·∈G) W cb G ka kb C'/\∃A k R c,e=a? (g? #[c? o? y.e,c? n? y.n,b? A y.notices.length k,b? R y.entries.length c])/\Rd W W.heap.size A (lC y.notices)/\Rd W W.heap.size R (y.entries.flatMap nE)/\(aX A V)/\(aX R V)/\Out (·∈G) V W:=by
 have a:(bJ w V):=H.out.below (ay _) s;have N:=H.size;have Q:=MB (·∈G) cb G ka kb C x m p B q V jS (λb a=>h.XJ a) (F.later a) (z.later a) h o;rw[J]at Q;refine Q.mono ?_;rintro e W⟨f,j,v,rfl,A,k,R,c,rfl,⟨D,l⟩,t,K⟩;exact⟨H.wP f (λk e=>r? e) d,j,A,k,R,c,rfl,D,t,l,K,f⟩
def CC(w:jC)(hw:4<=w.heap.size)(hT:Tb w)(hE:Er w):jE Tryz.prog 7 #[] w λe w'=>e=a? (h? t?)/\(bJ w w'):=by
 obtain⟨C1,C2,C3,n,d1,d2,d3⟩:=Tw;have K:nR (lE 3 4 (m9 1000 9)):=nR.new (vR _ _) (λx d=>by simp[m9]at d;rcases d with rfl|rfl<;>decide) (λx d=>⟨zL _ _ x d,by simp[m9]at d;rcases d with rfl|rfl<;>exact U.nat (n:=9) jS⟩);have A:=(Ia (x:=⟨1,3,0⟩) K vU).1;have c1:=ER (x:=⟨1,3,0⟩) K vU;rw[d1]at A c1;have g2:=(Ia (x:=⟨1,3,0⟩) A vT).1;have c2:=ER (x:=⟨1,3,0⟩) A vT;rw[d2]at g2 c2;have c0:(lE 3 4 (m9 1000 9)).length=2:=rfl;have HT:=ah hT;have HE:=ah hE;have α:=ah d1;have ε:=ah d2;have δ:=ah d3;have Y:=ah K;have DH:=ah A;have γ:=ah g2;have W:Hid (C1.length<=100/\C2.length<=100/\(lE 3 4 (m9 1000 9)).length<=100):=by simp only at c1 c2;exact⟨jS,jS,jS⟩
 clear d1 d2 d3 K A g2 c0 c1 c2 hT hE;generalize F:lE 3 4 (m9 1000 9)=C0 at*;go_in;go_wp2_with fail;refine(two_any 1000 9 w).mono ?_;rintro e w1⟨rfl,rfl⟩;go_wp2_with fail;have a:=jP (jQ w) (m? #[jK 1,jJ 1000,jK 9,jK 2,jJ 1000,jK 9] 63);refine(Sa 3 4 _ (m9 1000 9) 2 B8 B8 (vR _ _) (λx d=>by simp[m9]at d;rcases d with rfl|rfl<;>decide) (zL _ _) _ (by have:=a.size;omega) (Jb 1000 9 w)).mono ?_;rintro e w2⟨q,cb,G,rfl,L,hG⟩;rw[F]at L;clear F;have v:(bJ w w2):=a.trans (q.mono a.size);have j:Hid ((∀g∈G,w.heap.size<=g)/\∀g∈G,g<w2.heap.size):=⟨λg hg=>by have:=hG g hg;have:=a.size;omega,λg hg=>L.XJ hg⟩;have N:=ah ((kj.nil (·∈G) w).call v);have H:=ah L;clear q L hG a v;go_wp2_with fail;refine(nK 1 w2).mono ?_;rintro e l⟨rfl,c⟩;replace N:=ah (N.call c);replace H:=ah (H.later c);have μ:=c.size;clear c;have HA:=ah (N.al (rO 35));have z:=ah (H.later (jP (jQ l) (rO 35)));have Zq:Hid (nG (·∈G) (l.alloc (rO 35)) ⟨DV,M (lz 43 l),3,Z,0⟩):=
  ⟨⟨tY (jR.new l _ _),λ_ ad e p=>by cases e;have:=j.2 _ p;simp only at this;omega⟩,⟨Rd.none_,λ_ _ e=>LS⟩,ay 3,ay 0⟩
 go_wp2_with fail;refine(EP (x:=⟨1,3,0⟩) (m:=⟨DV,M (lz 43 l),3,Z,0⟩) Y W.2.2 vU hw HT HE j.1 HA z (λb h=>by cases h) Zq α).mono ?_;rintro e R⟨h4,s,A1,k1,E1,l1,rfl,-,-,-,-,Mg⟩;have Rg:=Mg.size;have κ:l.heap.size<=R.heap.size:=by simp at Rg;omega
 have y:=ah (h4.alloc R 55 [jJ 0,jK n,b? A1 0 k1,b? E1 0 l1]);have r:=ah (s.later (jP (jQ R) (m? #[jJ 0,jK n,b? A1 0 k1,b? E1 0 l1] 55)));simp only[dp];clear h4 s Mg Zq HA z N H Rg;go_wp2_with fail;refine kq (λV=>kE (·∈G) V cb G 3 4 C1) y r (λV5 Q D=>?_);clear y r;refine(nK 1 V5).mono ?_;rintro e w6⟨rfl,f⟩;replace Q:=ah (Q.call f);have Vz:=ah (D.later f);clear D f;go_wp2_with fail;refine(EP (x:=⟨1,3,0⟩) (m:=⟨xn,Z,0,Z,0⟩) DH W.1 vT hw HT HE j.1 Q Vz (λb h p=>by simp at h;subst h;have:=j.2 _ p;simp only at this;omega) (nG.nil _ _ _ rfl rfl) ε).mono ?_;rintro e w7⟨h7,o,A2,k2,E2,l2,rfl,-,-,-,-,η⟩;have ν:R.heap.size<w7.heap.size:=(h7.blk _ ab).2.lt;have Vk:=ah (h7.alloc w7 55 [jJ 0,jK 2,b? A2 0 k2,b? E2 0 l2]);have Wz:=ah (o.later (jP (jQ w7) (m? #[jJ 0,jK 2,b? A2 0 k2,b? E2 0 l2] 55)));simp only[dp];clear h7 o η Q Vz;go_wp2_with fail;refine kq (λV=>kE (·∈G) V cb G 3 4 C2) Vk Wz (λV8 J C=>?_);clear Vk Wz;refine(nK 2 V8).mono ?_;rintro e w9⟨rfl,nu⟩;replace J:=ah (J.call nu);have t:=ah (C.later nu);clear C nu;go_wp2_with fail;refine(EP (x:=⟨2,3,0⟩) (m:=⟨xn,Z,0,Z,0⟩) γ W.2.1 vT hw HT HE j.1 J t (λb h p=>by simp at h;rcases h with rfl|rfl<;>(have:=j.2 _ p;simp only at this;omega)) (nG.nil _ _ _ rfl rfl) δ).mono ?_;rintro e X⟨k,T,A3,k3,E3,l3,rfl,-,-,-,-,β⟩;have θ:=ah (k.alloc X 55 [jJ 0,jK 0,b? A3 0 k3,b? E3 0 l3]);have x:=fk (k.facts);simp only[dp];clear k T β J t;go_wp2;go_ret;exact⟨rfl,θ.out.out.below aa j.1⟩
instance(x0:ActM):CoeOut (sH 2 x0) (x? jD):=⟨λ_=>#[c? n? x0.x.oK,c? o? x0.x.role,c? n? x0.x.YR,c? o? (lu x0.m.r).op,c? n? (lu x0.m.r).now,f? (lu x0.m.r).labels,f? (lu x0.m.r).scope,c? o? (lu x0.m.r).kind,b? x0.m.ia (lu x0.m.r).items.length x0.m.ic,c? n? (lu x0.m.r).h,c? n? (lu x0.m.r).to,c? n? (lu x0.m.r).id,b? x0.m.ta (lu x0.m.r).jV.length x0.m.tc]⟩
def Tryz.Rc:(Tryz.prog.info? 37).map (λi=>(i.zero,i.size,i.bytes))=M (M (g? #[c? n? 0,c? o? 0,c? n? 0,c? o? 0,c? n? 0,f? (jf #[]),f? (jf #[]),c? o? 0,b? Z 0 0,c? n? 0,c? n? 0,c? n? 0,b? Z 0 0]),13,152):=oo
def sQ(a:ActM):ActM:=⟨a.x,KH a.m⟩
def Sy(a:ActM):∀u∈xY a,u.oneCell'=t?:=λu b=>by
 simp only[xY,Ij,uD,dj,dz,cw,bv9,or_false]at b;rcases b with rfl|rfl|rfl|rfl|rfl|rfl|rfl|rfl|rfl|rfl|rfl|rfl|rfl<;>rfl
def YM(w:jC)(l:E ActM)(n:O)(e:bi6)(w':jC):Prop:=(bJ w w')/\∃A c,e=a? (b? A ((l.take n).map sQ).length c)/\Rd w' w'.heap.size A (((l.take n).map sQ).flatMap xY)/\(aX A w)
def RT(A:w? jG)(l:E ActM)(cap n:O)(hl:l.length<=maxLen)(hn:n<=1000)(hr:∀a∈l,ReqRaw a.m/\a.m.r.items.length<=a.m.ic/\a.m.r.jV.length<=a.m.tc)(w:jC)(hS:Rd w w.heap.size A (l.flatMap xY)):jE Tryz.prog 8 #[b? A l.length cap,c? o? n] w (YM w l n):=by
 obtain⟨t0,μ,ρ,φ,ξ⟩:=bi5 Tryz.Rc;have HS:=ah hS;have HR:=ah hr;have ε:=ah (jQ w);have ω:l.length<=9223372036854775807:=by unfold maxLen at hl;omega
 clear hS hr hl;go_in;go_wp2_with fail;go_loopw[5,6] (λv i wr=>∃(k:O)(A2:w? jG)(c2:O),i=(aJ k)/\v=b? A2 k c2/\k<=l.length/\k<=n/\Hid (wr.ownsRow w 37 13 (b? A2 k c2) k (((l.take k).map sQ).flatMap xY))/\Hid (bJ w wr)) (λ_ i _=>l.length-(av i).toNat)
 case atStart=>exact⟨0,Z,0,rfl,rfl,be _,be _,dY _ _ _ _,ε⟩
 clear ε;obtain⟨k,A2,c2,rfl,rfl,hk,Γ,HO,HB⟩:=hrel;by_cases s:k<l.length
 .by_cases h2:k<n
  .have d1:decide ((k:I)<l.length)=t?:=ae;have d2:decide ((k:I)<n)=t?:=ae;obtain⟨b,c,rfl,z,t⟩:=oP (n:=13) Bt B8 HS jS;have Θ:=HB.size;have Ξ:b<wr.heap.size:=jS;have Fi:Hid (l.take (k+1)=l.take k++[l[k]]):=aj s;have α:=ah (HR _ (ar s));have xO:(0:I)<=k:=jS;have xN:(k:I)<l.length:=jS;have JS:Hid (∀W,(bJ w W)->W.cell? ⟨b,c+k*13,Z⟩=M (c? n? l[k].x.oK)/\W.cell? ⟨b,c+k*13+1,Z⟩=M (c? o? l[k].x.role)/\W.cell? ⟨b,c+k*13+2,Z⟩=M (c? n? l[k].x.YR)/\W.cell? ⟨b,c+k*13+3,Z⟩=M (c? o? l[k].m.r.op)/\W.cell? ⟨b,c+k*13+4,Z⟩=M (c? n? l[k].m.r.now)/\W.cell? ⟨b,c+k*13+5,Z⟩=M (f? l[k].m.r.labels)/\W.cell? ⟨b,c+k*13+6,Z⟩=M (f? l[k].m.r.scope)/\W.cell? ⟨b,c+k*13+7,Z⟩=M (c? o? l[k].m.r.kind)/\W.cell? ⟨b,c+k*13+8,Z⟩=M (b? l[k].m.ia l[k].m.r.items.length l[k].m.ic)/\W.cell? ⟨b,c+k*13+9,Z⟩=M (c? n? l[k].m.r.h)/\W.cell? ⟨b,c+k*13+10,Z⟩=M (c? n? l[k].m.r.to)/\W.cell? ⟨b,c+k*13+11,Z⟩=M (c? n? l[k].m.r.id)/\W.cell? ⟨b,c+k*13+12,Z⟩=M (b? l[k].m.ta l[k].m.r.jV.length l[k].m.tc)):=λW y=>⟨(y.cell (p:=⟨b,c+k*13+0,Z⟩) z).trans (t k s 0 _ B8 rfl),(y.cell (p:=⟨b,c+k*13+1,Z⟩) z).trans (t k s 1 _ B8 rfl),(y.cell (p:=⟨b,c+k*13+2,Z⟩) z).trans (t k s 2 _ B8 rfl),(y.cell (p:=⟨b,c+k*13+3,Z⟩) z).trans (t k s 3 _ B8 rfl),(y.cell (p:=⟨b,c+k*13+4,Z⟩) z).trans (t k s 4 _ B8 rfl),(y.cell (p:=⟨b,c+k*13+5,Z⟩) z).trans (t k s 5 _ B8 rfl),(y.cell (p:=⟨b,c+k*13+6,Z⟩) z).trans (t k s 6 _ B8 rfl),(y.cell (p:=⟨b,c+k*13+7,Z⟩) z).trans (t k s 7 _ B8 rfl),(y.cell (p:=⟨b,c+k*13+8,Z⟩) z).trans (t k s 8 _ B8 rfl),(y.cell (p:=⟨b,c+k*13+9,Z⟩) z).trans (t k s 9 _ B8 rfl),(y.cell (p:=⟨b,c+k*13+10,Z⟩) z).trans (t k s 10 _ B8 rfl),(y.cell (p:=⟨b,c+k*13+11,Z⟩) z).trans (t k s 11 _ B8 rfl),(y.cell (p:=⟨b,c+k*13+12,Z⟩) z).trans (t k s 12 _ B8 rfl)⟩;clear t;generalize l[k]=d at*;have κ:Hid (∀W,jE Tryz.prog 17 #[g? (uD d.m).toArray] W λe w'=>e=a? (g? (uD (KH d.m)).toArray)/\(bJ W w')):=λW=>Do d.m α.1 α.2.1 α.2.2 W;simp only[uD,KH]at κ;obtain⟨R,C,B,V,N,J,H,T,L,D,g,q,j⟩:=JS _ HB;go_wp2;refine bi1 (S:=(λw'=>w'.cell? ⟨b,c+k*13,Z⟩=M (c? n? d.x.oK)/\w'.cell? ⟨b,c+k*13+1,Z⟩=M (c? o? d.x.role)/\w'.cell? ⟨b,c+k*13+2,Z⟩=M (c? n? d.x.YR)/\w'.cell? ⟨b,c+k*13+3,Z⟩=M (c? o? d.m.r.op)/\w'.cell? ⟨b,c+k*13+4,Z⟩=M (c? n? d.m.r.now)/\w'.cell? ⟨b,c+k*13+5,Z⟩=M (f? d.m.r.labels)/\w'.cell? ⟨b,c+k*13+6,Z⟩=M (f? d.m.r.scope)/\w'.cell? ⟨b,c+k*13+7,Z⟩=M (c? o? d.m.r.kind)/\w'.cell? ⟨b,c+k*13+8,Z⟩=M (b? d.m.ia d.m.r.items.length d.m.ic)/\w'.cell? ⟨b,c+k*13+9,Z⟩=M (c? n? d.m.r.h)/\w'.cell? ⟨b,c+k*13+10,Z⟩=M (c? n? d.m.r.to)/\w'.cell? ⟨b,c+k*13+11,Z⟩=M (c? n? d.m.r.id)/\w'.cell? ⟨b,c+k*13+12,Z⟩=M (b? d.m.ta d.m.r.jV.length d.m.tc))) oo ⟨R,C,B,V,N,J,H,T,L,D,g,q,j⟩ (λf=>?_);refine re f ?_;have δ:Hid (Below w w wr.drew):=HB.drew;have xe:Hid (wr.drew.ownsRow w 37 13 (b? A2 k c2) k (((l.take k).map sQ).flatMap xY)):=lf HO (Below.refl _ wr).drew;refine pL 11 λK hK=>?_;go_simp;refine(κ _).mono ?_;rintro e X⟨rfl,β⟩;have γ:Hid (bJ w X):=δ.trans (β.mono δ.size);have w_:=ah (lf xe β);clear β δ xe R C B V N J H T L D g q j;obtain⟨R,C,B,V,N,J,H,T,L,D,g,q,j⟩:=JS _ γ;refine hK.out _ _ ⟨R,C,B,V,N,J,H,T,L,D,g,q,j⟩ (λf=>?_);clear hK K;refine az ?_;refine re f ?_;refine pL 13 λK hK=>?_;go_simp;have ν:=ah (jR.new X 37 (lz 2 d));have F:Hid (Below w w (X.alloc (m? (lz 2 d) 37))):=jP γ _;have IS:Hid ((X.alloc (m? (lz 2 d) 37)).ownsRow w 37 13 (b? A2 k c2) k (((l.take k).map sQ).flatMap xY)):=w_.alloc _;have Rg:(X.alloc (m? (lz 2 d) 37)).heap.size=X.heap.size+1:=lV;clear γ w_ R C B V N J H T L D g q j;generalize X.alloc (m? (lz 2 d) 37)=w4 at*;obtain⟨R,C,B,V,N,J,H,T,L,D,g,q,j⟩:=JS _ F;refine hK.out _ _ ⟨R,C,B,V,N,J,H,T,L,D,g,q,j⟩ (λf=>?_);clear hK K;refine az ?_;refine pL 14 λK hK=>?_;have χ:w.heap.size<=w4.heap.size:=F.size;refine ti rfl (.tmp 18) (.tmp 31) 25 rfl w 37 t0 _ 13 152 Tryz.underlying25 μ ρ φ ξ rfl B8 (b? A2 k c2) k _ rfl IS w4 (M (lz 43 X)) 1 1 [jK d.x.oK,jJ d.x.role,jK d.x.YR,jJ (lu d.m.r).op,jK (lu d.m.r).now,jL (lu d.m.r).labels,jL (lu d.m.r).scope,jJ (lu d.m.r).kind,b? d.m.ia (lu d.m.r).items.length d.m.ic,jK (lu d.m.r).h,jK (lu d.m.r).to,jK (lu d.m.r).id,b? d.m.ta (lu d.m.r).jV.length d.m.tc] rfl lV (tY ν) (Sy (sQ d)) O0 jS jS ?_;intro A3 c3 w8 Y G hv;have SM:=ah Y;have BI:Hid (bJ w w8):=F.grown G F.size (λr e=>(pf IS r e).1);clear Y G hv F IS R C B V N J H T L D g q j;obtain⟨R,C,B,V,N,J,H,T,L,D,g,q,j⟩:=JS _ BI;refine hK.out _ _ ⟨R,C,B,V,N,J,H,T,L,D,g,q,j⟩ (λf=>?_);clear hK K;refine az ?_;refine re f ?_;refine hdn ?_;clear f;clear R C B V N J H T L D g q j;go_wp2;go_roundw
   case rel=>
    refine⟨k+1,A3,c3,CJ,CJ,jS,jS,?_,BI⟩;show gX _ _ _ _ _ _ _;rw[Fi,dH,eZ];exact SM
   exact No
  have d1:decide ((k:I)<l.length)=t?:=ae;have d2:decide ((k:I)<n)=u?:=ag;have θ:k=n:=jS;go_wp2;go_ret;refine⟨HB,A2,c2,?_,?_,?_⟩
  .have:((l.take n).map sQ).length=k:=by rw[ax,cv];omega
   rw[this];subst θ;rfl
  .rw[<-θ];exact Rd.own HO
  intro ad e;exact(by obtain⟨_,_,e9,_,_,h9⟩:=li HO;cases e9;exact h9 ad e)
 have ψ:k=l.length:=jS;have d1:decide ((k:I)<l.length)=u?:=ag;go_wp2;go_ret;have e9:l.take n=l.take k:=by rw[cl jS,cl jS]
 refine⟨HB,A2,c2,?_,?_,?_⟩
 .have:((l.take n).map sQ).length=k:=by rw[ax,cv];omega
  rw[this];rfl
 .rw[e9];exact Rd.own HO
 intro ad e;exact(by obtain⟨_,_,e9,_,_,h9⟩:=li HO;cases e9;exact h9 ad e)
def yW(id:I):Cu:=⟨id,3,0⟩
structure IQ(X:O->Prop)(w:jC)(v:jD)(r:Rep):Prop where
 at_:∃A k E k2,v=g? #[jJ r.e,jK r.n,jN A r.notices k,jN E r.entries k2]/\pO X w A (lC r.notices)/\pO X w E (r.entries.flatMap nE)
def VZ(R:gG->gG->jC->Prop)(a:gG):bk7->gG->jC->Prop:=λe b w'=>match e with|.normal=>R a b w'|_=>False
variable{w':jC}
def AH{R:gG->gG->jC->Prop}{b:gG}(h:R a b w'):VZ R a .normal b w':=h
def D6{c:bk9}(R:gG->gG->jC->Prop)(f:c.wp P (VZ R a) a w)(d:∀b w',R a b w'->Q .normal b w'):c.wp P Q a w:=
 jg (λe b w' h=>by cases e<;>first|exact d b w' h|exact h.elim) f
variable{b:O×jH×E jD}
def kj.bd3{a:jC}{bs:E (O×jH×E jD)}(h:kj X a w (b::bs)):kj X a w bs:=⟨h.out,λc d=>h.blk c (dS _ d),(b6.1 h.apart).2⟩
structure aQ5(m:ReqM) where
def bn8(m:ReqM):aQ5 m:=⟨⟩
instance(m:ReqM):CoeOut (aQ5 m) (E jD):=⟨λ_=>[jJ m.r.op,jK m.r.now,jL m.r.labels,jL m.r.scope,jJ m.r.kind,jN m.ia m.r.items m.ic,jK m.r.h,jK m.r.to,jK m.r.id,jN m.ta m.r.jV m.tc]⟩
structure aQ6(m:ReqM) where
def bd7(m:ReqM):aQ6 m:=⟨⟩
instance(m:ReqM):CoeOut (aQ6 m) (x? jD):=⟨λ_=>#[jJ m.r.op,jK m.r.now,jL m.r.labels,jL m.r.scope,jJ m.r.kind,jN m.ia m.r.items m.ic,jK m.r.h,jK m.r.to,jK m.r.id,jN m.ta m.r.jV m.tc]⟩
structure aQ4(y:Rep)(N:w? jG)(i:O)(E:w? jG)(j:O) where
def aP6(y:Rep)(N:w? jG)(i:O)(a:w? jG)(j:O):aQ4 y N i a j:=⟨⟩
instance(y:Rep)(N:Option jG)(i:Nat)(E:Option jG)(j:Nat):CoeOut (aQ4 y N i E j) (List jD):=⟨λ_=>[jJ y.e,jK y.n,jN N y.notices i,jN E y.entries j]⟩
structure aQ3 where
def bd2:aQ3:=⟨⟩
instance:CoeOut aQ3 (E jD):=⟨λ_=>[jJ 0,jK 0,jM,jM]⟩
section
variable{P:bi3}{ops:x? bk0}{Q:bk7->gG->jC->Prop}{md:fD}{S:jC->Prop}
variable{v:jD}{fuel:O}{l:x? z?}
def tk3{oi:bk0}{a':gG}(i:O)(d:S w)(h:wpAnyH P md ops Q S fuel (l.setIfInBounds i t?) a' w)(b:ZH md ops l i=t?:=by decide+kernel)(hi:ops[i]? =M oi:=by exact rfl)(hQ:∀c a w,Q (.panic c) (a.put oi.dst v) w->Q (.panic c) a w:=by exact λ_ _ _ h=>h)(hy:eQ oi (yielded ops a.tmps)=t?/\∀w,S w->(execOp a.eval oi).run P w=.ok (.value v) w:=by(refine⟨by rfl,?_⟩;intro w hSw;(try dsimp only at hSw);(try simp only[kz,au,ao,I?]at hSw);(repeat obtain⟨_,hSw⟩:=hSw);go_simp<;>with_reducible rfl))(ea:a.put oi.dst v=a':=by((try simp only[gL,eK,ej,dQ,bd,ak,am]);rfl)):wpAnyH P md ops Q S (fuel+1) l a w:=by
 subst ea;exact bk5 hi (rY b).1 (rY b).2.1 (rY b).2.2 hQ (ge hy) d h
def tkc{q:Prop}(b:S w)(h:q)(e:S w->q->wpAnyH P md ops Q S fuel l a w:=by
 (
  intro hs hq
  (try refine tk3 0 hs ?_);(try refine tk3 1 hs ?_);(try refine tk3 2 hs ?_);(try refine tk3 3 hs ?_);(try refine tk3 4 hs ?_);(try refine tk3 5 hs ?_);(try refine tk3 6 hs ?_);(try refine tk3 7 hs ?_);(try refine tk3 8 hs ?_);(try refine tk3 9 hs ?_);(try refine tk3 10 hs ?_);(try refine tk3 13 hs ?_)
  exact hq)):wpAnyH P md ops Q S fuel l a w:=e b h
end
abbrev Lay:=E (O×E O)
abbrev Bks:=E (O×jH×E jD)
def InG(L:Lay)(b:O):Prop:=∃q∈L,b∈q.2
def Bar(L:Lay)(bs:Bks)(b:O):Prop:=InG L b\/∃x∈bs,x.1=b
structure k9(w:jC)(ka kb:I)(L:Lay)(V:jC)(E9:E Col)(bs:Bks):Prop where
 H:kj (InG L) w V bs
 col:∀(k:O)(q:O×E O)(C:Col),L[k]? =M q->E9[k]? =M C->kE (Bar L bs) V q.1 q.2 ka kb C
 ai5:∀x∈bs,¬InG L x.1
 gw:∀b,InG L b->w.heap.size<=b/\b<V.heap.size
 an5:L.Pairwise λp q=>∀g∈p.2,g∉q.2
section
variable{w V W:jC}{ka kb:I}{L:Lay}{E9:E Col}{bs bs':Bks}{C C':Col}{cb:O}{G:E O}{P:bi3}{a:gG}
def k9.below(h:k9 w ka kb L V E9 bs):Below w w V:=h.H.out.below aa λb a=>(h.gw b a).1
def k9.bar(h:k9 w ka kb L V E9 bs){b:O}(c:Bar L bs b):w.heap.size<=b/\b<V.heap.size:=c.elim (h.gw b) λ⟨x,a,e⟩=>by
 have q:=h.H.blk x a;exact⟨q.1.elim (λz=>e▸(h.gw _ z).1) (λz=>e▸z),e▸q.2.lt⟩
def k9.call(h:k9 w ka kb L V E9 bs)(c:Below V V W):k9 w ka kb L W E9 bs:=
 ⟨h.H.call c,λk q C d e=>(h.col k q C d e).later c,h.ai5,λb a=>⟨(h.gw b a).1,by have:=(h.gw b a).2;have:=c.size;omega⟩,h.an5⟩
def k9.drew(h:k9 w ka kb L V E9 bs):k9 w ka kb L V.drew E9 bs:=h.call (Below.refl _ V).drew
def k9.al(h:k9 w ka kb L V E9 bs)(o:Obj):k9 w ka kb L (V.alloc o) E9 bs:=h.call (jP (jQ V) o)
def k9.alloc(h:k9 w ka kb L V E9 bs)(g:O)(t:TypeId)(cs:E Value)(d:g=V.heap.size:=by simp):k9 w ka kb L (V.alloc (m? cs.toArray t)) E9 ((g,t,cs)::bs):=by
 subst d;refine⟨h.H.alloc _ t cs rfl,λk q C f j=>?_,λx a=>?_,λb c=>?_,h.an5⟩
 .refine((h.col k q C f j).wide (Y:=Bar L ((V,t,cs)::bs)) (λb c=>c.elim (λz=>r? (r? z)) λ⟨x,a,e⟩=>?_) (λg d=>r? ⟨q,cm f,d⟩)).later (jP (jQ V) _);rcases cw.1 a with rfl|a
  .exact s? (by simp only at e;omega)
  exact r? (s? ⟨x,a,e⟩)
 .rcases cw.1 a with rfl|a
  .intro z;have:=(h.gw _ z).2;simp only at this;omega
  exact h.ai5 x a
 have:=h.gw b c;exact⟨this.1,mO⟩
def k9.tail(h:k9 w ka kb L V E9 (b::bs)):k9 w ka kb L V E9 bs:=
 ⟨h.H.bd3,λk q C c j=>(h.col k q C c j).narrow (λb f=>f.imp id λ⟨x,a,e⟩=>⟨x,dS _ a,e⟩) (λg d=>r? ⟨q,cm c,d⟩),λx a=>h.ai5 x (dS _ a),h.gw,h.an5⟩
variable{g:O}
def k9.wr(h:k9 w ka kb L V E9 bs)(H:kj (InG L) w W bs')(j:Out (·=g) V W)(c:∃x∈bs,x.1=g)(l:∀b,(∃x∈bs',x.1=b)->∃x∈bs,x.1=b):k9 w ka kb L W E9 bs':=by
 have o:¬InG L g:=λz=>by obtain⟨x,f,e⟩:=c;exact h.ai5 x f (e▸z)
 refine⟨H,λk q C d m=>?_,λx f z=>?_,λb a=>⟨(h.gw b a).1,by have:=(h.gw b a).2;have:=j.size;omega⟩,h.an5⟩
 .exact((h.col k q C d m).out j (λb a=>⟨s? (by rw[a];exact c),λz=>o ⟨q,cm d,by rw[<-a];exact z⟩⟩)).narrow (λb a=>a.imp id (l b)) (λg c=>r? ⟨q,cm d,c⟩)
 obtain⟨y,n,e⟩:=l x.1 ⟨x,f,rfl⟩;exact h.ai5 y n (by rw[e];exact z)
variable{cs:E jD}
def aq1{b:O}{t:jH}{d:E jD}(e:bs[k]? =M (g,t,cs)):(∃x∈bs.set k (g,t,d),x.1=b)->∃x∈bs,x.1=b:=λ⟨x,a,c⟩=>by
 rcases dO a with a|rfl
 .exact⟨x,a,c⟩
 exact⟨_,cm e,c⟩
def k9.all(h:k9 w ka kb L V E9 bs)(k:O)(vs:E Value){g:O}{t:TypeId}{cs:E Value}(e:bs[k]? =M (g,t,cs):=by rfl)(a:vs.length=cs.length:=by rfl):k9 w ka kb L (lp V g 0 vs) E9 (bs.set k (g,t,vs)):=
 h.wr (h.H.all k vs e a) (Out.lp (X:=(·=g)) (g:=g) (r? rfl) vs 0 (Out.refl _ V)) ⟨_,cm e,rfl⟩ λb=>aq1 e
def k9.nil(H:kj (InG []) w V bs):k9 w ka kb [] V [] bs:=⟨H,λk q C e _=>by simp at e,λx _⟨q,a,_⟩=>(by cases a),λb⟨q,a,_⟩=>(by cases a),List.Pairwise.nil⟩
def k9.bm3(h:k9 w ka kb L V E9 bs)(a:Below V V W)(y:∀X:O->Prop,(∀b,X b->b∈G\/b<V.heap.size)->(∀g∈G,X g)->kE X W cb G ka kb C)(f:∀g∈G,V.heap.size<=g):k9 w ka kb ((cb,G)::L) W (C::E9) bs:=by
 have o:∀{b},InG L b->InG ((cb,G)::L) b:=λ⟨q,d,z⟩=>⟨q,dS _ d,z⟩;have n:kE (Bar ((cb,G)::L) bs) W cb G ka kb C:=y _ (λb a=>by
  rcases a with⟨q,d,a⟩|a
  .rcases cw.1 d with rfl|d
   .exact r? a
   exact s? (h.gw b ⟨q,d,a⟩).2
  exact s? (h.bar (s? a)).2) λg e=>r? ⟨_,di ..,e⟩
 refine⟨⟨(h.H.call a).out.mono λk _ v=>o v,λb r=>⟨((h.H.call a).blk b r).1.imp o id,((h.H.call a).blk b r).2⟩,h.H.apart⟩,λk q C' j s=>?_,λx t=>?_,λb c=>?_,b6.2 ⟨λq d g e l=>by have:=f g e;have:=(h.gw g ⟨q,d,l⟩).2;omega,h.an5⟩⟩
 .cases k with
  |zero=>cases j;cases s;exact n
  |succ k=>
   refine((h.col k q C' j s).wide (λb a=>?_) (λg e=>r? ⟨q,cm j,e⟩)).later a;rcases a with⟨p,m,a⟩|a
   .rcases cw.1 m with rfl|m
    .exact s? (f b a)
    exact r? (r? ⟨p,m,a⟩)
   exact r? (s? a)
 .rintro⟨q,d,c⟩;rcases cw.1 d with rfl|d
  .have:=f _ c;have:=(h.H.blk x t).2.lt;omega
  exact h.ai5 x t ⟨q,d,c⟩
 obtain⟨q,d,c⟩:=c;rcases cw.1 d with rfl|d
 .exact⟨by have:=f b c;have:=h.H.size;omega,n.XJ c⟩
 have:=h.gw b ⟨q,d,c⟩;have:=a.size;exact⟨jS,jS⟩
def k9.req(h:k9 w ka kb L V E9 bs)(a:ReqOk w w m):nG (Bar L bs) V m:=
 nG.later ⟨pO.of a.i (λb c=>(h.bar c).1),pO.of a.t (λb c=>(h.bar c).1),a.ic,a.tc⟩ h.below
def bf4(h:k9 w ka kb L V E9 bs)(p:L[k]? =M (cb,G))(J:E9[k]? =M C)(X:nR C)(g:C.length<=100)(hf:lN m.r)(hw:4<=w.heap.size)(hT:Tb w)(hE:Er w)(T:nG (Bar L bs) V m)(hd:tW C x m.r=(C',y)):jE Tryz.prog 16 #[jO cb,g? (Ij x).toArray,g? (uD m).toArray] V λe W=>k9 w ka kb L W (E9.set k C') bs/\Out (·∈G) V W/\∃v,e=a? v/\IQ (Bar L bs) W v y:=by
 have a:=h.below;have hs:=h.H.size;have Q:=MB (Bar L bs) cb G ka kb C x m X g hf V jS (λb a=>(h.bar a).2) (hT.later a) (hE.later a) (h.col k _ C p J) T;rw[hd]at Q;refine Q.mono ?_;rintro e W⟨n,z,v,rfl,A,j,α,j2,rfl,⟨h1,R⟩,Y,h4⟩;have c:∀b,b∈G->InG L b:=λb a=>⟨_,cm p,a⟩;refine⟨⟨h.H.wP n (λb a=>r? (c b a)) (λb a e=>h.ai5 b a (c _ e)),λs q C2 o t=>?_,h.ai5,λb a=>⟨(h.gw b a).1,by have:=(h.gw b a).2;have:=n.size;omega⟩,h.an5⟩,n,_,rfl,A,j,α,j2,rfl,⟨h1,λ_ D e B=>by have:=R D e;have:=(h.bar B).2;omega⟩,⟨Y,λ_ D e B=>by have:=h4 D e;have:=(h.bar B).2;omega⟩⟩;by_cases e:k=s
 .subst e;rw[p]at o;cases o;rw[gM (ci.1 J).1]at t;cases t;exact z
 rw[List.getElem?_set_ne e]at t;refine(h.col s q C2 o t).out n λb a=>⟨r? (c b a),λl=>?_⟩;obtain⟨F,K⟩:=ci.1 p;obtain⟨d,f⟩:=ci.1 o;have N:=cj.1 h.an5;rcases iD e with g|g
 .have:=N k s F d g b (by rw[K];exact a);rw[f]at this;exact this l
 have:=N s k d F g b (by rw[f];exact l);rw[K]at this;exact this a
variable{md:fD}{fuel:O}{l:x? z?}
def rq1(i:O){S:jC->Prop}(h:∀b:gG->jC->Prop,Shut (∀a w,S w->(S w->wpAnyH P md ops Q S fuel (l.setIfInBounds i t?) a w)->b a w)->if eQ o (yielded ops a.tmps)=t? then je P o a w b Q else b (a.put o.dst undef) w)(c:eE md ops l=[i]:=by decide+kernel) (ho:ops[i]? =M o:=by exact rfl):wpAnyH P md ops Q S (fuel+1) l a w:=wpAnyH_ready c lV (.cons ho h .nil)
def rq2(i j:O){S:jC->Prop}{o':bk0}(h:∀b:gG->jC->Prop,Shut (∀a w,S w->(S w->wpAnyH P md ops Q S fuel (l.setIfInBounds i t?) a w)->b a w)->if eQ o (yielded ops a.tmps)=t? then je P o a w b Q else b (a.put o.dst undef) w)(c:∀b:gG->jC->Prop,Shut (∀a w,S w->(S w->wpAnyH P md ops Q S fuel (l.setIfInBounds j t?) a w)->b a w)->if eQ o' (yielded ops a.tmps)=t? then je P o' a w b Q else b (a.put o'.dst undef) w)(d:eE md ops l=[i,j]:=by decide+kernel) (ho:ops[i]? =M o:=by exact rfl) (ho':ops[j]? =M o':=by exact rfl):wpAnyH P md ops Q S (fuel+1) l a w:=wpAnyH_ready d lV (.cons ho h (.cons ho' c .nil))
end
def ah2{c1 c2:lO}(a:c1.id≠c2.id)(A T:kM):m6 [(c1,A),(c2,T)] c1.id=M 0/\m6 [(c1,A),(c2,T)] c2.id=M 1:=by
 simp[m6,jl,a]
structure Own(c:lO)(A:kM)(now:I)(n:O):Prop where
 g:nH c A
 gl:A.gl=[]
 gn:A.gn=1
 tm:A.tm=now
 n:kO A.ll<=n
def gvR(now:I)(sc:v?):s9:=⟨4,now,⟨#[]⟩,sc,0,[],0,2,0,[]⟩
def aO3(b:U now)(h:sc.size<=300):lN (gvR now sc):=⟨b,by show(jf #[]).size<=300;decide,h,by show 0<=52;omega,λx a=>by simp[gvR]at a,U.zero,U.nat (n:=2) jS,U.zero,by show 0<=10;omega,λx a=>by simp[gvR]at a⟩
def aE0(b:I):∀(n:O)(t:E mq)(ps:E O){r:E mq×E O},pI b n t ps=M r->r.2.length<=ps.length+n
 |0,_,_,_,h=>by simp[pI]at h
 |n+1,t,ps,r,h=>by
  rw[pI]at h;split at h
  .cases h;simp
  split at h
  .have:=aE0 b n _ _ h;simp at this;omega
  cases h
def take_len(h:me c T labels kind items=.ok (T2,ps)):ps.length<=100:=by
 unfold me at h;repeat' split at h
 all_goals first|(cases h;done)|(cases h;rename_i a;have:=aE0 _ _ _ _ a;simpa using this)
def aS5(j:nH c T)(k:lN r)(e:p6 c T r=.ok (T2,y)):y.notices.length<=100/\y.entries.length<=30:=by
 have g:∀{α:Type}{X:K? I α}{f:α->kM×Rep},(∀a,(f a).2.notices=[]/\(f a).2.entries=[])->X.map f=.ok (T2,y)->y.notices.length<=100/\y.entries.length<=30:=λ{α X f} l b=>by
  cases X with
  |error m=>cases b
  |ok a=>
   injection b with b;have:=l a;rw[b]at this;rw[this.1,this.2];exact⟨be _,be _⟩
 unfold p6 at e;split at e
 .cases d:nl c T r.now r.labels r.kind r.items with
  |error m=>rw[d]at e;cases e
  |ok x=>
   rw[d]at e;cases e;obtain⟨_,_,_,n,h,_⟩:=wy (T2:=x.1) (ps:=x.2) j k.now k.iu d;exact⟨take_len h,be _⟩
 split at e
 .exact g (λ_=>⟨rfl,rfl⟩) e
 split at e
 .exact g (λ_=>⟨rfl,rfl⟩) e
 split at e
 .exact g (λ_=>⟨rfl,rfl⟩) e
 split at e
 .cases e
  exact⟨be _,a_ (fe _ _) j.lg.len⟩
 cases e;exact⟨be _,be _⟩
def ba7{C':Col}(h:nR C)(f:lN r)(e:tW C x r=(C',y)):y.notices.length<=100/\y.entries.length<=30:=by
 have a:∀k,(uJ k).notices.length<=100/\(uJ k).entries.length<=30:=λk=>⟨be _,be _⟩;unfold tW at e;split at e
 .cases e;exact a _
 split at e
 .cases e;exact a _
 rename_i c T b;split at e
 .cases e;exact a _
 split at e
 .cases e;exact a _
 unfold Hz at e;split at e
 .split at e
  .cases e;exact a _
  cases e;exact⟨be _,be _⟩
 split at e
 .cases e;exact a _
 rename_i j g d
 cases e
 exact aS5 (h.at_ b).2 f d
def aJ3(kind:I)(a:Sk)(s:mq):Sk:=if s.k.kind=kind then mZ a s.k else a
def ax7{t:E mq}{kind:I}:∀(b:E O)(a:Sk),(∀k∈b,k<t.length)->nN t kind b a=(b.filterMap λk=>t[k]?).foldl (aJ3 kind) a
 |[],_,_=>rfl
 |k::b,a,h=>by
  have c:=h k ab;rw[nN,ax7 b _ λj d=>h j (dS _ d),List.filterMap_cons,an c];simp only[jb,Option.some.injEq,jz,bw0,aJ3]
def al5{t:E mq}{p:mq->z?}{q:O->z?}(h:∀k(a:k<t.length),q k=p t[k]):∀n,n<=t.length->(((bu n).filter q).filterMap λk=>t[k]?)=(t.take n).filter p
 |0,_=>lV
 |n+1,b=>by
  rw[fV,gQ,List.filterMap_append,al5 h n jS,aj jS,gQ];congr 1;rw[eC,eC,h n jS];split
  .simp[an (show n<t.length by omega)]
  rfl
variable{gl:E Gr}{t:E mq}
def at1{to:I}:qT gl to t sc kind=if mw sc=t? then(if 1<=kind/\kind<=3 then .ok (((t.filter λs=>ND gl to s.l).filter λs=>nX sc s.l).foldl (aJ3 kind) (nC kind))else .error 101)else .error 50:=by
 unfold qT Ay nj;by_cases b:mw sc=t?
 .rw[B? b,B? b];simp only[jb];by_cases a:1<=kind/\kind<=3
  .rw[B? a,B? a,ax7 _ _ λk a=>qw (eN.1 a).1];unfold mj;rw[by2,al5 (p:=λs=>ND gl to s.l&&nX sc s.l) (λk a=>by simp[rJ,uo,an a]) _ aa,dP,by2];congr 2;refine by4 λs _=>?_;exact Bool.and_comm _ _
  rw[A? a,A? a]
 rw[A? b,A? b];rfl
def aF2{to:I}{a:E mq}(h:(t.filter λs=>ND gl to s.l)=a.filter λs=>ND gl to s.l):qT gl to t sc kind=qT gl to a sc kind:=by
 rw[at1,at1,h]
variable{A:kM}
def aJ0{c1 c2:lO}(a:c1.id≠c2.id){B V:kM}(h:∀sc kind,qT A.gl c2.id A.tb sc kind=qT B.gl c2.id B.tb sc kind):vm [(c1,A),(c2,V)] c2.id sc kind ids=vm [(c1,B),(c2,V)] c2.id sc kind ids:=by
 have d:∀id,uV [(c1,A),(c2,V)] c2.id sc kind id=uV [(c1,B),(c2,V)] c2.id sc kind id:=λid=>by
  unfold uV;by_cases b:id=c1.id
  .subst b;rw[(ah2 a A V).1,(ah2 a B V).1];simp only[bm];rw[A? a,A? a,h]
  by_cases c:id=c2.id
  .subst c;rw[(ah2 a A V).2,(ah2 a B V).2];rfl
  have h:∀f:kM,m6 [(c1,f),(c2,V)] id=Z:=λf=>by simp[m6,jl,by6 b,by6 c]
  rw[h,h]
 have e:ln [(c1,A),(c2,V)] c2.id sc kind=ln [(c1,B),(c2,V)] c2.id sc kind:=by
  funext s id;unfold ln;rw[d]
 unfold vm;rw[e]
def be9{c1 c2:lO}(a:c1.id≠c2.id){B:kM}(k:x.oK≠c1.id)(h:∀sc kind,qT A.gl c2.id A.tb sc kind=qT B.gl c2.id B.tb sc kind):∃j y,tW [(c1,A),(c2,T)] x r=([(c1,A),(c2,j)],y)/\tW [(c1,B),(c2,T)] x r=([(c1,B),(c2,j)],y):=by
 by_cases b:x.oK=c2.id
 .unfold tW;rw[b,(ah2 a A T).2,(ah2 a B T).2];simp only[bm,bo];by_cases f:¬(1<=r.op/\r.op<=7)
  .rw[B? f,B? f];exact⟨T,_,rfl,rfl⟩
  rw[A? f,A? f];by_cases c:zZ x.role r.op=u?
  .rw[B? c,B? c];exact⟨T,_,rfl,rfl⟩
  rw[A? c,A? c];unfold Hz;by_cases d:r.op=3
  .rw[B? d,B? d]
   cases l:qt c2 T r with
   |error e=>exact⟨T,_,rfl,rfl⟩
   |ok z=>exact⟨z.1,_,rfl,by
    show(([(c1,B),(c2,z.1)]:Col),(⟨0,rt (vm [(c1,B),(c2,z.1)] c2.id r.scope r.kind r.jV) r.h,[],[]⟩:Rep))=(_,⟨0,rt (vm [(c1,A),(c2,z.1)] c2.id r.scope r.kind r.jV) r.h,[],[]⟩)
    rw[aJ0 a h]⟩
  rw[A? d,A? d]
  cases l:p6 c2 T r with
  |error e=>exact⟨T,_,rfl,rfl⟩
  |ok z=>exact⟨z.1,_,rfl,rfl⟩
 have g:∀m:kM,m6 [(c1,m),(c2,T)] x.oK=Z:=λm=>by simp[m6,jl,by6 k,by6 b]
 unfold tW;rw[g,g];exact⟨T,_,rfl,rfl⟩
noncomputable def af4:Col->E (Cu×s9)->Col
 |C,[]=>C
 |C,a::l=>af4 (tW C a.1 a.2).1 l
noncomputable def ac4(but:I):Col->E (Cu×s9)->E Rep
 |_,[]=>[]
 |C,a::l=>(if a.1.oK=but then[]else[(tW C a.1 a.2).2])++ac4 but (tW C a.1 a.2).1 l
def az6:∀(l m:E (Cu×s9))(C:Col),af4 C (l++m)=af4 (af4 C l) m
 |[],_,_=>rfl
 |a::l,m,C=>az6 l m _
def aj9{but:I}:∀(l m:E (Cu×s9))(C:Col),ac4 but C (l++m)=ac4 but C l++ac4 but (af4 C l) m
 |[],_,_=>rfl
 |a::l,m,C=>by
  rw[dj,ac4,aj9 l m,ac4,af4,eH]
def am1{but:I}:∀(l:E (Cu×s9))(C:Col),(∀a∈l,a.1.oK=but)->ac4 but C l=[]
 |[],_,_=>rfl
 |a::l,C,h=>by rw[ac4,B? (h a ab),am1 l _ λb c=>h b (dS _ c)];rfl
def ay6{c1 c2:lO}(c:c1.id≠c2.id){A B:kM}(h:∀sc kind,qT A.gl c2.id A.tb sc kind=qT B.gl c2.id B.tb sc kind):
 ∀(l:E (Cu×s9))(T:kM),(∀a∈l,a.1.oK≠c1.id)->ac4 c1.id [(c1,A),(c2,T)] l=ac4 c1.id [(c1,B),(c2,T)] l
 |[],_,_=>rfl
 |a::l,T,d=>by
  obtain⟨j,y,f,g⟩:=be9 c (T:=T) (x:=a.1) (r:=a.2) (d a ab) h;rw[ac4,ac4,f,g];simp only;rw[ay6 c h l j λb e=>d b (dS _ e)]
def aM3(h:GT t):kJ t<=400000:=by
 have b:∀l:E mq,(∀s∈l,GS s)->kJ l<=20000*(l.length:I):=λl=>by
  induction l with
  |nil=>intro _;simp[kJ]
  |cons x l m=>
   intro j;have n:nF x<=20000:=by
    have f:=j x lV;have a:=f.k.fit;have n:wM x.k<=16000:=by
     have p:=a.e;have q:=a.c;have v:=a.g;have r:=a.regs;unfold wM;split
     .split<;>omega
     split<;>omega
    have d:=Jh f.set;unfold nF;omega
   have d:=m λs o=>j s (by simp[o]);simp only[kJ,df,List.sum_cons,c_]at d⊢;omega
 have:=b t h.all;have:=h.len;omega
def ba5{b:I}(h:kJ t<=b):pI b (n+1) t []=M (t,[]):=by rw[pI,B? h]
variable{p:E kI->z?}
def aB8(a:p s.l=u?):(CL t s).filter (λx=>p x.l)=t.filter λx=>p x.l:=by
 unfold CL;split
 .rename_i h;obtain⟨b,e⟩:=zN h;conv=>rhs;rw[<-fQ (o_ t s.l) t,dN b]
  simp only[gQ,eC,a,e,bw8,if_false]
 conv=>rhs;rw[<-fQ (o_ t s.l) t]
 simp only[gQ,eC,a,bw8,if_false]
def aK5(h:∀x∈t,x.seen=0)(hs:s.seen=0):∀x∈CL t s,x.seen=0:=λx a=>by
 unfold CL at a;split at a<;>(rcases ed.1 a with a|a; ·exact h x (dy a))<;>(rcases cw.1 a with rfl|a; ·exact hs)<;>exact h x (eJ a)
structure as3(c:lO)(A:kM)(gl:E Gr)(p:E kI->z?)(F:E mq):Prop where
 g:nH c A
 gl:A.gl=gl
 tm:A.tm=0
 seen:∀x∈A.tb,x.seen=0
 flt:(A.tb.filter λx=>p x.l)=F
def aH6(b:0<=c.life)(h:∀x∈A.tb,x.seen=0):(ko c A 0).tb=A.tb:=by
 show A.tb.filter _=_;rw[eY];intro x a;simp only[vD,ot,h x a];simp;try omega
def hidR(labels:v?)(kind:I)(items:E Item):s9:=⟨1,0,labels,⟨#[]⟩,kind,items,0,0,0,[]⟩
def aL5{c1 c2:lO}{F:E mq}(G:c1.budget=1000000)(N:0<=c1.life)(h:as3 c1 A gl p F)(w:lN (hidR labels kind items))(R:∀l,vt (tx labels)=M l->p l=u?):∃v y,tW [(c1,A),(c2,T)] ⟨c1.id,3,0⟩ (hidR labels kind items)=([(c1,v),(c2,T)],y)/\as3 c1 v gl p F:=by
 have m:m6 [(c1,A),(c2,T)] c1.id=M 0:=by simp[m6,jl]
 have j:p6 c1 A (hidR labels kind items)=(nl c1 A 0 labels kind items).map λx=>(x.1,⟨0,kJ x.1.tb,x.2,[]⟩):=by
  unfold p6;rw[B? (show(hidR labels kind items).op=1 from rfl)];rfl
 rw[qh m rfl (by show(1:I)<=1/\(1:I)<=7;decide)]
 cases q:nl c1 A 0 labels kind items with
 |error e=>rw[q]at j;exact⟨A,_,UH (by show(1:I)≠3;decide) j,h⟩
 |ok x=>
  rw[q]at j;refine⟨x.1,_,xR (T':=x.1) (by show(1:I)≠3;decide) j,?_⟩;obtain⟨z,X,L,P,c,B⟩:=wy (T2:=x.1) (ps:=x.2) h.g U.zero w.iu q;have J:=aH6 (A:=A) N h.seen;have o:∃l k,vt (tx labels)=M l/\P.tb=CL A.tb ⟨l,k,0⟩:=by
   unfold me at c;split at c
   .cases c
   split at c
   .cases c
   rename_i l d;split at c
   .rename_i C;split at c
    .split at c
     .cases c
     rename_i t a;split at c
     .cases c
     rename_i W Q f
     cases c
     refine⟨l,mF (mf A.tb l kind) items,d,?_⟩;rw[J]at a;unfold we at a;split at a
     .cases a
     rename_i H
     cases a
     have K:=P7 h.g.tb (s:=⟨l,mF (mf A.tb l kind) items,0⟩) ⟨JN d,(t7 items (vM h.g.tb (l:=l) C) w.iu).1,U.zero⟩ (by simpa using H);have D:=aM3 K;have r:=f.symm.trans (ba5 (n:=99) (b:=c1.budget) (by rw[G];show kJ (CL A.tb ⟨l,mF (mf A.tb l kind) items,0⟩)<=_;omega));injection r with r;exact C? Prod.fst r
    cases c
   cases c
  obtain⟨l,k,d,e⟩:=o;have V:=R l d;exact⟨z.g,L.trans h.gl,z.tm,by rw[B,e];exact aK5 h.seen rfl,by rw[B,e,aB8 (s:=⟨l,k,0⟩) V];exact h.flt⟩
structure aM7(c1:lO)(p:E kI->z?)(a:Cu×s9):Prop where
 x:a.1=⟨c1.id,3,0⟩
 r:∃labels kind items,a.2=hidR labels kind items/\lN (hidR labels kind items)/\∀l,vt (tx labels)=M l->p l=u?
def aC1{c1 c2:lO}{T:kM}{gl:E Gr}{p:E kI->z?}{F:E mq}(c:c1.budget=1000000)(g:0<=c1.life):∀(l:E (Cu×s9)){A:kM},as3 c1 A gl p F->(∀a∈l,aM7 c1 p a)->∃f,af4 [(c1,A),(c2,T)] l=[(c1,f),(c2,T)]/\as3 c1 f gl p F
 |[],A,h,_=>⟨A,rfl,h⟩
 |a::l,A,h,d=>by
  obtain⟨labels,kind,items,e,n,q⟩:=(d a ab).r;obtain⟨f,y,k,o⟩:=aL5 (c2:=c2) (T:=T) c g h n q;obtain⟨A2,m,j⟩:=aC1 c g l o λb c=>d b (dS _ c);refine⟨A2,?_,j⟩;rw[af4,(d a ab).x,e,k];exact m
def shR:s9:=hidR MD 1 [⟨5,0⟩,⟨9,0⟩]
def aD5:lN shR:=⟨U.zero,by show MD.size<=300;decide,by show(jf #[]).size<=300;decide,by show 2<=52;omega,λx a=>by
 simp[shR,hidR]at a;rcases a with rfl|rfl
 .exact⟨U.nat (n:=5) jS,U.zero⟩
 exact⟨U.nat (n:=9) jS,U.zero⟩,U.zero,U.zero,U.zero,by show 0<=10;omega,λx a=>by simp[shR,hidR]at a⟩
def aL6{c1 c2:lO}(A:c1.id≠c2.id)(Q:c2.id=2)(w:c1.budget=1000000)(v:0<=c1.life)(hz:sc.size<=300){H1 H2 oth:E (Cu×s9)}(G:∀a∈H1,aM7 c1 (nX sc) a)(B:∀a∈H2,aM7 c1 (nX sc) a)(R:∀a∈oth,a.1.oK≠c1.id):ac4 c1.id [(c1,newT),(c2,newT)] ([(⟨c1.id,3,0⟩,gvR 0 sc),(⟨c1.id,3,0⟩,shR)]++H1++oth)=ac4 c1.id [(c1,newT),(c2,newT)] ([(⟨c1.id,3,0⟩,gvR 0 sc),(⟨c1.id,3,0⟩,shR)]++H2++oth):=by
 obtain⟨A1,gl,V,v1,f⟩:∃A1 gl,(∀l,af4 [(c1,newT),(c2,newT)] ((⟨c1.id,3,0⟩,gvR 0 sc)::l)=af4 [(c1,A1),(c2,newT)] l)/\as3 c1 A1 gl (λ_=>u?) []/\(gl=[]\/gl=[⟨1,2,sc⟩]):=by
  have t:m6 [(c1,newT),(c2,newT)] c1.id=M 0:=by simp[m6,jl]
  have b:p6 c1 newT (gvR 0 sc)=(sy c1 newT 0 2 sc).map λx=>(x.1,⟨0,x.2,[],[]⟩):=by
   unfold p6;rw[A? (by show¬(4:I)=1;decide),A? (by show¬(4:I)=2;decide),B? (show(gvR 0 sc).op=4 from rfl)];rfl
  have p:=qh (C:=[(c1,newT),(c2,newT)]) (r:=gvR 0 sc) (c:=c1) (T:=newT) t rfl (by show(1:I)<=4/\(4:I)<=7;decide);have D:(gvR 0 sc).op≠3:=by show(4:I)≠3;decide
  cases y:sy c1 newT 0 2 sc with
  |error e=>
   rw[y]at b;rw[UH D b]at p;exact⟨newT,[],λl=>by rw[af4,p],⟨nH.new c1,rfl,rfl,λ_ h=>by simp[newT]at h,rfl⟩,r? rfl⟩
  |ok z=>
   rw[y]at b;rw[xR (T':=z.1) D b]at p;obtain⟨F,k2,d⟩:=Ux (T2:=z.1) (a:=z.2) (nH.new c1) U.zero (U.nat (n:=2) (by omega)) (by omega) y;have k:z.1.tb=[]:=k2;have f:z.1.gl=[⟨1,2,sc⟩]:=by
    unfold lW at d;split at d
    .split at d
     .cases d
     injection d with d;exact(C? (λq=>q.2.1) d).symm
    cases d
   exact⟨z.1,_,λl=>by rw[af4,p];rfl,⟨F.g,f,F.tm,λx h=>by rw[k]at h;simp at h,by rw[k];rfl⟩,s? rfl⟩
 obtain⟨A2,y2,e2,o⟩:=aL5 (c2:=c2) (T:=newT) (labels:=MD) (kind:=1) (items:=[⟨5,0⟩,⟨9,0⟩]) w v v1 aD5 λ_ _=>rfl;have m:∀H,af4 [(c1,newT),(c2,newT)] ([(⟨c1.id,3,0⟩,gvR 0 sc),(⟨c1.id,3,0⟩,shR)]++H)=af4 [(c1,A2),(c2,newT)] H:=λH=>by
  rw[dj,V,dj,af4];show af4 (tW [(c1,A1),(c2,newT)] ⟨c1.id,3,0⟩ (hidR MD 1 [⟨5,0⟩,⟨9,0⟩])).1 _=_;rw[e2];rfl
 have N:as3 c1 A2 gl (nX sc) (A2.tb.filter λx=>nX sc x.l):=⟨o.g,o.gl,o.tm,o.seen,rfl⟩;obtain⟨J,f1,L⟩:=aC1 (c2:=c2) (T:=newT) w v H1 N G;obtain⟨P,f2,K⟩:=aC1 (c2:=c2) (T:=newT) w v H2 N B;have X:∀s kind,qT J.gl c2.id J.tb s kind=qT P.gl c2.id P.tb s kind:=λs kind=>by
  rw[L.gl,K.gl];refine aF2 ?_;rcases f with rfl|rfl
  .rw[bx2.2 λ_ _=>by simp[ND],bx2.2 λ_ _=>by simp[ND]]
  have W:∀l,ND [⟨1,2,sc⟩] c2.id l=nX sc l:=λl=>by simp[ND,Q]
  simp only[W];rw[L.flt,K.flt]
 have own:∀H:E (Cu×s9),(∀a∈H,aM7 c1 (nX sc) a)->∀a∈[(⟨c1.id,3,0⟩,gvR 0 sc),(⟨c1.id,3,0⟩,shR)]++H,(a:Cu×s9).1.oK=c1.id:=λH Y a j=>by
  rcases ed.1 j with j|j
  .simp at j;rcases j with rfl|rfl<;>rfl
  rw[(Y a j).x]
 rw[aj9 (_++H1),aj9 (_++H2),am1 _ _ (own H1 G),am1 _ _ (own H2 B),m,m,f1,f2,ay6 A X oth newT R]
structure an1 where
 y:Rep
 N:w? jG
 i:O
 E:w? jG
 j:O
def aK3(m:an1):E jD:=[jJ m.y.e,jK m.y.n,jN m.N m.y.notices m.i,jN m.E m.y.entries m.j]
def ay8(m:an1):(aK3 m).length=4:=rfl
structure aH7(w:jC)(A:w? jG)(l:E an1):Prop where
 rd:Rd w w A (l.flatMap aK3)
 ok:∀m∈l,Rd w w m.N (lC m.y.notices)/\Rd w w m.E (m.y.entries.flatMap nE)
def aH7.later{A:w? jG}{l:E an1}(h:aH7 w A l)(a:Below w w w'):aH7 w' A l:=
 ⟨(Rd.below h.rd a).more a.size,λm b=>⟨(Rd.below (h.ok m b).1 a).more a.size,(Rd.below (h.ok m b).2 a).more a.size⟩⟩
def aG4(A B:w? jG)(l m:E an1)(ca cb:O)(he:l.map (·.y)=m.map (·.y))(hl:l.length<=1000)(hy:∀x∈l,x.y.notices.length<=1000/\x.y.entries.length<=1000)(w:jC)(hA:aH7 w A l)(hB:aH7 w B m):jE Tryz.prog 14 #[jN A l ca,jN B m cb] w λe w'=>e=a? (h? t?)/\Below w w w':=by
 have C:m.length=l.length:=by have:=C? ez he;simpa using this.symm
 have HA:=ah hA;have HB:=ah hB;have HY:=ah hy;have HQ:Hid (∀k(s:k<l.length)(h:k<m.length),m[k].y=l[k].y):=λk s h=>by
  have:=C? (λq:E Rep=>q[k]?) he;simp only[eD,an s,an h,jb,Option.some.injEq]at this;exact this.symm
 have SO:=ah C;rw[C];have n1:((l.length:I)!=(l.length:I))=u?:=lV;go_in;go_wp2_with fail;go_loopw[5] (λi wr=>∃k:O,i=(qaE k)/\k<=l.length/\(qaC w wr)) (λi _=>l.length-(av i).toNat)
 case atStart=>exact⟨0,rfl,be _,jQ _⟩
 obtain⟨k,rfl,hk,f⟩:=hrel;by_cases s:k<l.length
 .have d1:decide ((k:I)<l.length)=t?:=ae;have h:k<m.length:=by have:=SO.out;omega
  obtain⟨b,d,rfl,J,L⟩:=oP (n:=4) ay8 B8 HA.rd jS;obtain⟨r,c,rfl,z,t⟩:=oP (n:=4) ay8 B8 HB.rd (by have:=SO.out;omega);have hq:=HQ k s h;have i0:=(f.cell (p:=⟨b,d+k*4+0,Z⟩) J).trans (L k s 0 _ B8 rfl);have i1:=(f.cell (p:=⟨b,d+k*4+1,Z⟩) J).trans (L k s 1 _ B8 rfl);have i2:=(f.cell (p:=⟨b,d+k*4+2,Z⟩) J).trans (L k s 2 _ B8 rfl);have i3:=(f.cell (p:=⟨b,d+k*4+3,Z⟩) J).trans (L k s 3 _ B8 rfl);have V:=(f.cell (p:=⟨r,c+k*4+0,Z⟩) z).trans (t k h 0 _ B8 rfl);have j1:=(f.cell (p:=⟨r,c+k*4+1,Z⟩) z).trans (t k h 1 _ B8 rfl);have Y:=(f.cell (p:=⟨r,c+k*4+2,Z⟩) z).trans (t k h 2 _ B8 rfl);have j3:=(f.cell (p:=⟨r,c+k*4+3,Z⟩) z).trans (t k h 3 _ B8 rfl);rw[ip]at i0 V;have F:=ah (HA.ok _ (ar s));have D:=ah (HB.ok _ (ar h));have H:=ah (HY _ (ar s));rw[hq]at D V j1 Y j3;have xO:(0:I)<=k:=jS;have xN:(k:I)<l.length:=jS;generalize(m[k]'h).N=N' at*;generalize(m[k]'h).i=X at*;generalize(m[k]'h).E=E' at*;generalize(m[k]'h).j=j' at*;generalize l[k]=x at*;go_wp2;refine bi1 (S:=(λw'=>w'.cell? ⟨b,d+k*4,Z⟩=M (c? o? x.y.e)/\w'.cell? ⟨b,d+k*4+1,Z⟩=M (c? n? x.y.n)/\w'.cell? ⟨b,d+k*4+2,Z⟩=M (b? x.N x.y.notices.length x.i)/\w'.cell? ⟨b,d+k*4+3,Z⟩=M (b? x.E x.y.entries.length x.j)/\w'.cell? ⟨r,c+k*4,Z⟩=M (c? o? x.y.e)/\w'.cell? ⟨r,c+k*4+1,Z⟩=M (c? n? x.y.n)/\w'.cell? ⟨r,c+k*4+2,Z⟩=M (b? N' x.y.notices.length X)/\w'.cell? ⟨r,c+k*4+3,Z⟩=M (b? E' x.y.entries.length j'))) oo ⟨i0,i1,i2,i3,V,j1,Y,j3⟩ (λg=>?_);refine tkc g ?_;replace f:=ah f.drew;generalize wr.drew=W at*;refine pL 8 λK hK=>?_;go_simp;refine(FZ _ _ x.y (by have:=H.1;omega) (by have:=H.2;omega) W ⟨x.N,x.i,x.E,x.j,rfl,(Rd.below F.1 f).more f.size,(Rd.below F.2 f).more f.size⟩ ⟨N',X,E',j',rfl,(Rd.below D.1 f).more f.size,(Rd.below D.2 f).more f.size⟩).mono ?_;rintro e W2⟨rfl,v⟩;obtain⟨s0,s1,s2,s3,s4,s5,s6,T⟩:=g;have hz:=f.size;refine hK.out _ _ ⟨(v.cell (p:=⟨b,d+k*4,Z⟩) (by simp only;omega)).trans s0,(v.cell (p:=⟨b,d+k*4+1,Z⟩) (by simp only;omega)).trans s1,(v.cell (p:=⟨b,d+k*4+2,Z⟩) (by simp only;omega)).trans s2,(v.cell (p:=⟨b,d+k*4+3,Z⟩) (by simp only;omega)).trans s3,(v.cell (p:=⟨r,c+k*4,Z⟩) (by simp only;omega)).trans s4,(v.cell (p:=⟨r,c+k*4+1,Z⟩) (by simp only;omega)).trans s5,(v.cell (p:=⟨r,c+k*4+2,Z⟩) (by simp only;omega)).trans s6,(v.cell (p:=⟨r,c+k*4+3,Z⟩) (by simp only;omega)).trans T⟩ (λg=>?_);refine az ?_;replace f:=ah (f.trans (v.mono hz));refine tkc g ?_;refine hdn ?_;go_wp2;go_roundw
  case rel=>exact⟨k+1,CJ,jS,f⟩
  exact No
 have R:k=l.length:=jS;subst R;have d1:decide ((l.length:I)<l.length)=u?:=lV;go_wp2;go_ret;exact⟨rfl,f⟩
def Tryz.aL2:(Tryz.prog.info? 55).map (λi=>(i.zero,i.size,i.bytes))=M (M (g? #[jJ 0,jK 0,jM,jM]),4,64):=oo
variable{t:jH}{v:jD}{xs:E jD}
def aN6{B sz:O}(h:w.ownsRow B t sz v n xs)(f:Out X w w')(j:∀b,X b->b<B):w'.ownsRow B t sz v n xs:=by
 obtain⟨d,⟨h,e⟩|⟨g,cap,a,k,l,c,m⟩⟩:=h
 .exact⟨d,r? ⟨h,e⟩⟩
 exact⟨d,s? ⟨g,cap,a,k,l,(f.block g (aw.1 c).1 λe=>by have:=j _ e;omega).trans c,m⟩⟩
section
variable{w V W:jC}{ka kb:I}{bs:Bks}{C:Col}{cb:O}{G R:E O}{v v':jD}
def k9.app(h:k9 w ka kb [(cb,G),(0,R)] V [C] bs)(c:V.grownBy W v.ownBlock)(m:∀g,v.ownBlock=M g->g∈R)(y:v'.ownBlock=v.ownBlock\/v'.ownBlock=M V)(s:∀g,v'.ownBlock=M g->g<W.heap.size):∃d,k9 w ka kb [(cb,G),(0,d)] W [C] bs/\(∀g,v'.ownBlock=M g->g∈d)/\∀b,Bar [(cb,G),(0,d)] bs b->Bar [(cb,G),(0,R)] bs b\/V.heap.size<=b:=by
 have t:Out (λb=>v.ownBlock=M b) V W:=⟨c.os,c.tape,c.output,c.size,λk r p=>c.block k r λe=>p e.symm⟩;have f:∀b,b∈R->InG [(cb,G),(0,R)] b:=λb a=>⟨(0,R),lV,a⟩;have n:∀b∈G,b∉R:=λb a=>(b6.1 h.an5).1 (0,R) lV b a;have l:∀d,(∀b∈R,b∈d)->(∀b∈d,b∈R\/(b=V.heap.size/\V.heap.size<W.heap.size))->k9 w ka kb [(cb,G),(0,d)] W [C] bs/\∀b,Bar [(cb,G),(0,d)] bs b->Bar [(cb,G),(0,R)] bs b\/V.heap.size<=b:=λd T J=>by
  have B:∀b,InG [(cb,G),(0,R)] b->InG [(cb,G),(0,d)] b:=λb⟨q,j,a⟩=>by
   simp only[cw,bv9,or_false]at j;rcases j with rfl|rfl
   .exact⟨(cb,G),lV,a⟩
   exact⟨(0,d),lV,T _ a⟩
  have F:∀b,InG [(cb,G),(0,d)] b->InG [(cb,G),(0,R)] b\/(b=V.heap.size/\V.heap.size<W.heap.size):=λb⟨q,j,a⟩=>by
   simp only[cw,bv9,or_false]at j;rcases j with rfl|rfl
   .exact r? ⟨(cb,G),lV,a⟩
   exact(J b a).imp (f b) id
  have L:∀b,Bar [(cb,G),(0,d)] bs b->Bar [(cb,G),(0,R)] bs b\/V.heap.size<=b:=λb a=>a.elim (λz=>(F b z).elim (λz=>r? (r? z)) λz=>s? (by omega)) λz=>r? (s? z);have o:=h.H.wP (Y:=λb=>v.ownBlock=M b) t (λk e=>r? (f k (m k e))) (λb a e=>h.ai5 b a (f _ (m _ e)));refine⟨⟨⟨o.out.mono λk _ r=>B k r,λb a=>⟨(o.blk b a).1.imp (B _) id,(o.blk b a).2⟩,o.apart⟩,λk q C' N K=>?_,λx p z=>?_,λb a=>?_,?_⟩,L⟩
  .cases k with
   |zero=>
    cases N;cases K
    exact((h.col 0 _ C rfl rfl).wide L λg c=>r? ⟨(cb,G),lV,c⟩).out t λb a=>⟨r? (B b (f b (m b a))),λz=>n b z (m b a)⟩
   |succ k=>simp at K
  .rcases F _ z with z|z
   .exact h.ai5 x p z
   have:=(h.H.blk x p).2.lt;omega
  .have X:=t.size;rcases F b a with z|z
   .have:=h.gw b z;exact⟨this.1,jS⟩
   have:=h.H.size;exact⟨jS,jS⟩
  refine b6.2 ⟨λq j g c a=>?_,lV⟩;simp only[cw,bv9,or_false]at j;subst j;rcases J g a with z|z
  .exact n g c z
  have:=(h.gw g ⟨(cb,G),lV,c⟩).2;omega
 rcases y with e|e
 .obtain⟨A,D⟩:=l R (λ_ h=>h) (λ_ h=>r? h);exact⟨R,A,λg c=>m g (e▸c),D⟩
 have Q:=s _ e;obtain⟨A,D⟩:=l (V.heap.size::R) (λ_ h=>dS _ h) (λb a=>(cw.1 a).elim (λz=>s? ⟨z,Q⟩) r?);exact⟨_,A,λg c=>by rw[e]at c;cases c;exact di ..,D⟩
def k9.row(h:k9 w ka kb [(cb,G)] V [C] bs):k9 w ka kb [(cb,G),(0,[])] V [C] bs:=by
 have c:∀b,InG [(cb,G),(0,[])] b↔InG [(cb,G)] b:=λb=>by simp[InG]
 have a:∀b,Bar [(cb,G),(0,[])] bs b↔Bar [(cb,G)] bs b:=λb=>by unfold Bar;rw[c]
 refine⟨⟨h.H.out.mono λk _ j=>(c k).2 j,λb a=>⟨(h.H.blk b a).1.imp (c _).2 id,(h.H.blk b a).2⟩,h.H.apart⟩,λk q C' l d=>?_,λx m z=>h.ai5 x m ((c _).1 z),λb a=>h.gw b ((c b).1 a),b6.2 ⟨λq f g e a=>by simp at f;subst f;simp at a,lV⟩⟩
 cases k with
 |zero=>
  cases l;cases d
  exact(h.col 0 _ C rfl rfl).wide (λb z=>r? ((a b).1 z)) λg e=>r? ⟨(cb,G),lV,e⟩
 |succ k=>simp at d
end
structure ah3(w wr:jC)(ka kb:I)(L:Lay)(G:E O)(V:jC)(E9:E Col)(bs:Bks)(v:w? (jD×Rep)):Prop where
 st:k9 w ka kb L V E9 bs
 out:Out (·∈G) wr V
 nb:∀x∈bs,wr.heap.size<=x.1
 rep:∀q,v=M q->IQ (Bar L bs) V q.1 q.2
section
variable{w wr V W:jC}{ka kb:I}{bs:Bks}{C C':Col}{E9:E Col}{cb:O}{G R:E O}{v:w? (jD×Rep)}{L:Lay}{P:bi3}{a:gG}
def ah3.drew(h:ah3 w wr ka kb L G V E9 bs v):ah3 w wr ka kb L G V.drew E9 bs v:=⟨h.st.drew,h.out.drew,h.nb,λq e=>by
 obtain⟨N,i,d,j,c,b,a⟩:=(h.rep q e).at_;exact⟨N,i,d,j,c,b.later (Below.refl _ V).drew,a.later (Below.refl _ V).drew⟩⟩
def ah3.alloc(h:ah3 w wr ka kb L G V E9 bs v)(t:jH)(cs:E jD):ah3 w wr ka kb L G (V.alloc (m? cs.toArray t)) E9 ((V,t,cs)::bs) v:=
 ⟨h.st.alloc _ t cs rfl,h.out.alloc _,λx a=>(cw.1 a).elim (λe=>by rw[e];exact h.out.size) (h.nb x),λq e=>by
  obtain⟨N,i,l,j,g,k,c⟩:=(h.rep q e).at_;have f:∀{A:w? jG}{xs:E jD},pO (Bar L bs) V A xs->pO (Bar L ((V,t,cs)::bs)) (V.alloc (m? cs.toArray t)) A xs:=λz=>(z.wide λb d=>d.elim (λz=>r? (r? z)) λ⟨x,a,e⟩=>(cw.1 a).elim (λz=>s? (by rw[z]at e;simp only at e;omega)) λz=>r? (s? ⟨x,z,e⟩)).later (jP (jQ V) _);exact⟨N,i,l,j,g,f k,f c⟩⟩
def ah3.all(h:ah3 w wr ka kb L G V E9 bs v)(k:O)(vs:E Value){g:O}{t:TypeId}{cs:E Value}(e:bs[k]? =M (g,t,cs):=by rfl)(s:vs.length=cs.length:=by rfl):ah3 w wr ka kb L G (lp V g 0 vs) E9 (bs.set k (g,t,vs)) v:=by
 have l:=Out.lp (X:=(·=g)) (g:=g) (r? rfl) vs 0 (Out.refl _ V);have m:=cm e;refine⟨h.st.all k vs e s,h.out.then_ l (λb a=>s? (by have:=h.nb _ m;rw[a];exact this)),λx B=>?_,λq r=>?_⟩
 .obtain⟨y,F,c⟩:=aq1 (b:=x.1) e ⟨x,B,rfl⟩;rw[<-c];exact h.nb y F
 obtain⟨N,i,J,j,p,D,o⟩:=(h.rep q r).at_;have f:∀{A:w? jG}{xs:E jD},pO (Bar L bs) V A xs->pO (Bar L (bs.set k (g,t,vs))) (lp V g 0 vs) A xs:=λz=>
  have d:=z.out (l.mono λb _ a=>s? ⟨_,m,a.symm⟩)
  ⟨d.rd,λn C H a=>d.x n C H (a.imp id (aq1 e))⟩
 exact⟨N,i,J,j,p,f D,f o⟩
def bf0(h:ah3 w wr ka kb L G V E9 bs Z)(l:L[k]? =M (cb,G))(d:E9[k]? =M C)(g:nR C)(s:C.length<=100)(o:lN m.r)(t:4<=w.heap.size)(B:Tb w)(p:Er w)(c:ReqOk w w m)(f:tW C x m.r=(C',y)):jE Tryz.prog 16 #[jO cb,g? (Ij x).toArray,g? (uD m).toArray] V λe W=>∃N i D j,e=a? (g? #[jJ y.e,jK y.n,jN N y.notices i,jN D y.entries j])/\ah3 w wr ka kb L G W (E9.set k C') bs (M (g? #[jJ y.e,jK y.n,jN N y.notices i,jN D y.entries j],y)):=by
 refine(bf4 h.st l d g s o t B p (h.st.req c) f).mono ?_;rintro e W⟨A,a,v,rfl,⟨N,i,D,j,rfl,z,b⟩⟩;exact⟨N,i,D,j,rfl,A,h.out.trans a,h.nb,λq e=>by cases e;exact⟨N,i,D,j,rfl,z,b⟩⟩
variable{md:fD}{fuel:O}{l:x? z?}
def aS4{S:jC->Prop}(h:ah3 w wr ka kb L G V E9 bs v)(k:∀W,Hid (ah3 w wr ka kb L G W E9 bs v)->wpAnyH P md ops Q S fuel l a W):wpAnyH P md ops Q S fuel l a V:=k V (ah h)
end
instance(x0:Rep)(x1:w? jG)(x2:O)(x3:w? jG)(x4:O):CoeOut (Yi 903 x0 x1 x2 x3 x4) (x? jD):=⟨λ_=>#[jJ x0.e,jK x0.n,jN x1 x0.notices x2,jN x3 x0.entries x4]⟩
instance(x0:jC)(x1:ActM):CoeOut (wU 906 x0 x1) Prop:=⟨λ_=>ReqOk x0 x0 x1.m/\lN x1.m.r⟩
instance(x0:jC)(x1:ActM):CoeSort (wU 906 x0 x1) Prop:=⟨λ_=>ReqOk x0 x0 x1.m/\lN x1.m.r⟩
def ah5(a:ActM):Cu×s9:=(a.x,a.m.r)
def aC2:∀(l:E (Cu×s9)){C:Col},nR C->(∀a∈l,lN a.2)->nR (af4 C l)/\(af4 C l).length=C.length
 |[],_,h,_=>⟨h,rfl⟩
 |a::l,C,h,c=>by
  have g:=Ia (x:=a.1) h (c a ab);have e:=ER (x:=a.1) h (c a ab);have d:=aC2 l g.1 λb f=>c b (dS _ f);exact⟨d.1,d.2.trans e⟩
def aM8(w:jC)(R:E Rep)(e:bi6)(w':jC):Prop:=Below w w w'/\∃A c a,e=a? (d? #[jN A a c,h? t?])/\a.map (·.y)=R/\aH7 w' A a/\∀m∈a,m.y.notices.length<=100/\m.y.entries.length<=30
def au4(ka kb al2 an2:Int)(ω:0<=al2/\al2<=1000000)(hli:U an2)(LA A:Option jG)(l:List ActM)(lc cap:Nat)(hn:l.length<=200)(w:jC)(hL:Rd w w LA ((m9 al2 an2).flatMap OA))(hA:Rd w w A (l.flatMap xY))(hM:∀a∈l,lI 906 w a)(hT:Tb w)(hE:Er w)(hw:4<=w.heap.size):jE Tryz.prog 12 #[.agg #[jK ka,jK kb],.slice LA 2 lc,jN A l cap,jK 1] w (aM8 w (ac4 1 (lE ka kb (m9 al2 an2)) (l.map ah5))):=by
 obtain⟨t0,Θ,tz0,tz1,tz2⟩:=bi5 Tryz.aL2;have HA:=ah hA;have HM:=ah hM;have HT:=ah hT;have HE:=ah hE;have HLX:=ah hL;have S:=ah ((k9.nil (ka:=ka) (kb:=kb) (kj.nil (InG []) w)).alloc w 24 [jK ka,jK kb]);have x:=fk (S.out.H.facts);go_in;go_wp2_with fail;have δ:=jP (jQ w) (.cells #[jK ka,jK kb] 24);refine(Ds ka kb _ (m9 al2 an2) lc (by simp[m9]) (by simp[m9]) (vR _ _) (λx V=>by simp[m9]at V;rcases V with rfl|rfl<;>exact ω) (zL _ _) _ (by have:=δ.size;omega) ((Rd.below HLX δ).more δ.size)).mono ?_;rintro e W⟨C,cb,G,rfl,sZ,hG⟩;have Tg:Hid (∀b,b∈G->b<W.heap.size):=λb hb'=>(sZ (·∈G) (λb z=>.inl z) λg z=>z).XJ hb';have hWs:Hid (w.heap.size<=W.heap.size):=by have:=δ.size;have:=C.size;show _<=_;omega
 have g0:nR (lE ka kb (m9 al2 an2)):=nR.new (vR _ _) (λx V=>by simp[m9]at V;rcases V with rfl|rfl<;>exact ω) (λx V=>⟨zL _ _ x V,by simp[m9]at V;rcases V with rfl|rfl<;>exact hli⟩);have μ:Hid (nR (lE ka kb (m9 al2 an2))/\((lE ka kb (m9 al2 an2))).length=2):=⟨g0,rfl⟩;replace S:=ah (S.bm3 C sZ hG).tail.row;have BH:Hid (∀k,∀a∈(l.map ah5).take k,lN a.2):=λk a ha=>by
  obtain⟨a1,Ξ,rfl⟩:=dq.1 (dy ha);exact(HM a1 Ξ).2
 generalize(lE ka kb (m9 al2 an2))=C0 at*;go_wp2_with fail;go_loopw[12,13] (λv iv wr=>∃(k:Nat)(A2:Option jG)(c2:Nat)(R:List Nat)(F:List an1),iv=(qaE k)/\v=.slice A2 F.length c2/\k<=l.length/\F.length<=k/\Hid (k9 w ka kb [(cb,G),(0,R)] wr [af4 C0 ((l.map ah5).take k)] [])/\Hid (wr.ownsRow W 55 4 (.slice A2 F.length c2) F.length (F.flatMap aK3))/\Hid (∀g,(eo A2 F.length c2).ownBlock=some g->g∈R)/\Hid (F.map (·.y)=ac4 1 C0 ((l.map ah5).take k))/\Hid (∀m∈F,(pO (Bar [(cb,G),(0,R)] []) wr m.N (lC m.y.notices)/\pO (Bar [(cb,G),(0,R)] []) wr m.E (m.y.entries.flatMap nE))/\m.y.notices.length<=100/\m.y.entries.length<=30)/\Hid (W.heap.size<=wr.heap.size)) (λ_ iv _=>l.length-(av iv).toNat)
 case atStart=>exact⟨0,none,0,[],[],rfl,rfl,be _,be _,S,dY _ _ _ _,λg h=>by simp[gy]at h,rfl,λm h=>WY,ay _⟩
 obtain⟨k,A2,c2,R,F,rfl,rfl,hk,hrk,S,HO,ρ,η,ε,θ⟩:=hrel;by_cases L:k<l.length
 .have d1:decide ((k:Int)<l.length)=true:=ae;obtain⟨b,c,rfl,C,Y⟩:=oP (n:=13) Bt B8 HA jS;have JS:Hid (∀W,Below w w W->W.cell? ⟨b,c+k*13,none⟩=some (.int .u64 l[k].x.oK)/\W.cell? ⟨b,c+k*13+1,none⟩=some (.int .i64 l[k].x.role)/\W.cell? ⟨b,c+k*13+2,none⟩=some (.int .u64 l[k].x.YR)/\W.cell? ⟨b,c+k*13+3,none⟩=some (.int .i64 l[k].m.r.op)/\W.cell? ⟨b,c+k*13+4,none⟩=some (.int .u64 l[k].m.r.now)/\W.cell? ⟨b,c+k*13+5,none⟩=some (.string l[k].m.r.labels)/\W.cell? ⟨b,c+k*13+6,none⟩=some (.string l[k].m.r.scope)/\W.cell? ⟨b,c+k*13+7,none⟩=some (.int .i64 l[k].m.r.kind)/\W.cell? ⟨b,c+k*13+8,none⟩=some (.slice l[k].m.ia l[k].m.r.items.length l[k].m.ic)/\W.cell? ⟨b,c+k*13+9,none⟩=some (.int .u64 l[k].m.r.h)/\W.cell? ⟨b,c+k*13+10,none⟩=some (.int .u64 l[k].m.r.to)/\W.cell? ⟨b,c+k*13+11,none⟩=some (.int .u64 l[k].m.r.id)/\W.cell? ⟨b,c+k*13+12,none⟩=some (.slice l[k].m.ta l[k].m.r.jV.length l[k].m.tc)):=λW X=>⟨(X.cell (p:=⟨b,c+k*13+0,none⟩) C).trans (Y k L 0 _ B8 rfl),(X.cell (p:=⟨b,c+k*13+1,none⟩) C).trans (Y k L 1 _ B8 rfl),(X.cell (p:=⟨b,c+k*13+2,none⟩) C).trans (Y k L 2 _ B8 rfl),(X.cell (p:=⟨b,c+k*13+3,none⟩) C).trans (Y k L 3 _ B8 rfl),(X.cell (p:=⟨b,c+k*13+4,none⟩) C).trans (Y k L 4 _ B8 rfl),(X.cell (p:=⟨b,c+k*13+5,none⟩) C).trans (Y k L 5 _ B8 rfl),(X.cell (p:=⟨b,c+k*13+6,none⟩) C).trans (Y k L 6 _ B8 rfl),(X.cell (p:=⟨b,c+k*13+7,none⟩) C).trans (Y k L 7 _ B8 rfl),(X.cell (p:=⟨b,c+k*13+8,none⟩) C).trans (Y k L 8 _ B8 rfl),(X.cell (p:=⟨b,c+k*13+9,none⟩) C).trans (Y k L 9 _ B8 rfl),(X.cell (p:=⟨b,c+k*13+10,none⟩) C).trans (Y k L 10 _ B8 rfl),(X.cell (p:=⟨b,c+k*13+11,none⟩) C).trans (Y k L 11 _ B8 rfl),(X.cell (p:=⟨b,c+k*13+12,none⟩) C).trans (Y k L 12 _ B8 rfl)⟩;have ν:=ah (HM _ (ar L));have yZ:Hid (nR (af4 C0 ((l.map ah5).take k))/\(af4 C0 ((l.map ah5).take k)).length<=100):=⟨(aC2 _ μ.1 (BH k)).1,by rw[(aC2 _ μ.1 (BH k)).2,μ.2];decide⟩;have Fi:Hid ((l.map ah5).take (k+1)=(l.map ah5).take k++[ah5 l[k]]):=by
   have:=aj (l:=l.map ah5) (i:=k) (by simpa using L);rw[gD]at this;exact this
  have xO:(0:Int)<=k:=jS;have xN:(k:Int)<l.length:=jS;have hbw:b<wr.heap.size:=by have:=S.below.size;omega
  generalize l[k]=s at*
  obtain⟨C9,y,hd⟩:∃C9 y,tW (af4 C0 ((l.map ah5).take k)) s.x s.m.r=(C9,y):=⟨_,_,rfl⟩;have HD:=ah hd;have Γ:Hid (af4 C0 ((l.map ah5).take (k+1))=C9):=by
   show _=_;rw[Fi,az6];show(tW _ s.x s.m.r).1=_;rw[hd]
  have ψ:Hid (ac4 1 C0 ((l.map ah5).take (k+1))=ac4 1 C0 ((l.map ah5).take k)++(if s.x.oK=1 then[]else[y])):=by
   show _=_;rw[Fi,aj9];show _++((if s.x.oK=1 then[]else[(tW _ s.x s.m.r).2])++[])=_;rw[hd,eB]
  have IY:=ah (ba7 yZ.1 ν.2 hd);generalize af4 C0 ((l.map ah5).take k)=be8 at*
  obtain⟨i0,i1,i2,i3,i4,i5,i6,i7,i8,i9,i10,i11,i12⟩:=JS _ S.below;go_wp2_with fail;have d:Hid (ah3 w wr ka kb [(cb,G),(0,R)] G wr [be8] [] none):=⟨S,Out.refl _ _,λx h=>qch,λq e=>LS⟩;refine D6 (λa a' W'=>∃g N i E j,a'=(((((((((((((a.put (some 31) (.pointer (some ⟨cb,0,none⟩))).put (some 32) (.slice (some ⟨b,c,none⟩) l.length cap)).put (some 33) (qaE k)).put (some 34) (.pointer (some ⟨b,c+k*13,none⟩))).put (some 35) (.pointer (some ⟨b,c+k*13,none⟩))).put (some 36) (.agg #[jK s.x.oK,jJ s.x.role,jK s.x.YR])).put (some 37) (.slice (some ⟨b,c,none⟩) l.length cap)).put (some 38) (qaE k)).put (some 39) (.pointer (some ⟨b,c+k*13,none⟩))).put (some 40) (.pointer (some ⟨b,c+k*13+3,none⟩))).put (some 41) (.agg (bd7 s.m))).put (some 42) (.agg (Fg 903 y N i E j))).put (some 14) (.pointer (some ⟨g,0,none⟩)))/\ah3 w wr ka kb [(cb,G),(0,R)] G W' [C9] [(g,55,(aP6 y N i E j))] (some (.agg (Fg 903 y N i E j),y))) ?bd6 ?bd5
  case bd6=>
   refine bi1 (S:=(λw'=>w'.cell? ⟨b,c+k*13,none⟩=some (.int .u64 s.x.oK)/\w'.cell? ⟨b,c+k*13+1,none⟩=some (.int .i64 s.x.role)/\w'.cell? ⟨b,c+k*13+2,none⟩=some (.int .u64 s.x.YR)/\w'.cell? ⟨b,c+k*13+3,none⟩=some (.int .i64 s.m.r.op)/\w'.cell? ⟨b,c+k*13+4,none⟩=some (.int .u64 s.m.r.now)/\w'.cell? ⟨b,c+k*13+5,none⟩=some (.string s.m.r.labels)/\w'.cell? ⟨b,c+k*13+6,none⟩=some (.string s.m.r.scope)/\w'.cell? ⟨b,c+k*13+7,none⟩=some (.int .i64 s.m.r.kind)/\w'.cell? ⟨b,c+k*13+8,none⟩=some (.slice s.m.ia s.m.r.items.length s.m.ic)/\w'.cell? ⟨b,c+k*13+9,none⟩=some (.int .u64 s.m.r.h)/\w'.cell? ⟨b,c+k*13+10,none⟩=some (.int .u64 s.m.r.to)/\w'.cell? ⟨b,c+k*13+11,none⟩=some (.int .u64 s.m.r.id)/\w'.cell? ⟨b,c+k*13+12,none⟩=some (.slice s.m.ta s.m.r.jV.length s.m.tc))) oo (JS _ d.st.drew.below) (λD=>?_);refine tkc D ?_;replace d:=ah d.drew;generalize hV0:wr.drew=V0 at d⊢;repeat' first
    |((with_reducible change wpAnyH _ _ _ _ _ _ _ _ _);first
     |refine rq2 11 12 (λK hK=>?_) (λK hK=>?_)
     |refine rq1 11 (λK hK=>?_)
     |refine rq1 12 (λK hK=>?_)
     |refine rq1 13 (λK hK=>?_)
     |(refine hdn ?_;exact AH ⟨_,N,i,E,j,by simp only[gL,bd,ak,am],d⟩))
    |(go_simp;(with_reducible change jE _ _ _ _ _);(refine(bf0 (x:=s.x) (m:=s.m) (k:=0) d rfl rfl yZ.1 yZ.2 ν.2 hw HT HE ν.1 HD).mono ?_;rintro e V2⟨N,i,E,j,rfl,hs⟩;simp only[ak]at hs;replace d:=ah hs;clear hs;refine hK.out _ _ (JS _ d.st.below) (λD=>?_);clear hK K;(try simp only[gL,eK,ej,dQ,bd,ak,am])))
    |(go_simp;replace d:=ah (d.alloc 55 bd2);refine hK.out _ _ (JS _ d.st.below) (λD=>?_);clear hK K;(try simp only[gL,eK,ej,dQ,bd,ak,am]);clear D;refine aS4 d (λV3 hS=>?_);clear d;have d:=hS;clear hS)
    |(have x:=fk d.st.H.facts;go_simp;clear x;replace d:=ah (d.all 0 (aP6 y N i E j));refine hK.out _ _ (JS _ d.st.below) (λD=>?_);clear hK K;(try simp only[gL,eK,ej,dQ,bd,ak,am]))
  rintro a' W2⟨g,N,i,E,j,rfl,hs⟩;have O9:=ah hs;have x:=fk O9.st.H.facts;obtain⟨i0,i1,i2,i3,i4,i5,i6,i7,i8,i9,i10,i11,i12⟩:=JS _ O9.st.below;have xd:=ah (aN6 HO O9.out.out Tg);have hz2:=O9.out.out.size;simp only[gL,bd,ak,am];have γ:Hid (∀m∈F,(pO (Bar [(cb,G),(0,R)] []) W2 m.N (lC m.y.notices)/\pO (Bar [(cb,G),(0,R)] []) W2 m.E (m.y.entries.flatMap nE))/\m.y.notices.length<=100/\m.y.entries.length<=30):=λm T=>by
   have h:=ε m T;have ho:Out (Bar [(cb,G),(0,R)] []) wr W2:=O9.out.out.mono λb _ C=>.inl ⟨(cb,G),di ..,C⟩;exact⟨⟨h.1.1.out ho,h.1.2.out ho⟩,h.2⟩
  by_cases h4:s.x.oK=1
  .have d4:(s.x.oK !=1)=false:=by simp[h4]
   have J:=ψ;rw[if_pos h4,eB,<-η]at J;replace J:=ah J;have ξ:=ah O9.st.tail;go_wp2;go_roundw
   case rel=>
    refine⟨k+1,A2,c2,R,F,CJ,rfl,jS,jS,?_,xd,ρ,J.symm,γ,by have:=θ.out;show _<=_;omega⟩;show k9 _ _ _ _ _ _ _;rw[Γ];exact ξ
   exact No
  have d4:(s.x.oK !=1)=true:=by simp[h4]
  have J:=ψ;rw[if_neg h4,<-η]at J;replace J:=ah J;have κ:=jP (jQ W2) (.cells ((Fg 903 y N i E j):Array jD) 55);have w_:=ah (xd.alloc (.cells (Fg 903 y N i E j) 55));have ξ:=ah (O9.st.tail.al (.cells (Fg 903 y N i E j) 55));have hNB:=jR.new W2 55 (Fg 903 y N i E j);go_wp2_with(at_builtin;refine Stop.i ?_);unfold Stop;refine kr _ rfl (.tmp 51) (.tmp 53) 41 rfl W 55 t0 _ 4 64 Tryz.underlying41 Θ tz0 tz1 tz2 rfl B8 (.slice A2 F.length c2) F.length _ rfl w_ _ _ 1 1 [jJ y.e,jK y.n,jN N y.notices i,jN E y.entries j] rfl rfl (tY hNB) (λu hu=>by simp at hu;rcases hu with rfl|rfl|rfl|rfl<;>rfl) O0 jS (by have:=θ.out;have:=κ.size;omega) ?_;intro v' W9 α t hv;obtain⟨A9,c9,rfl,-,-,-⟩:=li α;obtain⟨β,hs9,hr9,χ⟩:=ξ.app t ρ hv (λg hg=>(pf α g hg).2);have hNR:=(O9.rep _ rfl).at_;obtain⟨N',i',E',j',hq,Δ,hq2⟩:=hNR
  cases hq
  have bn1:Hid (∀m∈F++[(⟨y,N,i,E,j⟩:an1)],(pO (Bar [(cb,G),(0,β)] []) W9 m.N (lC m.y.notices)/\pO (Bar [(cb,G),(0,β)] []) W9 m.E (m.y.entries.flatMap nE))/\m.y.notices.length<=100/\m.y.entries.length<=30):=λm T=>by
   have hg9:Out (Bar [(cb,G),(0,R)] []) (W2.alloc (.cells (Fg 903 y N i E j) 55)) W9:=⟨t.os,t.tape,t.output,t.size,λk hk V=>t.block k hk λe=>V (.inl ⟨(0,R),lV,ρ k e.symm⟩)⟩;have f:∀{A:Option jG}{xs:List jD},pO (Bar [(cb,G),(0,R)] []) W2 A xs->pO (Bar [(cb,G),(0,β)] []) W9 A xs:=λz=>
    have z2:=(z.later κ)
    ⟨(z2.out hg9).rd,λhn ad ea C=>(χ _ C).elim (z2.x hn ad ea) λq=>by have:=z2.lt hn ad ea;omega⟩
   rcases ed.1 T with T|T
   .exact⟨⟨f (γ m T).1.1,f (γ m T).1.2⟩,(γ m T).2⟩
   simp at T;subst T;exact⟨⟨f (Δ.wide λb C=>.inl (C.imp id λ⟨x,V,_⟩=>(by cases V))),f (hq2.wide λb C=>.inl (C.imp id λ⟨x,V,_⟩=>(by cases V)))⟩,IY⟩
  have SM:Hid (W9.ownsRow W 55 4 (.slice A9 (F++[(⟨y,N,i,E,j⟩:an1)]).length c9) (F++[(⟨y,N,i,E,j⟩:an1)]).length ((F++[(⟨y,N,i,E,j⟩:an1)]).flatMap aK3)):=by
   show gX _ _ _ _ _ _ _;rw[cd];simpa[eZ,aK3]using α
  have HR9:Hid ((F++[(⟨y,N,i,E,j⟩:an1)]).map (·.y)=ac4 1 C0 ((l.map ah5).take (k+1))):=by
   show _=_;rw[dH,J];rfl
  have Ψ:=ah hs9;have EC:=t.size;have Ω:Hid (∀g,(eo A9 (F++[(⟨y,N,i,E,j⟩:an1)]).length c9).ownBlock=some g->g∈β):=λg hg=>hr9 g (by simpa[gy]using hg);go_wp2;go_roundw
  case rel=>
   refine⟨k+1,A9,c9,β,F++[(⟨y,N,i,E,j⟩:an1)],CJ,lV,jS,mO,?_,SM,Ω,HR9,bn1,by have:=θ.out;have:=κ.size;show _<=_;omega⟩;show k9 _ _ _ _ _ _ _;rw[Γ];exact Ψ
  exact No
 have hkk:k=l.length:=jS;subst hkk;have d1:decide ((l.length:Int)<l.length)=false:=lV;rw[cl lV]at η;go_wp2;refine jF (v:=.tuple #[jN A2 F c2,.bool true]) (by simp[results,Tryz.results12,go_sem]) rfl ?_;exact⟨S.below,A2,c2,F,rfl,η,⟨Rd.own HO,λm T=>⟨(ε m T).1.1.rd,(ε m T).1.2.rd⟩⟩,λm T=>(ε m T).2⟩
instance(x0:ActM):CoeOut (sH 904 x0) ReqM:=⟨λ_=>⟨hidR x0.m.r.labels x0.m.r.kind x0.m.r.items,x0.m.ia,x0.m.ic,Z,0⟩⟩
variable{md:fD}{fuel:O}{l:x? z?}
def tke{S:jC->Prop}{q:Prop}(b:S w)(h:q)(e:S w->q->wpAnyH P md ops Q S fuel l a w:=by
 (
  intro hs hq
  (try refine tk3 11 hs ?_);(try refine tk3 12 hs ?_);(try refine tk3 13 hs ?_);(try refine tk3 14 hs ?_);(try refine tk3 15 hs ?_);(try refine tk3 16 hs ?_);(try refine tk3 17 hs ?_);(try refine tk3 18 hs ?_);(try refine tk3 19 hs ?_);(try refine tk3 20 hs ?_);(try refine tk3 21 hs ?_);(try refine tk3 24 hs ?_)
  exact hq)):wpAnyH P md ops Q S fuel l a w:=e b h
structure aM6(sc:v?)(w:jC)(a:ActM):Prop where
 x:a.x=⟨1,3,0⟩
 m:∃labels kind items ia ic,a.m=⟨hidR labels kind items,ia,ic,Z,0⟩/\∀l,vt (tx labels)=M l->nX sc l=u?
 ok:ReqOk w w a.m
 fit:lN a.m.r
def bb6(d w:jC)(sc:v?)(n:O)(e:bi6)(w':jC):Prop:=Below w w w'/\∃(A:w? jG)(c:O)(b:E ActM),e=a? (b? A b.length c)/\b.length<=n/\Rd w' w' A (b.flatMap xY)/\∀a∈b,aM6 sc d a
def az3(A:w? jG)(l:E ActM)(cap:O)(sc:v?)(hl:l.length<=100)(hz:sc.size<=300)(B w:jC)(hA:Rd w w A (l.flatMap xY))(hM:∀a∈l,lI 906 B a)(hT:Tb w):jE Tryz.prog 11 #[jN A l cap,jL sc] w (bb6 B w sc l.length):=by
 obtain⟨t0,ε,ω,χ,θ⟩:=bi5 Tryz.Rc;have HA:=ah hA;have HM:=ah hM;have HT:=ah hT;go_in;go_wp2_with fail;go_loopw[5,6] (λv iv wr=>∃(k:O)(A2:w? jG)(c2:O)(hs:E ActM),iv=(qaE k)/\v=b? A2 hs.length c2/\k<=l.length/\hs.length<=k/\Hid (wr.ownsRow w 37 13 (b? A2 hs.length c2) hs.length (hs.flatMap xY))/\(qaC w wr)/\Hid (∀a∈hs,aM6 sc B a)) (λ_ iv _=>l.length-(av iv).toNat)
 case atStart=>exact⟨0,Z,0,[],rfl,rfl,be _,be _,dY _ _ _ _,jQ _,λa h=>qch⟩
 obtain⟨k,A2,c2,hs,rfl,rfl,hk,ρ,HO,HB,J⟩:=hrel;by_cases h1:k<l.length
 .have d1:decide ((k:I)<l.length)=t?:=ae;obtain⟨b,f,rfl,hb,hc⟩:=oP (n:=13) Bt B8 HA jS;have JS:Hid (∀W,Below w w W->W.cell? ⟨b,f+k*13+5,Z⟩=M (f? l[k].m.r.labels)/\W.cell? ⟨b,f+k*13+7,Z⟩=M (c? o? l[k].m.r.kind)/\W.cell? ⟨b,f+k*13+8,Z⟩=M (b? l[k].m.ia l[k].m.r.items.length l[k].m.ic)):=λW hW=>⟨(hW.cell (p:=⟨b,f+k*13+5,Z⟩) hb).trans (hc k h1 5 _ B8 rfl),(hW.cell (p:=⟨b,f+k*13+7,Z⟩) hb).trans (hc k h1 7 _ B8 rfl),(hW.cell (p:=⟨b,f+k*13+8,Z⟩) hb).trans (hc k h1 8 _ B8 rfl)⟩;have g:=ah (HM _ (ar h1));have xO:(0:I)<=k:=jS;have xN:(k:I)<l.length:=jS;have Ψ:=hb;have Δ:b<wr.heap.size:=qes;generalize l[k]=c at*;obtain⟨i0,i1,i2⟩:=JS _ HB;go_wp2_with fail;refine(aB3 _ g.2.labels wr).mono ?_;rintro e W1⟨R,LA,ls,lc,er,rfl,δ,ψ,φ,κ⟩;have β:=HB.trans (R.mono HB.size);have xe:=ah (lf HO R);have Wu:=ah δ;have α:=ah φ;have D:=ah κ;go_wp2_with fail;refine(aB4 sc LA ls lc W1 hz Wu ψ α).mono ?_;rintro e W2⟨H,is,fr,rfl,μ⟩;have j:=β.trans (H.mono β.size);have xd:=ah (lf xe H);have G:=ah μ;have Θ:=j.size;by_cases q:er=0/\fr=0/\is=u?
  .obtain⟨rfl,rfl,rfl⟩:=q;have η:Hid (∀l,vt (tx c.m.r.labels)=M l->nX sc l=u?):=λl hp=>by
    have e:=D rfl l hp;subst e;exact G rfl rfl
   obtain⟨i0,i1,i2⟩:=JS _ j;go_wp2;refine bi1 (S:=(λw'=>w'.cell? ⟨b,f+k*13+5,Z⟩=M (f? c.m.r.labels)/\w'.cell? ⟨b,f+k*13+7,Z⟩=M (c? o? c.m.r.kind)/\w'.cell? ⟨b,f+k*13+8,Z⟩=M (b? c.m.ia c.m.r.items.length c.m.ic))) oo ⟨i0,i1,i2⟩ (λd=>?_);refine tkc d ?_;refine tke d ?_;have T:=ah j.drew;have w_:=ah (lf xd (Below.refl _ W2).drew);generalize W2.drew=W3 at*
   refine pL 1 λK Y=>?_;go_simp;refine(nK _ _).mono ?_;rintro e C⟨rfl,L⟩;have s:=T.trans (L.mono T.size);have IS:=ah (lf w_ L);refine Y.out _ _ (JS _ s) (λd=>?_);refine az ?_;refine tke d ?_;refine pL 22 λK Y=>?_;go_simp;have V:=jP (jQ C) (m? #[jK 1,jJ 3,jK 0,jJ 1,jK 0,jL c.m.r.labels,qaA,jJ c.m.r.kind,jN c.m.ia c.m.r.items c.m.ic,jK 0,jK 0,jK 0,jM] 37);have ν:=ah (jR.new C 37 #[jK 1,jJ 3,jK 0,jJ 1,jK 0,jL c.m.r.labels,qaA,jJ c.m.r.kind,jN c.m.ia c.m.r.items c.m.ic,jK 0,jK 0,jK 0,jM]);have y_:=ah (s.trans (V.mono s.size));have BC:=ah (lf IS V);have Ξ:(C.alloc (m? #[jK 1,jJ 3,jK 0,jJ 1,jK 0,jL c.m.r.labels,qaA,jJ c.m.r.kind,jN c.m.ia c.m.r.items c.m.ic,jK 0,jK 0,jK 0,jM] 37)).heap.size=C.heap.size+1:=lV;generalize C.alloc (m? #[jK 1,jJ 3,jK 0,jJ 1,jK 0,jL c.m.r.labels,qaA,jJ c.m.r.kind,jN c.m.ia c.m.r.items c.m.ic,jK 0,jK 0,jK 0,jM] 37)=W5 at*
   refine Y.out _ _ (JS _ y_) (λd=>?_);refine az ?_;refine pL 23 λK Y=>?_;have Γ:=y_.size;refine ti rfl (.tmp 42) (.tmp 64) 25 rfl w 37 t0 _ 13 152 Tryz.underlying25 ε ω χ θ rfl B8 (b? A2 hs.length c2) hs.length _ rfl BC W5 (M ⟨C,0,Z⟩) 1 1 [jK 1,jJ 3,jK 0,jJ 1,jK 0,jL c.m.r.labels,qaA,jJ c.m.r.kind,jN c.m.ia c.m.r.items c.m.ic,jK 0,jK 0,jK 0,jM] rfl lV (tY ν) (Sy ⟨⟨1,3,0⟩,(lz 904 c)⟩) O0 jS jS ?_;intro A3 c3 Ω N t hv;have ξ:=ah N;have F:=y_.grown t y_.size (λr e=>(pf BC r e).1);refine Y.out _ _ (JS _ F) (λd=>?_);refine az ?_;refine tke d ?_;refine hdn ?_;have HI:Hid (aM6 sc B ⟨⟨1,3,0⟩,(lz 904 c)⟩):=⟨rfl,⟨_,_,_,_,_,rfl,η⟩,show ReqOk B B (lz 904 c)from⟨g.1.i,Rd.none_,g.1.ic,ay 0⟩,⟨U.zero,g.2.labels,by show(jf #[]).size<=300;decide,g.2.items,g.2.iu,U.zero,U.zero,U.zero,by show 0<=10;omega,λx hx=>by simp[hidR]at hx⟩⟩;go_wp2;go_roundw
   case rel=>
    refine⟨k+1,A3,c3,hs++[(⟨⟨1,3,0⟩,(lz 904 c)⟩:ActM)],CJ,lV,jS,mO,?_,F,λa z=>?_⟩
    .show gX _ _ _ _ _ _ _;rw[cd,eZ];exact ξ
    rcases ed.1 z with z|z
    .exact J a z
    simp at z;rw[z];exact HI
   exact No
  clear D G Wu α;by_cases he:er=0
  .have b0:(er !=0)=u?:=by simp[he]
   by_cases hf:fr=0
   .have b1:(fr !=0)=u?:=by simp[hf]
    have hi:is=t?:=by cases is with|true=>rfl|false=>exact H? ⟨he,hf,rfl⟩ q
    subst hi;go_wp2;go_roundw
    case rel=>exact⟨k+1,A2,c2,hs,CJ,rfl,jS,jS,xd,j,J⟩
    exact No
   have b1:(fr !=0)=t?:=by simp[hf]
   go_wp2;go_roundw
   case rel=>exact⟨k+1,A2,c2,hs,CJ,rfl,jS,jS,xd,j,J⟩
   exact No
  have b0:(er !=0)=t?:=by simp[he]
  go_wp2;go_roundw
  case rel=>exact⟨k+1,A2,c2,hs,CJ,rfl,jS,jS,xd,j,J⟩
  exact No
 have γ:k=l.length:=jS;subst γ;have d1:decide ((l.length:I)<l.length)=u?:=lV;go_wp2;go_ret;exact⟨HB,A2,c2,hs,rfl,ρ,Rd.own HO,J⟩
instance(x0:ActM):CoeOut (sH 902 x0) (x? jD):=⟨λ_=>#[jK x0.x.oK,jJ x0.x.role,jK x0.x.YR,jJ x0.m.r.op,jK x0.m.r.now,jL x0.m.r.labels,jL x0.m.r.scope,jJ x0.m.r.kind,jN x0.m.ia x0.m.r.items x0.m.ic,jK x0.m.r.h,jK x0.m.r.to,jK x0.m.r.id,jN x0.m.ta x0.m.r.jV x0.m.tc]⟩
structure bf8 where
def qaB:bf8:=⟨⟩
instance:CoeOut bf8 Obj:=⟨λ_=>(m? #[jK 1,jJ 1000000,jK 1000,jK 2,jJ 1000000,jK 1000] 63)⟩
instance(x0:O):CoeOut (sH 907 x0) jD:=⟨λ_=>b? (M ⟨x0,0,Z⟩) 2 2⟩
instance:CoeOut (Cp 908) jD:=⟨λ_=>f? ⟨#[97,61,120]⟩⟩
def ReqOk.few{w:jC}{m:ReqM}(h:ReqOk w w m):ReqOk w w (KH m):=
 (nG.few (X:=λ_=>False) ⟨pO.of h.i λ_ z=>z.elim,pO.of h.t λ_ z=>z.elim,h.ic,h.tc⟩).ok
structure Two(B:O)(V:jC)(A1:w? jG)(c1:O)(L1:E ActM)(A2:w? jG)(c2:O)(L2:E ActM):Prop where
 a:V.ownsRow B 37 13 (b? A1 L1.length c1) L1.length (L1.flatMap xY)
 b:V.ownsRow B 37 13 (b? A2 L2.length c2) L2.length (L2.flatMap xY)
 ne:∀g,(eo A1 L1.length c1).ownBlock=M g->(eo A2 L2.length c2).ownBlock≠M g
section
variable{B:O}{V W:jC}{A1 A2 A3:w? jG}{c1 c2 c3:O}{L1 L2 L3:E ActM}
def Two.later(h:Two B V A1 c1 L1 A2 c2 L2)(c:Below V V W):Two B W A1 c1 L1 A2 c2 L2:=⟨lf h.a c,lf h.b c,h.ne⟩
def Two.swap(h:Two B V A1 c1 L1 A2 c2 L2):Two B V A2 c2 L2 A1 c1 L1:=⟨h.b,h.a,λg c d=>h.ne g d c⟩
def Two.app(h:Two B V A1 c1 L1 A2 c2 L2)(d:V.grownBy W (eo A1 L1.length c1).ownBlock)(f:W.ownsRow B 37 13 (b? A3 L3.length c3) L3.length (L3.flatMap xY))(j:(eo A3 L3.length c3).ownBlock=(eo A1 L1.length c1).ownBlock\/(eo A3 L3.length c3).ownBlock=M V):Two B W A3 c3 L3 A2 c2 L2:=
 ⟨f,od h.b d λr a c=>h.ne r c a,λg a c=>j.elim (λe=>h.ne g (e▸a) c) λe=>by have:=(pf h.b g c).2;rw[e]at a;cases a;omega⟩
end
def ay7(but:I):∀(l:E (Cu×s9))(C:Col),(ac4 but C l).length<=l.length
 |[],_=>ay 0
 |a::l,C=>by
  have:=ay7 but l (tW C a.1 a.2).1;rw[ac4,cd,c_];split<;>simp<;>omega
def al7(l:E ActM):∀u∈l.flatMap xY,u.oneCell'=t?:=λu b=>by
 obtain⟨a,_,c⟩:=ir.1 b;exact Sy a u c
def gvM(sc:v?):ActM:=⟨⟨1,3,0⟩,⟨gvR 0 sc,Z,0,Z,0⟩⟩
def shM(g:O):ActM:=⟨⟨1,3,0⟩,⟨shR,M ⟨g,0,Z⟩,2,Z,0⟩⟩
def aJ8(sc:v?)(gi:O):[gvM sc,shM gi].flatMap xY=[c? n? 1,c? o? 3,c? n? 0,c? o? 4,c? n? 0,f? ⟨#[]⟩,f? sc,c? o? 0,b? Z 0 0,c? n? 0,c? n? 2,c? n? 0,b? Z 0 0,c? n? 1,c? o? 3,c? n? 0,c? o? 1,c? n? 0,f? ⟨#[97,61,120]⟩,f? ⟨#[]⟩,c? o? 1,b? (M ⟨gi,0,Z⟩) 2 2,c? n? 0,c? n? 0,c? n? 0,b? Z 0 0]:=rfl
def grants_any(ka kb:I)(s:v?)(A:w? jG)(l1:E ActM)(cap1:O)(B:w? jG)(l2:E ActM)(cap2:O)(D:w? jG)(l3:E ActM)(cap3:O)(w:jC)(ps:s.size<=maxLen)(p1:l1.length<=maxLen/\(∀a∈l1,ReqRaw a.m/\a.m.r.items.length<=a.m.ic/\a.m.r.jV.length<=a.m.tc)/\Acts w w A l1)(p2:l2.length<=maxLen/\(∀a∈l2,ReqRaw a.m/\a.m.r.items.length<=a.m.ic/\a.m.r.jV.length<=a.m.tc)/\Acts w w B l2)(p3:l3.length<=maxLen/\(∀a∈l3,ReqRaw a.m/\a.m.r.items.length<=a.m.ic/\a.m.r.jV.length<=a.m.tc)/\Acts w w D l3)(hT:Tb w)(hE:Er w)(hw:4<=w.heap.size):jE Tryz.prog 3 #[g? #[jK ka,jK kb],jL s,jN A l1 cap1,jN B l2 cap2,jN D l3 cap3] w λe w'=>e=a? (h? t?)/\Below w w w':=by
 obtain⟨t0,δ,ν,η,μ⟩:=bi5 Tryz.Rc;have HW0:Hid (Below w w (w.alloc (m? #[jK ka,jK kb] 24))):=jP (jQ w) _;have YC:Hid (jR (w.alloc (m? #[jK ka,jK kb] 24)) w 24 #[jK ka,jK kb]):=jR.new w _ _;obtain⟨a1,ha1⟩:∃a:O,min s.size 200=a:=⟨_,rfl⟩;unfold maxLen at ps;have u1:min (s.size:I) 200=(a1:I):=jS;have u2:(0:I)<=a1:=jS;have u3:(a1:I)<=(s.size:I):=jS;have ψ:Hid ((s.extract 0 a1).size<=200):=by show _<=_;rw[fI];omega
 have ρ:=ah p1;have κ:=ah p2;have ε:=ah p3;have HT:=ah hT;have HE:=ah hE;go_in;go_wp2_with fail;refine(CC _ mO (HT.later HW0) (HE.later HW0)).mono ?_;rintro e w1⟨rfl,q⟩;have HW1:=ah (HW0.trans (q.mono HW0.size));have Vw:=ah (YC.later q);go_wp2_with fail;generalize s.extract 0 a1=sc at*;refine(RT A l1 cap1 30 ρ.1 B8 ρ.2.1 w1 ((ρ.2.2.later HW1).rd)).mono ?_;rintro e w2⟨q,A1,d1,rfl,R,-⟩;have HW2:=ah (HW1.trans (q.mono HW1.size));have Tf:=ah (Vw.later q);have HR2:=ah R;have key:Hid (∀(W:jC)(Z:w? jG)(l:E ActM)(n:O),Below w w W->(∀a∈l,ReqRaw a.m/\a.m.r.items.length<=a.m.ic/\a.m.r.jV.length<=a.m.tc)->Acts w w Z l->∀a∈(l.take n).map sQ,ReqOk W W a.m/\lN a.m.r):=λW Z l n hW hr hs a V=>by
  obtain⟨a1,ha1,rfl⟩:=dq.1 V;have hx:=dy ha1;exact⟨((hs.ok a1 hx).later hW).few,Hq (hr a1 hx).1⟩
 have Zs:Hid (∀W,Below w w W->∀a∈(l1.take 30).map sQ,ReqOk W W a.m/\lN a.m.r):=λW hW=>key.out W A l1 30 hW ρ.2.1 ρ.2.2;have hn1:((l1.take 30).map sQ).length<=30:=by rw[ax,cv];omega
 generalize(l1.take 30).map sQ=J at*;go_wp2_with fail;refine(ao0 sc (by have:=ψ.out;omega) w2).mono ?_;rintro e w3⟨q,r,rfl⟩;have HW3:=ah (HW2.trans (q.mono HW2.size));have Cs:=ah (Tf.later q);have HR3:=ah ((Rd.below HR2 q).more q.size)
 cases r with
 |false=>
  go_wp2;go_ret;exact⟨rfl,HW3⟩
 |true=>
  go_wp2_with fail;refine(nK 1 w3).mono ?_;rintro e w4⟨rfl,q⟩;have HW4:=ah (HW3.trans (q.mono HW3.size));have MR:=ah (Cs.later q);have HR4:=ah ((Rd.below HR3 q).more q.size);have C:=jP (jQ w4) (m? #[jK 1,jJ 3,jK 0,jJ 4,jK 0,f? ⟨#[]⟩,jL sc,jJ 0,jM,jK 0,jK 2,jK 0,jM] 37);go_wp2_with fail;refine(nK 1 _).mono ?_;rintro e w5⟨rfl,q⟩;have hb5:=C.trans (q.mono C.size);have HW5:=ah (HW4.trans (hb5.mono HW4.size));have HK5:=ah (MR.later hb5);have HR5:=ah ((Rd.below HR4 hb5).more hb5.size);have HG5:=ah ((jR.new w4 _ _).later q);have x:=qG (cs:=[jK 1,jJ 3,jK 0,jJ 4,jK 0,f? ⟨#[]⟩,jL sc,jJ 0,jM,jK 0,jK 2,jK 0,jM]) HG5 _ 0 λj u hj=>by rw[au];exact hj
  simp only[kz,au,ao,I?]at x;have hx5:=HG5.lt;go_wp2_with(at_builtin;refine Stop.i ?_);unfold Stop;have HIt:Hid (Rd ((w5.alloc (m? #[jK 5,jK 0,jK 9,jK 0] 39)).alloc (m? #[jK 1,jJ 3,jK 0,jJ 1,jK 0,f? ⟨#[97,61,120]⟩,f? ⟨#[]⟩,jJ 1,b? (M ⟨w5,0,Z⟩) 2 2,jK 0,jK 0,jK 0,jM] 37)) ((w5.alloc (m? #[jK 5,jK 0,jK 9,jK 0] 39)).alloc (m? #[jK 1,jJ 3,jK 0,jJ 1,jK 0,f? ⟨#[97,61,120]⟩,f? ⟨#[]⟩,jJ 1,b? (M ⟨w5,0,Z⟩) 2 2,jK 0,jK 0,jK 0,jM] 37)).heap.size (M ⟨w5,0,Z⟩) [jK 5,jK 0,jK 9,jK 0]):=tY ((jR.new w5 _ _).alloc _);have HG9:Hid (jR ((w5.alloc (m? #[jK 5,jK 0,jK 9,jK 0] 39)).alloc (m? #[jK 1,jJ 3,jK 0,jJ 1,jK 0,f? ⟨#[97,61,120]⟩,f? ⟨#[]⟩,jJ 1,b? (M ⟨w5,0,Z⟩) 2 2,jK 0,jK 0,jK 0,jM] 37)) w4 37 #[jK 1,jJ 3,jK 0,jJ 4,jK 0,f? ⟨#[]⟩,jL sc,jJ 0,jM,jK 0,jK 2,jK 0,jM]):=(HG5.alloc _).alloc _;have Θ:Hid (jR ((w5.alloc (m? #[jK 5,jK 0,jK 9,jK 0] 39)).alloc (m? #[jK 1,jJ 3,jK 0,jJ 1,jK 0,f? ⟨#[97,61,120]⟩,f? ⟨#[]⟩,jJ 1,b? (M ⟨w5,0,Z⟩) 2 2,jK 0,jK 0,jK 0,jM] 37)) (w5.heap.size+1) 37 #[jK 1,jJ 3,jK 0,jJ 1,jK 0,f? ⟨#[97,61,120]⟩,f? ⟨#[]⟩,jJ 1,b? (M ⟨w5,0,Z⟩) 2 2,jK 0,jK 0,jK 0,jM]):=jR.new2 w5 _ _ _;have nu:=jP (jP (jQ w5) (m? #[jK 5,jK 0,jK 9,jK 0] 39)) (m? #[jK 1,jJ 3,jK 0,jJ 1,jK 0,f? ⟨#[97,61,120]⟩,f? ⟨#[]⟩,jJ 1,b? (M ⟨w5,0,Z⟩) 2 2,jK 0,jK 0,jK 0,jM] 37);have T:=ah (HW5.trans (nu.mono HW5.size));have YB:=ah (HK5.later nu);have HR9:=ah ((Rd.below HR5 nu).more nu.size);have hgs:=Θ.lt;have hsz:((w5.alloc (m? #[jK 5,jK 0,jK 9,jK 0] 39)).alloc (m? #[jK 1,jJ 3,jK 0,jJ 1,jK 0,f? ⟨#[97,61,120]⟩,f? ⟨#[]⟩,jJ 1,b? (M ⟨w5,0,Z⟩) 2 2,jK 0,jK 0,jK 0,jM] 37)).heap.size=w5.heap.size+1+1:=lV;generalize(w5.alloc (m? #[jK 5,jK 0,jK 9,jK 0] 39)).alloc (m? #[jK 1,jJ 3,jK 0,jJ 1,jK 0,f? ⟨#[97,61,120]⟩,f? ⟨#[]⟩,jJ 1,b? (M ⟨w5,0,Z⟩) 2 2,jK 0,jK 0,jK 0,jM] 37)=N at*;generalize w4.heap.size=gg at*;generalize w5.heap.size=gi at*;have X:Hid (Two N N Z 0 [] Z 0 []):=⟨dY _ _ _ _,dY _ _ _ _,λg h=>by simp[gy]at h⟩;have v:=ah (jQ N);have Yx:=ah (key.out N B l2 10 T κ.2.1 κ.2.2);have Fk:=ah (key.out N D l3 10 T ε.2.1 ε.2.2);have DG:=ah (Zs N T);have hn2:((l2.take 10).map sQ).length<=10:=by rw[ax,cv];omega
  have hn3:((l3.take 10).map sQ).length<=10:=by rw[ax,cv];omega
  have Ξ:=ah (HT.later T);have HEE:=ah (HE.later T);have C:=jP (jQ N) (m? #[jK 1,jJ 3,jK 0,jJ 4,jK 0,f? ⟨#[]⟩,jL sc,jJ 0,jM,jK 0,jK 2,jK 0,jM,jK 1,jJ 3,jK 0,jJ 1,jK 0,f? ⟨#[97,61,120]⟩,f? ⟨#[]⟩,jJ 1,b? (M ⟨gi,0,Z⟩) 2 2,jK 0,jK 0,jK 0,jM] 37);have α:=jR.new N 37 #[jK 1,jJ 3,jK 0,jJ 4,jK 0,f? ⟨#[]⟩,jL sc,jJ 0,jM,jK 0,jK 2,jK 0,jM,jK 1,jJ 3,jK 0,jJ 1,jK 0,f? ⟨#[97,61,120]⟩,f? ⟨#[]⟩,jJ 1,b? (M ⟨gi,0,Z⟩) 2 2,jK 0,jK 0,jK 0,jM];rw[hsz]at α;have H:=ah (X.later C);have pd:=ah (v.trans (C.mono v.size));refine kr _ rfl (.tmp 43) (.tmp 46) 25 rfl N 37 t0 _ 13 152 Tryz.underlying25 δ ν η μ rfl B8 (b? Z 0 0) 0 [] rfl H.a _ _ 2 2 ([gvM sc,shM gi].flatMap xY) rfl rfl (by rw[aJ8];exact tY α) (al7 _) O0 jS pd.size ?_;intro v' V11 d f Y;obtain⟨A11,c11,rfl,-,-,-⟩:=li d;have γ:=pd.grown f pd.size (λr e=>(pf H.a r e).1);have Ψ:=ah (H.app (L3:=[gvM sc,shM gi]) f d Y);go_wp2_with fail;refine(RT B l2 cap2 10 κ.1 B8 κ.2.1 V11 ((κ.2.2.later (T.trans (γ.mono T.size))).rd)).mono ?_;rintro e V12⟨q,Z1,z1,rfl,R,-⟩;have DE:=γ.trans (q.mono γ.size);have ω:=ah (Ψ.later q);have Γ:=ah R;generalize(l2.take 10).map sQ=bd9 at*;go_wp2_with fail;refine(az3 Z1 bd9 z1 sc jS (by have:=ψ.out;omega) N V12 Γ Yx (Ξ.later DE)).mono ?_;rintro e V13⟨q,Y1,y1,g1,rfl,bs4,R,φ⟩;have MO:(qaC N V13):=DE.trans (q.mono DE.size);have β:=ah (ω.later q);have Δ:=ah R;have HH1:=ah φ;clear DE ω Γ q R φ;go_wp2_with(at_builtin;refine Stop.i ?_);unfold Stop;refine kr _ rfl (.tmp 47) (.tmp 51) 25 rfl N 37 t0 _ 13 152 Tryz.underlying25 δ ν η μ rfl (by decide) (b? A11 2 c11) 2 _ rfl β.a _ _ g1.length y1 (g1.flatMap xY) rfl (by rw[qA Bt,bw9]) Δ (al7 _) (by unfold maxLen;omega) (by omega) MO.size ?_;intro v' V14 d f Y;obtain⟨Tk,c12,rfl,-,-,-⟩:=li d;have v:(qaC N V14):=MO.grown f MO.size (λr e=>(pf β.a r e).1);rw[<-eZ,show 2+g1.length=([gvM sc,shM gi]++g1).length by simp;omega]at d;rw[show 2+g1.length=([gvM sc,shM gi]++g1).length by simp;omega]at Y⊢;obtain⟨aI5,hP⟩:∃P,P=[gvM sc,shM gi]++g1:=⟨_,rfl⟩;rw[<-hP]at d Y⊢;have uL:=ah hP;have X:=ah (β.app (L3:=aI5) f d Y).swap;clear d f Y β MO Δ hP;have x:=qG (cs:=[jK 1,jJ 3,jK 0,jJ 4,jK 0,qaA,jL sc,jJ 0,jM,jK 0,jK 2,jK 0,jM]) (HG9.later v) _ 0 λj u hj=>by rw[au];exact hj
  simp only[kz,au,ao,I?]at x;have y:=qG (cs:=[jK 1,jJ 3,jK 0,jJ 1,jK 0,rO 908,qaA,jJ 1,lz 907 gi,jK 0,jK 0,jK 0,jM]) (Θ.later v) _ 0 λj u hj=>by rw[au];exact hj
  simp only[kz,au,ao,I?]at y;have hxl:=(HG9.later v).lt;have hyl:=(Θ.later v).lt;go_wp2_with(at_builtin;refine Stop.i ?_);unfold Stop;have C:=jP (jQ V14) (m? #[jK 1,jJ 3,jK 0,jJ 4,jK 0,qaA,jL sc,jJ 0,jM,jK 0,jK 2,jK 0,jM,jK 1,jJ 3,jK 0,jJ 1,jK 0,rO 908,qaA,jJ 1,lz 907 gi,jK 0,jK 0,jK 0,jM] 37);have α:=jR.new V14 37 #[jK 1,jJ 3,jK 0,jJ 4,jK 0,qaA,jL sc,jJ 0,jM,jK 0,jK 2,jK 0,jM,jK 1,jJ 3,jK 0,jJ 1,jK 0,rO 908,qaA,jJ 1,lz 907 gi,jK 0,jK 0,jK 0,jM];have H:=ah (X.later C);have pd:=ah (v.trans (C.mono v.size));refine kr _ rfl (.tmp 53) (.tmp 56) 25 rfl N 37 t0 _ 13 152 Tryz.underlying25 δ ν η μ rfl (by decide) (b? Z 0 0) 0 [] rfl H.a _ _ 2 2 ([gvM sc,shM gi].flatMap xY) rfl rfl (by rw[aJ8];exact tY α) (al7 _) (by unfold maxLen;omega) (by omega) pd.size ?_;intro v' V21 d f Y;obtain⟨A21,c21,rfl,-,-,-⟩:=li d;have γ:(qaC N V21):=pd.grown f pd.size (λr e=>(pf H.a r e).1);have Ψ:=ah (H.app (L3:=[gvM sc,shM gi]) f d Y);clear d f Y X v H pd C α x y hxl hyl;go_wp2_with fail;refine(RT D l3 cap3 10 ε.1 (by decide) ε.2.1 V21 ((ε.2.2.later (T.trans (γ.mono T.size))).rd)).mono ?_;rintro e V22⟨q,Z2,z2,rfl,R,-⟩;have DE:(qaC N V22):=γ.trans (q.mono γ.size);have ω:=ah (Ψ.later q);have Γ:=ah R;clear γ Ψ q R;generalize(l3.take 10).map sQ=mp at*;go_wp2_with fail;refine(az3 Z2 mp z2 sc (by omega) (by have:=ψ.out;omega) N V22 Γ Fk (Ξ.later DE)).mono ?_;rintro e V23⟨q,Y2,y2,g2,rfl,bs3,R,φ⟩;have MO:(qaC N V23):=DE.trans (q.mono DE.size);have β:=ah (ω.later q);have Δ:=ah R;have HH2:=ah φ;clear DE ω Γ q R φ;go_wp2_with(at_builtin;refine Stop.i ?_);unfold Stop;refine kr _ rfl (.tmp 57) (.tmp 61) 25 rfl N 37 t0 _ 13 152 Tryz.underlying25 δ ν η μ rfl (by decide) (b? A21 2 c21) 2 _ rfl β.a _ _ g2.length y2 (g2.flatMap xY) rfl (by rw[qA Bt,bw9]) Δ (al7 _) (by unfold maxLen;omega) (by omega) MO.size ?_;intro v' V24 d f Y;obtain⟨A22,c22,rfl,-,-,-⟩:=li d;have v:(qaC N V24):=MO.grown f MO.size (λr e=>(pf β.a r e).1);rw[<-eZ,show 2+g2.length=([gvM sc,shM gi]++g2).length by simp;omega]at d;rw[show 2+g2.length=([gvM sc,shM gi]++g2).length by simp;omega]at Y⊢;obtain⟨aI4,hP⟩:∃P,P=[gvM sc,shM gi]++g2:=⟨_,rfl⟩;rw[<-hP]at d Y⊢;have HE2:=ah hP;have X:=ah (β.app (L3:=aI4) f d Y).swap;clear d f Y β MO Δ hP;go_wp2_with fail;have hp1:([gvM sc,shM gi]++g1).length<=12:=by rw[cd];simp;omega
  have hp2:([gvM sc,shM gi]++g2).length<=12:=by rw[cd];simp;omega
  have HPA:Hid (∀a∈[gvM sc,shM gi],lI 906 N a):=λa V=>by
   simp only[cw,bv9,or_false]at V;rcases V with rfl|rfl
   .exact⟨⟨Rd.none_,Rd.none_,ay 0,ay 0⟩,aO3 U.zero (by have:=ψ.out;omega)⟩
   exact⟨⟨HIt,Rd.none_,ay 2,ay 0⟩,aD5⟩
  have HPH:∀h:E ActM,(∀a∈h,aM6 sc N a)->∀a∈[gvM sc,shM gi]++h,(lI 906 N a):=λh hh a V=>(ed.1 V).elim (HPA a) λz=>⟨(hh a z).ok,(hh a z).fit⟩;have bg5:=ah (HPH _ HH1);have bg4:=ah (HPH _ HH2);clear HPH HPA HIt HG9 Θ hgs hsz Yx Fk κ ε;rw[<-uL]at hp1 bg5;rw[<-HE2]at hp2 bg4;go_loopw[12,13,16] (λva vb iv wr=>∃(k:O)(as7:w? jG)(ca:O)(ad3:E ActM)(as4:w? jG)(cb:O)(Lb:E ActM),iv=(qaE k)/\va=b? as7 ad3.length ca/\vb=b? as4 Lb.length cb/\k<=J.length/\Hid (Two N wr as7 ca ad3 as4 cb Lb)/\(qaC N wr)/\Hid (ad3=aI5++(J.take k).filter (λa=>decide (a.x.oK≠1)))/\Hid (Lb=aI4++(J.take k).filter (λa=>decide (a.x.oK≠1)))) (λ_ _ iv _=>J.length-(av iv).toNat)
  case atStart=>exact⟨0,Tk,c12,aI5,A22,c22,aI4,rfl,rfl,rfl,be _,X,v,by show _=_;simp,by show _=_;simp⟩
  clear X v;obtain⟨k,as7,ca,ad3,as4,cb,Lb,rfl,rfl,rfl,hk,X,v,θ,Wu⟩:=hrel;have hfl:((J.take k).filter (λa=>decide (a.x.oK≠1))).length<=30:=a_ (fe _ _) (by rw[cv];omega);have hla:ad3.length<=42:=by rw[θ,cd];omega
  have hlb:Lb.length<=42:=by rw[Wu,cd];omega
  by_cases h1:k<J.length
  .have d1:decide ((k:I)<J.length)=t?:=ae;obtain⟨b,t,rfl,q,hc⟩:=oP (n:=13) Bt B8 HR9 jS;have JS:Hid (∀W,Below N N W->W.cell? ⟨b,t+k*13,Z⟩=M (c? n? J[k].x.oK)/\W.cell? ⟨b,t+k*13+1,Z⟩=M (c? o? J[k].x.role)/\W.cell? ⟨b,t+k*13+2,Z⟩=M (c? n? J[k].x.YR)/\W.cell? ⟨b,t+k*13+3,Z⟩=M (c? o? J[k].m.r.op)/\W.cell? ⟨b,t+k*13+4,Z⟩=M (c? n? J[k].m.r.now)/\W.cell? ⟨b,t+k*13+5,Z⟩=M (f? J[k].m.r.labels)/\W.cell? ⟨b,t+k*13+6,Z⟩=M (f? J[k].m.r.scope)/\W.cell? ⟨b,t+k*13+7,Z⟩=M (c? o? J[k].m.r.kind)/\W.cell? ⟨b,t+k*13+8,Z⟩=M (b? J[k].m.ia J[k].m.r.items.length J[k].m.ic)/\W.cell? ⟨b,t+k*13+9,Z⟩=M (c? n? J[k].m.r.h)/\W.cell? ⟨b,t+k*13+10,Z⟩=M (c? n? J[k].m.r.to)/\W.cell? ⟨b,t+k*13+11,Z⟩=M (c? n? J[k].m.r.id)/\W.cell? ⟨b,t+k*13+12,Z⟩=M (b? J[k].m.ta J[k].m.r.jV.length J[k].m.tc)):=λW hW=>⟨(hW.cell (p:=⟨b,t+k*13+0,Z⟩) q).trans (hc k h1 0 _ B8 rfl),(hW.cell (p:=⟨b,t+k*13+1,Z⟩) q).trans (hc k h1 1 _ B8 rfl),(hW.cell (p:=⟨b,t+k*13+2,Z⟩) q).trans (hc k h1 2 _ B8 rfl),(hW.cell (p:=⟨b,t+k*13+3,Z⟩) q).trans (hc k h1 3 _ B8 rfl),(hW.cell (p:=⟨b,t+k*13+4,Z⟩) q).trans (hc k h1 4 _ B8 rfl),(hW.cell (p:=⟨b,t+k*13+5,Z⟩) q).trans (hc k h1 5 _ B8 rfl),(hW.cell (p:=⟨b,t+k*13+6,Z⟩) q).trans (hc k h1 6 _ B8 rfl),(hW.cell (p:=⟨b,t+k*13+7,Z⟩) q).trans (hc k h1 7 _ B8 rfl),(hW.cell (p:=⟨b,t+k*13+8,Z⟩) q).trans (hc k h1 8 _ B8 rfl),(hW.cell (p:=⟨b,t+k*13+9,Z⟩) q).trans (hc k h1 9 _ B8 rfl),(hW.cell (p:=⟨b,t+k*13+10,Z⟩) q).trans (hc k h1 10 _ B8 rfl),(hW.cell (p:=⟨b,t+k*13+11,Z⟩) q).trans (hc k h1 11 _ B8 rfl),(hW.cell (p:=⟨b,t+k*13+12,Z⟩) q).trans (hc k h1 12 _ B8 rfl)⟩;have Fi:Hid ((J.take (k+1)).filter (λa=>decide (a.x.oK≠1))=(J.take k).filter (λa=>decide (a.x.oK≠1))++if J[k].x.oK=1 then[]else[J[k]]):=by
    show _=_;rw[aj h1,gQ,eC];simp
   have xO:(0:I)<=k:=jS;have xN:(k:I)<J.length:=jS;have hbw:b<wr.heap.size:=by have:=v.size;omega
   generalize J[k]=a0 at*
   obtain⟨i0,i1,i2,i3,i4,i5,i6,i7,i8,i9,i10,i11,i12⟩:=JS _ v;by_cases h4:a0.x.oK=1
   .have d4:(a0.x.oK !=1)=u?:=by simp[h4]
    have hq:=Fi;rw[B? h4,eB]at hq;have HQ:=ah hq;go_wp2;go_roundw
    case rel=>
     exact⟨k+1,as7,ca,ad3,as4,cb,Lb,CJ,rfl,rfl,jS,X,v,by show _=_;rw[HQ];exact θ,by show _=_;rw[HQ];exact Wu⟩
    exact No
   have d4:(a0.x.oK !=1)=t?:=by simp[h4]
   have hq:=Fi;rw[A? h4]at hq;have HQ:=ah hq;go_wp2_with(at_builtin;refine Stop.i ?_);unfold Stop;have C:=jP (jQ wr) (m? (lz 902 a0) 37);have α:=jR.new wr 37 (lz 902 a0);have H:=ah (X.later C);have pd:=ah (v.trans (C.mono v.size));refine kr _ rfl (.tmp 76) (.tmp 81) 25 rfl N 37 t0 _ 13 152 Tryz.underlying25 δ ν η μ rfl B8 (b? as7 (ad3).length ca) (ad3).length _ rfl H.a _ _ 1 1 (xY a0) rfl rfl (tY α) (Sy a0) O0 jS pd.size ?_;intro v' aC5 d f Y;obtain⟨A9,c9,rfl,-,-,-⟩:=li d;replace v:(qaC N aC5):=pd.grown f pd.size (λr e=>(pf H.a r e).1);rw[show(ad3).length+1=(ad3++[a0]).length by simp]at d Y⊢;rw[show(ad3).flatMap xY++xY a0=(ad3++[a0]).flatMap xY by simp[eZ]]at d;obtain⟨La2,hLa⟩:∃L,L=ad3++[a0]:=⟨_,rfl⟩;rw[<-hLa]at d Y⊢;replace X:=ah (H.app (L3:=La2) f d Y).swap;have bn6:=ah hLa;clear d f Y H pd C α hLa;obtain⟨i0,i1,i2,i3,i4,i5,i6,i7,i8,i9,i10,i11,i12⟩:=JS _ v;have hbw2:b<aC5.heap.size:=by have:=v.size;omega
   go_wp2_with(at_builtin;refine Stop.i ?_);unfold Stop;clear i0 i1 i2 i3 i4 i5 i6 i7 i8 i9 i10 i11 i12;have C:=jP (jQ aC5) (m? (lz 902 a0) 37);have α:=jR.new aC5 37 (lz 902 a0);have H:=ah (X.later C);have pd:=ah (v.trans (C.mono v.size));refine kr _ rfl (.tmp 83) (.tmp 88) 25 rfl N 37 t0 _ 13 152 Tryz.underlying25 δ ν η μ rfl (by decide) (b? as4 (Lb).length cb) (Lb).length _ rfl H.a _ _ 1 1 (xY a0) rfl rfl (tY α) (Sy a0) (by unfold maxLen;omega) (by omega) pd.size ?_;intro v' be5 d f Y;obtain⟨A9,c9,rfl,-,-,-⟩:=li d;replace v:(qaC N be5):=pd.grown f pd.size (λr e=>(pf H.a r e).1);rw[show(Lb).length+1=(Lb++[a0]).length by simp]at d Y⊢;rw[show(Lb).flatMap xY++xY a0=(Lb++[a0]).flatMap xY by simp[eZ]]at d;obtain⟨Lb2,hLb⟩:∃L,L=Lb++[a0]:=⟨_,rfl⟩;rw[<-hLb]at d Y⊢;replace X:=ah (H.app (L3:=Lb2) f d Y).swap;have bn5:=ah hLb;clear d f Y H pd C α hLb;go_wp2_with fail;go_roundw
   case rel=>
    exact⟨k+1,_,_,La2,_,_,Lb2,by go_num,rfl,rfl,by omega,X,v,by show _=_;rw[bn6,θ,HQ,eH],by show _=_;rw[bn5,Wu,HQ,eH]⟩
   exact No
  have hkk:k=J.length:=jS;subst hkk;have d1:decide ((J.length:I)<J.length)=u?:=lV;go_wp2_with fail;have hF:∀a∈J.filter (λa=>decide (a.x.oK≠1)),a.x.oK≠1:=λa V=>by simpa using(eN.1 V).2
  rw[cl aa]at θ Wu;have HFM:Hid (∀a∈J.filter (λa=>decide (a.x.oK≠1)),lI 906 N a):=λa V=>DG a (eN.1 V).1;have OT:=ah hF;generalize J.filter (λa=>decide (a.x.oK≠1))=F at*;have bh2:Hid (∀a∈ad3,lI 906 N a):=λa V=>by rw[θ]at V;exact(ed.1 V).elim (bg5 a) (HFM a)
  have bh0:Hid (∀a∈Lb,lI 906 N a):=λa V=>by rw[Wu]at V;exact(ed.1 V).elim (bg4 a) (HFM a)
  have SO:Hid (ad3.length<=42/\Lb.length<=42):=⟨hla,hlb⟩;have χ:=ah v.drew;refine bi1 (S:=(λw9=>kz w9 w 0 [jK ka,jK kb])) oo (qG (YB.later v.drew) _ 0 λj u hj=>by rw[au];exact hj) (λG=>?_);refine tkc G ?_;have bb7:=ah (X.later (Below.refl _ wr).drew);generalize wr.drew=al4 at*;refine pL 1 λK hK=>?_;go_simp;refine(two_any 1000000 1000 al4).mono ?_;rintro e ap0⟨rfl,rfl⟩;have R:=ah (Jb 1000000 1000 al4);have C:=jP (jQ al4) qaB;have v:=ah (χ.trans (C.mono χ.size));have X:=ah (bb7.later C);generalize al4.alloc qaB=ap0 at*;refine hK.out _ _ (qG (YB.later v) _ 0 λj u hj=>by rw[au];exact hj) (λG=>?_);refine az ?_;refine pL 3 λK hK=>?_;go_simp;have HMM:Hid (∀a∈ad3,lI 906 ap0 a):=λa V=>⟨(bh2 a V).1.later v,(bh2 a V).2⟩;refine(au4 ka kb 1000000 1000 B8 (U.nat (n:=1000) jS) _ as7 ad3 2 ca jS ap0 R.out (Rd.own X.a) HMM (Ξ.later v) (HEE.later v) (by have:=v.size;have:=T.size;omega)).mono ?_;rintro e U2⟨q,X1,x1,r1,rfl,hq1,hr,hbd1⟩;replace v:=ah (v.trans (q.mono v.size));replace X:=ah (X.later q);have ξ:=ah hr;have HQ1:=ah hq1;have HD1:=ah hbd1;refine hK.out _ _ (qG (YB.later v) _ 0 λj u hj=>by rw[au];exact hj) (λG=>?_);refine az ?_;refine tkc G ?_;refine hdn ?_;go_wp2_with fail;have χ:=ah v.drew;refine bi1 (S:=(λw9=>kz w9 w 0 [jK ka,jK kb])) oo (qG (YB.later v.drew) _ 0 λj u hj=>by rw[au];exact hj) (λG=>?_);refine tkc G ?_;have bb7:=ah (X.later (Below.refl _ U2).drew);have bn0:=ah (ξ.later (Below.refl _ U2).drew);generalize U2.drew=al4 at*;refine pL 1 λK hK=>?_;go_simp;refine(two_any 1000000 1000 al4).mono ?_;rintro e ap0⟨rfl,rfl⟩;have R:=ah (Jb 1000000 1000 al4);have C:=jP (jQ al4) qaB;have v:=ah (χ.trans (C.mono χ.size));have X:=ah (bb7.later C);have ξ:=ah (bn0.later C);generalize al4.alloc qaB=ap0 at*;refine hK.out _ _ (qG (YB.later v) _ 0 λj u hj=>by rw[au];exact hj) (λG=>?_);refine az ?_;refine pL 3 λK hK=>?_;go_simp;have HMM:Hid (∀a∈Lb,lI 906 ap0 a):=λa V=>⟨(bh0 a V).1.later v,(bh0 a V).2⟩;refine(au4 ka kb 1000000 1000 B8 (U.nat (n:=1000) jS) _ as4 Lb 2 cb jS ap0 R.out (Rd.own X.b) HMM (Ξ.later v) (HEE.later v) (by have:=v.size;have:=T.size;omega)).mono ?_;rintro e U2⟨q,X2,x2,r2,rfl,hq2,hr,hbd2⟩;replace v:=ah (v.trans (q.mono v.size));replace X:=ah (X.later q);replace ξ:=ah (ξ.later q);have HRY:=ah hr;have Wp:=ah hq2;have HD2:=ah hbd2;refine hK.out _ _ (qG (YB.later v) _ 0 λj u hj=>by rw[au];exact hj) (λG=>?_);refine az ?_;refine tkc G ?_;refine hdn ?_;go_wp2_with fail;have HEQ:Hid (r1.map (·.y)=r2.map (·.y)):=by
   obtain⟨c1,Ω⟩:∃c,c=qF ka kb ⟨1,1000000,1000⟩:=⟨_,rfl⟩;obtain⟨c2,hc2⟩:∃c,c=qF ka kb ⟨2,1000000,1000⟩:=⟨_,rfl⟩;have e1:c1.id=1:=by rw[Ω];rfl
   have e2:c2.id=2:=by rw[hc2];rfl
   have hC0:lE ka kb (m9 1000000 1000)=[(c1,newT),(c2,newT)]:=by rw[Ω,hc2];rfl
   have hid:∀h:E ActM,(∀a∈h,aM6 sc N a)->∀a∈h.map ah5,aM7 c1 (nX sc) a:=λh hh a V=>by
    obtain⟨z,hz,rfl⟩:=dq.1 V;obtain⟨labels,kind,items,ia,ic,em,hp⟩:=(hh z hz).m;exact⟨by show z.x=_;rw[(hh z hz).x,e1],labels,kind,items,by show z.m.r=_;rw[em],by have:=(hh z hz).fit;rw[em]at this;exact this,hp⟩
   have hg:=aL6 (c1:=c1) (c2:=c2) jS e2 (by rw[Ω];rfl) (by rw[Ω];show(0:I)<=1000;omega) (sc:=sc) (by have:=ψ.out;omega) (H1:=g1.map ah5) (H2:=g2.map ah5) (oth:=F.map ah5) (hid _ HH1) (hid _ HH2) (λa V=>by obtain⟨z,hz,rfl⟩:=dq.1 V;rw[e1];exact OT z hz);show _=_;rw[HQ1,Wp,hC0,θ,Wu,uL,HE2];rw[e1]at hg;simpa[ah5,gvM,shM]using hg
  refine(aG4 X1 X2 r1 r2 x1 x2 HEQ (by have h8:=C? ez HQ1;have h9:=ay7 1 (ad3.map ah5) (lE ka kb (m9 1000000 1000));rw[ax]at h8 h9;have:=SO.1;omega) (λm hm=>by have:=HD1.out m hm;omega) U2 ξ HRY).mono ?_;rintro e U3⟨rfl,q⟩;have HVZ:=ah (v.trans (q.mono v.size));go_wp2;go_ret;exact⟨rfl,T.trans (HVZ.mono T.size)⟩
section
open Go.RowKit Go.Joins Go.ChangeShapes Go.WideShapes Go.Deep
section
variable{H:Type}{enc:jH×jD->H}{W:jC}
def Opens(enc:jH×jD->H)(W:jC)(t:jH)(cs:E jD):Prop:=∃fuel x,iQ enc Tryz.prog W 0 (λ_=>t?) t? fuel t cs=M x
variable{fs:x? Field}{cs:E jD}
def Opens.struct(j:Tryz.prog.underlying t=M (.struct fs))(h:Opens enc W t cs):cs.length=Tryz.prog.cellsOf t/\∀(i:O)(f:Field),fs[i]? =M f->Opens enc W f.type ((cs.drop f.offset).take (Tryz.prog.cellsOf f.type)):=by
 obtain⟨fuel,x,g⟩:=h;obtain⟨xs,n,_,_,a,c,k⟩:=DataW.trod_struct j g;refine⟨a,λi f d=>?_⟩;have e:=k i f d;have b:i<xs.length:=by rw[c];exact(aw.1 d).1
 rw[an b]at e;exact⟨n,_,e⟩
def Opens.int{t:jH}{k:IntKind}{cs:List jD}(b:Tryz.prog.underlying t=some (.int k))(h:Opens enc W t cs):∃n,cs=[.int k n]/\(iK k n).wf=true:=by
 obtain⟨fuel,x,a⟩:=h;obtain⟨n,e,_,c⟩:=DataW.trod_int b a;exact⟨n,e,c⟩
def Opens.string{t:jH}{cs:List jD}(b:Tryz.prog.underlying t=some .string)(h:Opens enc W t cs):∃s:ByteArray,cs=[.string s]/\s.size<=maxLen:=by
 obtain⟨fuel,x,a⟩:=h;obtain⟨n,e,_,c⟩:=DataW.trod_string b a;exact⟨n,e,c⟩
def Opens.slice{t e:jH}{cs:List jD}(k:Tryz.prog.underlying t=some (.slice e))(h:Opens enc W t cs):cs=[.slice none 0 0]\/∃(a:jG)(len cap:Nat),cs=[.slice (some a) len cap]/\len<=cap/\cap<=maxLen/\ ∀i,i<cap->∃b,W.cells? 0 (a.add (i*Tryz.prog.cellsOf e)) (Tryz.prog.cellsOf e)=some b/\Opens enc W e b:=by
 obtain⟨fuel,x,p⟩:=h;rcases open_slice k p with⟨j,_⟩|⟨a,len,cap,m,n,D,Pl,c,r,o,l,d,_,f⟩
 .exact .inl j
 refine .inr ⟨a,len,cap,c,o,l,λi h=>?_⟩;obtain⟨b,q,g⟩:=f i (by rw[d];simpa using h);exact⟨b,q,n,_,g⟩
def v8{α:Type}{cells:α->E jD}{sz:O}(a:∀y,(cells y).length=sz):∀b:E α,(b.flatMap cells).length=b.length*sz
 |[]=>lV
 |y::b=>by rw[dg,cd,v8 a b,a,c_,iY];omega
def vZ{α:Type}(cells:α->E jD)(Q:α->Prop){sz len:O}{x:jG}(c:∀y,(cells y).length=sz)(h:∀i,i<len->∃y,Q y/\W.cells? 0 (x.add (i*sz)) sz=M (cells y)):∀k,k<=len->∃b:E α,b.length=k/\(∀y∈b,Q y)/\∀j u,(b.flatMap cells)[j]? =M u->W.cell? (x.add j)=M u:=by
 intro k;induction k with
 |zero=>exact λ_=>⟨[],rfl,(λ_ h=>qch),λj u h=>WY⟩
 |succ k o=>
  intro w;obtain⟨b,m,v,q⟩:=o jS;obtain⟨y,s,f⟩:=h k jS;obtain⟨_,p,g⟩:=World.cells?_some f;refine⟨b++[y],by simp[m],λz r=>?_,λj u a=>?_⟩
  .rcases ed.1 r with h|h
   .exact v z h
   simp at h;subst h;exact s
  rw[eZ,List.flatMap_singleton]at a;have d:=v8 c b;rw[m]at d;by_cases n:j<k*sz
  .rw[eL jS]at a;exact q j u a
  rw[d7 jS,d]at a;have l:j-k*sz<sz:=by have:=(ci.1 a).1;rw[c]at this;exact this
  have t:=g (j-k*sz) l;have e:j=k*sz+(j-k*sz):=jS;rw[e,<-Go.Deep.add_add,t];exact a
def D2{x:jG}(h:∀j u,xs[j]? =M u->W.cell? (x.add j)=M u):Rd W W (M x) xs:=λl=>by
 have c:0<xs.length:=by
  rcases fM xs.length with c|c
  .exact H? (da c) l
  exact c
 have a:=h 0 _ (an c);obtain⟨b,f,n⟩:=x;have g:n=Z:=by
  cases n with
  |none=>rfl
  |some k=>
   simp only[iU,if_true,fJ]at a;split at a<;>simp at a
 subst g;have d:b<W.heap.size:=by
  simp only[iU,if_true,fJ]at a;rcases fB b W with e|m
  .exact e
  rw[fH m]at a;simp at a
 refine⟨b,f,rfl,d,λj u o=>?_⟩;have:=h j u o;rwa[addr_add]at this
def Au:∀a:E I,a.map (br n?)=a.flatMap (λn:I=>[br n? n])
 |[]=>rfl
 |y::a=>by rw[df,dg,Au a];try rfl
def wf_u64{n:I}(h:(iK n? n).wf=t?):U n:=bounds_u64 h
end
end
open Go.RowKit Go.Joins Go.ChangeShapes Go.WideShapes Go.Deep
section
variable{H:Type}{enc:jH×jD->H}{W:jC}
def yF(h:Opens enc W 32 [v]):∃(a:w? jG)(l:E Item)(cap:O),v=b? a l.length cap/\l.length<=cap/\cap<=maxLen/\(∀x∈l,U x.h/\U x.n)/\Rd W W a (l.flatMap Q8):=by
 rcases h.slice Tryz.underlying32 with j|⟨a,len,cap,c,G,w,B⟩
 .simp only[List.cons.injEq,I?]at j;exact⟨Z,[],0,j,ay _,B8,(λ_ h=>qch),Rd.none_⟩
 simp only[List.cons.injEq,I?]at c;have t:Tryz.prog.cellsOf 39=2:=oo;obtain⟨A,f,D,z⟩:=vZ (W:=W) Q8 (λx=>U x.h/\U x.n) (sz:=2) (len:=len) (x:=a) (λ_=>rfl) (λi h=>by
  obtain⟨g,m,r⟩:=B i jS;obtain⟨b,q⟩:=r.struct Tryz.underlying39;rw[t]at b m;match g,b with
  |[c0,c1],_=>
   obtain⟨p,F,s⟩:=(q 0 _ rfl).int (k:=n?) oo;obtain⟨o,y,C⟩:=(q 1 _ rfl).int (k:=n?) oo;have e:[c0]=[br n? p]:=F;have d:[c1]=[br n? o]:=y;simp only[List.cons.injEq,I?]at e d;subst e d;exact⟨⟨p,o⟩,⟨wf_u64 s,wf_u64 C⟩,m⟩) len aa
 exact⟨M a,A,cap,by rw[c,f],jS,w,D,D2 z⟩
def NW(h:Opens enc W 33 [v]):∃(a:w? jG)(l:E I)(cap:O),v=(cZ a l cap)/\l.length<=cap/\cap<=maxLen/\(∀x∈l,U x)/\Rd W W a (qM l):=by
 rcases h.slice Tryz.underlying33 with d|⟨a,len,cap,b,s,m,g⟩
 .simp only[List.cons.injEq,I?]at d;exact⟨Z,[],0,d,ay _,B8,(λ_ h=>qch),Rd.none_⟩
 simp only[List.cons.injEq,I?]at b;have k:Tryz.prog.cellsOf 22=1:=oo;obtain⟨f,c,r,o⟩:=vZ (W:=W) (λn:I=>[br n? n]) U (sz:=1) (len:=len) (x:=a) (λ_=>rfl) (λi h=>by
  obtain⟨q,e,j⟩:=g i jS;obtain⟨n,rfl,p⟩:=j.int Tryz.underlying22;rw[k]at e;exact⟨n,wf_u64 p,e⟩) len aa
 refine⟨M a,f,cap,by rw[b,c],jS,m,r,?_⟩;unfold qM;rw[Au f];exact D2 o
def CI{c0 c1 c2 c3 e d f g b c:jD}(h:Opens enc W 35 [c0,c1,c2,c3,e,d,f,g,b,c]):∃m:ReqM,[c0,c1,c2,c3,e,d,f,g,b,c]=uD m/\ReqOk W W m/\ReqRaw m:=by
 obtain⟨_,a⟩:=h.struct Tryz.underlying35;have H:Opens enc W 3 [c0]:=a 0 _ rfl;have t:Opens enc W 22 [c1]:=a 1 _ rfl;have X:Opens enc W 9 [c2]:=a 2 _ rfl;have g3:Opens enc W 9 [c3]:=a 3 _ rfl;have T:Opens enc W 3 [e]:=a 4 _ rfl;have g5:Opens enc W 32 [d]:=a 5 _ rfl;have P:Opens enc W 22 [f]:=a 6 _ rfl;have N:Opens enc W 22 [g]:=a 7 _ rfl;have x:Opens enc W 22 [b]:=a 8 _ rfl;have y:Opens enc W 33 [c]:=a 9 _ rfl;obtain⟨n0,r,w0⟩:=H.int Tryz.underlying3;obtain⟨C,k,w1⟩:=t.int Tryz.underlying22;obtain⟨V,o,Y⟩:=X.string Tryz.underlying9;obtain⟨v,q,D⟩:=g3.string Tryz.underlying9;obtain⟨w,n,w4⟩:=T.int Tryz.underlying3;obtain⟨a5,B,K,rfl,q5,r5,u5,z⟩:=yF g5;obtain⟨G,p,F⟩:=P.int Tryz.underlying22;obtain⟨L,l,R⟩:=N.int Tryz.underlying22;obtain⟨n8,j,J⟩:=x.int Tryz.underlying22;obtain⟨A,l9,Q,rfl,q9,s,u9,d9⟩:=NW y;simp only[List.cons.injEq,I?]at r k o q n p l j;subst r k o q n p l j;exact⟨⟨⟨n0,C,V,v,w,B,G,L,n8,l9⟩,a5,K,A,Q⟩,rfl,⟨z,d9,q5,q9⟩,⟨wf_u64 w1,Y,D,r5,u5,wf_u64 F,wf_u64 R,wf_u64 J,s,u9⟩⟩
variable{cs:E jD}
def OO(h:Opens enc W 37 cs):∃a:ActM,cs=xY a/\ReqOk W W a.m/\ReqRaw a.m:=by
 obtain⟨b,g⟩:=h.struct Tryz.underlying37;have n:Tryz.prog.cellsOf 37=13:=oo;rw[n]at b;match cs,b with
 |[d0,d1,f,c0,c1,c2,c3,z,w,A,B,q,s],_=>
  have v:Opens enc W 30 [d0,d1,f]:=g 0 _ rfl;have o:Opens enc W 35 [c0,c1,c2,c3,z,w,A,B,q,s]:=g 1 _ rfl;obtain⟨_,c⟩:=v.struct Tryz.underlying30;have p:Opens enc W 22 [d0]:=c 0 _ rfl;have r:Opens enc W 3 [d1]:=c 1 _ rfl;have x:Opens enc W 22 [f]:=c 2 _ rfl;obtain⟨y,k,C⟩:=p.int Tryz.underlying22;obtain⟨t,d,F⟩:=r.int Tryz.underlying3;obtain⟨l,j,D⟩:=x.int Tryz.underlying22;obtain⟨m,e,ok,raw⟩:=CI o;simp only[List.cons.injEq,I?]at k d j;subst k d j;refine⟨⟨⟨y,t,l⟩,m⟩,?_,ok,raw⟩;show _=Ij _++uD m;rw[<-e];try rfl
def SF(w:jC)(a:w? jG)(len:O):Prop:=
 len<=maxLen/\∀k,k<=len->∃l:E ActM,l.length=k/\(∀a∈l,ReqRaw a.m)/\Acts w w a l
variable{a:w? jG}
def Ln{len cap:O}(h:Opens enc W 25 [b? a len cap]):SF W a len:=by
 rcases h.slice Tryz.underlying25 with l|⟨x,n,o,b,z,c,j⟩
 .simp only[List.cons.injEq,I?]at l;injection l with e f y;subst e f;exact⟨B8,λk g=>⟨[],mO,(λ_ h=>qch),Rd.none_,(λ_ h=>qch)⟩⟩
 simp only[List.cons.injEq,I?]at b;injection b with e f y;subst e f;have s:Tryz.prog.cellsOf 37=13:=oo;rw[s]at j;refine⟨jS,λk g=>?_⟩;obtain⟨w,d,p,t⟩:=vZ (W:=W) xY (λa=>ReqOk W W a.m/\ReqRaw a.m) (sz:=13) (x:=x) Bt (λi h=>by
  obtain⟨r,v,q⟩:=j i jS;obtain⟨a,rfl,ok,raw⟩:=OO q;exact⟨a,⟨ok,raw⟩,v⟩) k g
 exact⟨w,d,λm c=>(p m c).2,D2 t,λm c=>(p m c).1⟩
def ON{len cap:O}(h:∃fuel x,iQ enc Tryz.prog W 0 (λ_=>t?) t? fuel 25 (eo a len cap).cells.toList=M x):SF W a len:=by
 obtain⟨fuel,x,b⟩:=h;exact Ln ⟨fuel,x,by simpa[Value.cells]using b⟩
end
open Go.RowKit Go.Joins Go.ChangeShapes Go.WideShapes Go.Deep
set_option maxRecDepth 100000
def size4{W:jC}(h:Tb W):4<=W.heap.size:=by
 have a:=b8 W _ (h.2 0 B8).1;have b:3<W.heap.size:=a;omega
section
variable{H:Type}{enc:jH×jD->H}{W:jC}{r:Reach}{b0:O}
variable{fs:x? Field}
def CU(hs:Tryz.prog.underlying t=M (.struct fs))(c:Value.okWide Tryz.prog W r b0 t v)(h:∃fuel x,iQ enc Tryz.prog W 0 (λ_=>t?) t? fuel t v.cells.toList=M x):∃cs:E jD,v=g? cs.toArray/\cs.length=Tryz.prog.cellsOf t/\Opens enc W t cs:=by
 obtain⟨cs,rfl,a⟩:=okWide_struct hs c;obtain⟨l⟩:=cs;obtain⟨fuel,x,b⟩:=h;exact⟨l,rfl,a,fuel,x,by simpa[Value.cells]using b⟩
def key_open{v:jD}(g:Value.okWide Tryz.prog W r b0 24 v)(h:∃fuel x,iQ enc Tryz.prog W 0 (λ_=>t?) t? fuel 24 v.cells.toList=M x):∃ka kb,v=(cI ka kb)/\U ka/\U kb:=by
 obtain⟨cs,rfl,d,e⟩:=CU Tryz.underlying24 g h;have j:Tryz.prog.cellsOf 24=2:=oo;rw[j]at d;match cs,d with
 |[c0,c1],_=>
  obtain⟨_,c⟩:=e.struct Tryz.underlying24;have o:Opens enc W 22 [c0]:=c 0 _ rfl;have k:Opens enc W 22 [c1]:=c 1 _ rfl;obtain⟨l,a,f⟩:=o.int Tryz.underlying22;obtain⟨n,b,m⟩:=k.int Tryz.underlying22;simp only[List.cons.injEq,I?]at a b;subst a b;exact⟨l,n,rfl,wf_u64 f,wf_u64 m⟩
def acts_open2{a:w? jG}{len cap:O}(h:∃fuel x,iQ enc Tryz.prog W 0 (λ_=>t?) t? fuel 25 (eo a len cap).cells.toList=M x):∃l:E ActM,len=l.length/\l.length<=maxLen/\(∀a∈l,ReqRaw a.m/\a.m.r.items.length<=a.m.ic/\a.m.r.jV.length<=a.m.tc)/\Acts W W a l:=by
 obtain⟨g,f⟩:=ON h;obtain⟨l,e,d,b⟩:=f len aa;exact⟨l,e.symm,jS,λa c=>⟨d a c,(b.ok a c).ic,(b.ok a c).tc⟩,b⟩
end
open Go.Lib
def Ma:E (String×DataW Unit):=[("unicode/utf8.acceptRanges",Rows.laid_unicode_utf8_acceptRanges),("unicode/utf8.first",Rows.laid_unicode_utf8_first)]
def QZ:E (String×DataW Unit):=[("errors.errorType",Rows.laid_errors_errorType)]
def AD:E (String×DataW Unit):=[("unicode/utf8.acceptRanges",Rows.laid_unicode_utf8_acceptRanges),("errors.errorType",Rows.laid_errors_errorType),("unicode/utf8.first",Rows.laid_unicode_utf8_first)]
def RP:Rows.laid_unicode_utf8_first=Lib.firstData:=oo
def OP:(Rows.laid_unicode_utf8_acceptRanges:DataW Unit)=Lib.acceptData:=oo
def ar7:Go.Shelf.Ren:=⟨λn=>n,fun|5=>5|119=>405|138=>407|139=>408|n=>n,fun|3=>2|4=>3|n=>n⟩
def WH:U8Types Tryz.prog ar7:=⟨Tryz.underlying5,Tryz.underlying405,Tryz.underlying407,Tryz.underlying408⟩
def yE:(AD.filter λx=>x.2.handleName?.isNone)=Ma:=oo
def wv:(AD.filter λx=>x.2.handleName?.isSome)=QZ:=oo
def AC{W:jC}(a:laidMetH Tryz.prog AD W):laidMet Tryz.prog Ma W/\handlesMet Tryz.prog QZ W:=by
 unfold laidMetH at a;rw[wv]at a;have b:laidMet Tryz.prog (AD.filter λx=>x.2.handleName?.isNone) W/\handlesMet Tryz.prog QZ W:=a;rw[yE]at b;exact b
def tabs_of{W:jC}(a:laidMetH Tryz.prog AD W):Tb W:=by
 have a:=(AC a).1;have b:=Lib.laidMet.reads a (.tail _ (.head _));have c:=Lib.laidMet.reads a (.head _);rw[RP]at b;rw[OP]at c;exact utf8Tabs_of_readsT WH ⟨oo,oo,oo,oo,oo,oo,oo⟩ b c
def Tryz.XN:Tryz.prog.globalNamed "errors.errorType"=M 1:=oo
def Tryz.WW:(Tryz.prog.cutTypes.find? (·.1== "internal/reflectlite.rtype")).map (·.2)=M 412:=oo
def Tryz.oneRow:((bu Tryz.prog.types.size).filter λt=>Tryz.prog.rowNamed t [101,114,114,111,114])=[171]:=oo
def er_of{W:jC}(j:laidMetH Tryz.prog AD W):Er W:=by
 obtain⟨a,u,d,g,l,k,h,b⟩:=(AC j).2 _ (eM.2 rfl);have e:a=[101,114,114,111,114]:=(Option.some.inj g).symm;subst e;obtain rfl:=Option.some.inj (Tryz.WW.symm.trans l);have c:d∈(bu Tryz.prog.types.size).filter λt=>Tryz.prog.rowNamed t [101,114,114,111,114]:=eN.2 ⟨dh.2 k,h⟩;rw[Tryz.oneRow]at c;obtain rfl:=eM.1 c;have f:typeHandle Tryz.prog 171=e? (M ⟨4,171,Z⟩):=oo;rw[f]at b;show W.cell? _=_;simpa using World.var?_cell Tryz.XN b 0
noncomputable def laidWorld(e:Os):jC:=
 let a:=World.holding Tryz.prog e ⟨#[], #[],[]⟩
 let put (h:x? Obj) (g:O) (cs:x? jD):x? Obj:=h.modify g fun
  |m? _ t frozen=>m? cs t frozen
  |o=>o
 let f:=put a.heap 2 (Lib.firstTab.map λz=>br p? z).toArray
 let d:=put f 3 ((bu 16).flatMap λi=>[br p? (Lib.accLo i),br p? (Lib.accHi i)]).toArray
 let c:=put d 1 #[rO 26]
 {a with heap:=c}
def laid_metL(a:Os)(args:x? jD):laidMet Tryz.prog Ma ((laidWorld a).forCall (λ_ _=>0) ⟨#[],args,[]⟩).memory:=
 (LaidIn.of_run (l:=Ma) [3,2] 8 oo oo oo oo).met
def laid_met(a:Os)(args:x? jD):laidMetH Tryz.prog AD ((laidWorld a).forCall (λ_ _=>0) ⟨#[],args,[]⟩).memory:=
 laidMetH_of_parts (by rw[yE];exact laid_metL a args) (by rw[wv];kernel_rfl)
end Go.Proofs.YtfcnedcahoifoaaGreatDoor

import Derived.Maps.RangeWalk
import Derived.Lib.SlKeysI
import Derived.Test.YtfcnedcahoifoaaGreatDoorC
namespace Go.Proofs.YtfcnedcahoifoaaGreatDoor
open Go.RowKit
open _root_.Array renaming mem_of_getElem?→h_
open _root_.Bool renaming and_eq_true→ba,or_eq_true→ft
open _root_.Go renaming Addr→jG,CallsIn→bj2,Calls→jE,Code→bk9,Ending→bi6,Exit→bk7,Operand→bl7,Oper→bk0,OwnFrom→bj3,Program→bi3,SeqStopsK→bl1,TypeId→jH,Value→jD,World→jC,YieldAt→bl4,belowK_b→bj6,bodyPost_end→bl6,bodyPost_ret→jF,callsIn_of_wp_marks→bi7,callsIn_of_wp→bj1,callsIn_wide→jI,info_parts→bi5,results_none→bj7,rounds_succ→bi9,run_takeDeferred→bi2,wpIn_wide→bi4,wpList_append_own→bk3,wp_loop_rounds→bj8,wp_region_held_drew→bi1
open _root_.Go.Act renaming put→gL
open _root_.Go.DataW renaming insert→fC,map→jy
open _root_.Go.Ending renaming returned→ff
open _root_.Go.Exit renaming noGoto_ret→cf
open _root_.Go.Fence renaming wide→cz
open _root_.Go.Instr renaming lookup→eU,mapUpdate→fG,typeAssert→dd
open _root_.Go.IntKind renaming wrap_u64→iw
open _root_.Go.IntWalk renaming wrap64_in→e_
open _root_.Go.KeepsOthers renaming refl→gq,setCell→b7
open _root_.Go.Lib renaming bitLenAux→gY,hid→ai
open _root_.Go.Lit renaming int→iK
open _root_.Go.Maps renaming has→iL,keyOf_int_mk→f_,size→gZ
open _root_.Go.Oper renaming semAt_some→db
open _root_.Go.Region renaming Mode→fD
open _root_.Go.RowKit renaming intOf→av
open _root_.Go.Value renaming int→br,slice→eo
open _root_.Go.World renaming cell?_of_block→co,cell?→fJ,ownsRow_lit→fa,ownsRow_nil→dY,setCell→bj
open _root_.Int renaming eq_ofNat_of_zero_le→fm,toNat_natCast→dM
open _root_.List renaming all_eq_true→dZ,append_nil→eB,eq_nil_of_length_eq_zero→da,filter_append→gQ,filter_cons→eC,filter_eq_self→eY,getElem?_take→gJ,length_cons→c_,length_filter_le→fe,length_map→ax,length_range→fo,map_append→dH,map_cons→df,map_take→iR,mem_append→ed,mem_cons→cw,mem_filter→eN,mem_iff_getElem→ik,mem_map→dq,mem_range→dh,mem_singleton→eM,pairwise_append→il,pairwise_cons→b6,pairwise_iff_getElem→cj,range→bu,setIfInBounds_toArray→bd,set_cons_succ→am,set_cons_zero→ak,take_append_drop→fQ,take_of_length_le→cl,take_prefix→eS,take_succ_eq_append_getElem→aj
open _root_.Nat renaming add_mul→iY,eq_zero_or_pos→fM,le_refl→ay,le_trans→a_,lt_of_lt_of_le→cn,mul_le_mul_right→fZ,mul_lt_mul_of_pos_right→ig,pow_add→im,pow_le_pow_right→ep,pow_succ→iI,reduceAdd→ao,reduceSub→dk,two_pow_pos→ee,zero_add→au,zero_le→be
open _root_.Or renaming inl→ge
open _root_.UInt8 renaming ofNat→gH,toNat_ofNat'→ji
open _root_.Bool renaming false→u?,true→t?
open _root_.Go.Ending renaming returned→a?
open _root_.Go.IntKind renaming i64→o?,u64→n?,u8→p?
open _root_.Go.Obj renaming cells→m?
open _root_.Go.Value renaming agg→g?,bool→h?,iface→i?,int→c?,map→l?,nilIface→j?,slice→b?,string→f?,tuple→d?
open _root_.Option renaming none→Z,some→M
open _root_.Or renaming inl→r?,inr→s?
open _root_ renaming Array→x?,Bool→z?,ByteArray→v?,Int→I,List→E,Nat→O,Option→w?,UInt8→y?,absurd→H?,congrArg→C?,decide_eq_false→E?,decide_eq_true_eq→D?,decide_eq_true→F?,if_neg→A?,if_pos→B?
set_option maxRecDepth 100000
set_option maxHeartbeats 16000000
set_option linter.unusedVariables false
set_option linter.unusedSimpArgs false
set_option linter.defProp false
structure SaI where
def aI:SaI:=⟨⟩
instance aV9:CoeOut SaI Obj:=⟨λ_=>(m? #[jJ 0,jM] 134)⟩
structure SbG(x0:O)(x1:I) where
def bG(b:O)(a:I):SbG b a:=⟨⟩
instance aV2(x0:O)(x1:I):CoeOut (SbG x0 x1) Obj:=⟨λ_=>(m? #[l? (M x0),jJ x1] 500)⟩
instance aY1:CoeOut (Cp 12) Obj:=⟨λ_=>(m? #[f? ⟨#[110,111,32,104,105,115,116,111,103,114,97,109,32,111,102,32,116,104,105,115,32,107,105,110,100]⟩] 510)⟩
structure SbK where
def bK:SbK:=⟨⟩
instance aV1:CoeOut SbK Obj:=⟨λ_=>(m? #[l? Z,jJ 0] 500)⟩
instance aX4(x0:I × I):CoeOut (sH 39 x0) Obj:=⟨λ_=>(m? #[jJ x0.1,jK x0.2] 303)⟩
instance aX2:CoeOut (Cp 47) jD:=⟨λ_=>d? #[g? #[jJ 0,jM],jJ 90]⟩
instance aW4(x0:O)(x1:I):CoeOut (wU 55 x0 x1) (x? jD):=⟨λ_=>#[l? (M x0),jJ x1]⟩
structure SdJ where
def dJ:SdJ:=⟨⟩
instance aT9:CoeOut SdJ (x? jD):=⟨λ_=>#[l? Z,jJ 0]⟩
structure SdK where
def dK:SdK:=⟨⟩
instance aT1:CoeOut SdK Obj:=⟨λ_=>(m? #[jK 0] 22)⟩
instance aW2(x0:O):CoeOut (sH 60 x0) Obj:=⟨λ_=>(m? #[l? (M x0)] 498)⟩
namespace Hi
def fr(f v:O):O:=(v-2^v.log2)*2^f/2^v.log2
def bk(f v:O):O:=if v=0 then 0 else 1+v.log2*2^f+fr f v
def C6(v:O)(h:v≠0):2^v.log2<=v/\v<2^(v.log2+1):=⟨Nat.log2_self_le h,Nat.lt_log2_self⟩
def We(f v:O)(h:v≠0):fr f v<2^f:=by
 obtain⟨b,a⟩:=C6 v h;unfold fr;rw[Nat.div_lt_iff_lt_mul (ee _),Nat.mul_comm];refine Nat.mul_lt_mul_of_pos_left ?_ (ee _);rw[iI]at a;omega
variable{v:O}
def uu(h:v<18446744073709551616):v.log2<64:=by
 by_cases a:v=0
 .subst a;decide
 exact(Nat.log2_lt a).2 h
variable{f:O}
def Wh(a:v<18446744073709551616):bk f v<=64*2^f:=by
 unfold bk;split
 .exact be _
 rename_i h;have c:=We f v h;have b:(v.log2+1)*2^f<=64*2^f:=fZ _ (uu a);rw[iY]at b;omega
def Ns(f a:O):z?:=
 match bnd f a with
 |none=>t?
 |some (c,b)=>c<=b&&b<18446744073709551616&&bk f c==a&&bk f b==a&&(c==0||bk f (c-1)<a)&&(b==18446744073709551615||a<bk f (b+1))&&bk (f-1) c==bk (f-1) b
def TZ:(bu 66).all (Ns 0)=t?:=TO
def TY:(bu 130).all (Ns 1)=t?:=TO
def TX:(bu 260).all (Ns 2)=t?:=TO
def TW:(bu 520).all (Ns 3)=t?:=TO
variable{a:O}
def ZV(c:f<=3)(b:a<=64*2^f):Ns f a=t?:=by
 match f,c with
 |0,_=>exact dZ.1 TZ a (dh.2 (by simp at b;omega))
 |1,_=>exact dZ.1 TY a (dh.2 (by simp at b;omega))
 |2,_=>exact dZ.1 TX a (dh.2 (by simp at b;omega))
 |3,_=>exact dZ.1 TW a (dh.2 (by simp at b;omega))
def So{q:O×O}(h:bnd f a=M q):a<=64*2^f:=by
 unfold bnd at h;split at h
 .omega
 split at h
 .cases h
 rename_i c b;have:=(Nat.div_lt_iff_lt_mul (ee f)).1 (Nat.lt_of_not_le b);omega
structure Bd(f a lo hi:O):Prop where
 le:lo<=hi
 lt:hi<18446744073709551616
 aG0:bk f lo=a
 aH3:bk f hi=a
 low:lo=0\/bk f (lo-1)<a
 high:hi=18446744073709551615\/a<bk f (hi+1)
 less:bk (f-1) lo=bk (f-1) hi
def XZ{lo hi:O}(d:f<=3)(h:bnd f a=M (lo,hi)):Bd f a lo hi:=by
 have:=ZV d (So h);unfold Ns at this;rw[h]at this;simp at this;obtain⟨⟨⟨⟨⟨⟨g,k⟩,c⟩,e⟩,b⟩,j⟩,l⟩:=this;exact⟨g,k,c,e,b,j,l⟩
def RL(h:v≠0)(m:v<18446744073709551616)(q:f<=3):v*2^(63-v.log2)*2%18446744073709551616/2^(64-f)=fr f v:=by
 obtain⟨o,c⟩:=C6 v h;have k:=uu m;unfold fr;obtain⟨L,e⟩:∃L,v.log2=L:=⟨_,rfl⟩;rw[e]at o c k⊢;obtain⟨x,g⟩:∃x,v=2^L+x:=⟨v-2^L,by omega⟩;have l:v-2^L=x:=by omega
 have b:x<2^L:=by rw[iI]at c;omega
 have a:(2:O)^L*2^(64-L)=18446744073709551616:=by rw[<-im,show L+(64-L)=64 by omega]
 have j:v*2^(63-L)*2=18446744073709551616+x*2^(64-L):=by
  rw[Nat.mul_assoc,<-iI,show(63-L).succ=64-L by omega,g,iY,a]
 have n:x*2^(64-L)<18446744073709551616:=by rw[<-a];exact ig b (ee _)
 rw[l,j,Nat.add_mod_left,Nat.mod_eq_of_lt n];have p:x*2^(64-L)/2^(64-f)=x*2^(64-L)*2^L/(2^(64-f)*2^L):=(Nat.mul_div_mul_right _ _ (ee _)).symm;have d:x*2^(64-L)*2^L=x*2^f*2^(64-f):=by
  rw[Nat.mul_assoc,<-im,Nat.mul_assoc,<-im,show 64-L+L=f+(64-f) by omega]
 rw[p,d,Nat.mul_comm (2^(64-f)),Nat.mul_div_mul_right _ _ (ee _)]
def sat(a b:I):I:=if 18446744073709551615-b<a then cM else a+b
def WS(a b:I):sat a b=min (a+b) cM:=by unfold sat;split<;>omega
variable{a b:I}
def uQ(d:U a)(c:U b):U (sat a b):=by unfold U at*;unfold sat;split<;>omega
def mY:jX->I->I->jX
 |[],a,n=>[(a,n)]
 |x::l,a,n=>if x.1<a then x::mY l a n else if x.1=a then(a,sat x.2 n)::l else(a,n)::x::l
def k8:jX->I->I
 |[],_=>0
 |x::l,a=>if x.1=a then x.2 else k8 l a
def S(p:I->z?):jX->I
 |[]=>0
 |x::l=>(if p x.1 then x.2 else 0)+S p l
def ou(l:jX):Prop:=l.Pairwise λx y=>x.1<y.1
def UB(l:jX):Prop:=∀x∈l,U x.2
def NZ(l:jX):Prop:=∀x∈l,x.2≠0
variable{x:I×I}{l:jX}
def UB.cons(h:UB (x::l)):U x.2/\UB l:=⟨h x lV,λy a=>h y (by simp[a])⟩
def UB.mk(h:U x.2)(a:UB l):UB (x::l):=λy c=>by
 rcases cw.1 c with rfl|b
 .exact h
 exact a y b
def Bu{p:I->z?}:∀{l:jX},UB l->0<=S p l
 |[],_=>by simp[S]
 |x::l,h=>by
  obtain⟨a,b⟩:=h.cons;have:=Bu (p:=p) b;unfold U at a;simp only[S];split<;>omega
def wg:∀{l:jX}{a n:I},UB l->U n->UB (mY l a n)
 |[],a,n,_,b=>λy e=>by simp[mY]at e;subst e;exact b
 |x::l,a,n,h,b=>by
  obtain⟨d,c⟩:=h.cons;unfold mY;split
  .exact UB.mk d (wg c b)
  split
  .exact UB.mk (uQ d b) c
  exact UB.mk b h
def rF:∀{l:jX}{a n:I}{y:I×I},y∈mY l a n->y.1=a\/∃z∈l,z.1=y.1
 |[],a,n,y,h=>by simp[mY]at h;subst h;exact r? rfl
 |x::l,a,n,y,h=>by
  unfold mY at h;split at h
  .rcases cw.1 h with rfl|b
   .exact s? ⟨_,lV,rfl⟩
   rcases rF b with d|⟨z,c,e⟩
   .exact r? d
   exact s? ⟨z,by simp[c],e⟩
  split at h
  .rcases cw.1 h with rfl|b
   .exact r? rfl
   exact s? ⟨y,by simp[b],rfl⟩
  rcases cw.1 h with rfl|b
  .exact r? rfl
  exact s? ⟨y,b,rfl⟩
def ul:∀{l:jX}{a n:I},ou l->ou (mY l a n)
 |[],a,n,_=>by simp[mY,ou]
 |x::l,a,n,h=>by
  obtain⟨c,d⟩:=b6.1 h;unfold mY;split
  .refine b6.2 ⟨λy b=>?_,ul d⟩;rcases rF b with e|⟨z,f,e⟩
   .omega
   have:=c z f;omega
  split
  .rename_i e;exact b6.2 ⟨λy b=>by have:=c y b;show a<y.1;omega,d⟩
  refine b6.2 ⟨λy b=>?_,h⟩;rcases cw.1 b with rfl|g
  .show a<y.1;omega
  have:=c y g;show a<y.1;omega
def ze:∀{l:jX}{a n:I},UB l->NZ l->U n->n≠0->NZ (mY l a n)
 |[],a,n,_,_,e,d=>λy b=>by simp[mY]at b;subst b;exact d
 |x::l,a,n,k,f,e,d=>by
  obtain⟨j,m⟩:=k.cons;have h:x.2≠0:=f x (by simp);have g:NZ l:=λy b=>f y (by simp[b]);unfold mY;intro y b;split at b
  .rcases cw.1 b with rfl|c
   .exact h
   exact ze m g e d y c
  split at b
  .rcases cw.1 b with rfl|c
   .show sat x.2 n≠0;unfold U at j e;unfold sat;split<;>omega
   exact g y c
  rcases cw.1 b with rfl|c
  .exact d
  exact f y c
def ku(l:jX)(m:jX):jX:=m.foldl (λx y=>mY x y.1 y.2) l
def yB(l:jX)(x:I×I)(m:jX):ku l (x::m)=ku (mY l x.1 x.2) m:=rfl
def tI(l:jX)(m:jX)(x:I×I):ku l (m++[x])=mY (ku l m) x.1 x.2:=by simp[ku]
def CM:∀{m l:jX},UB l->UB m->UB (ku l m)
 |[],_,h,_=>h
 |x::m,l,h,a=>CM (m:=m) (wg h a.cons.1) a.cons.2
def oF:∀{m l:jX},ou l->ou (ku l m)
 |[],_,h=>h
 |x::m,l,h=>oF (m:=m) (ul h)
def rG:∀{m l:jX},UB l->UB m->NZ l->NZ m->NZ (ku l m)
 |[],_,_,_,h,_=>h
 |x::m,l,u,a,h,b=>rG (m:=m) (wg u a.cons.1) a.cons.2 (ze u h a.cons.1 (b x lV)) (λy c=>b y (by simp[c]))
def Gi:∀{l:jX}{a n:I},(∀x∈l,x.1<a)->mY l a n=l++[(a,n)]
 |[],_,_,_=>rfl
 |x::l,a,n,h=>by
  unfold mY;rw[B? (h x lV),Gi (λy b=>h y (by simp[b]))];rfl
def uT:∀{m l:jX},ou (l++m)->ku l m=l++m
 |[],l,_=>by simp[ku]
 |x::m,l,h=>by
  have a:ou ((l++[x])++m):=by simpa using h
  have c:∀y∈l,y.1<x.1:=λy b=>by
   have:=(il.1 h).2.2 y b x (by simp);exact this
  rw[yB,Gi c,uT (l:=l++[(x.1,x.2)]) a];simp
variable{m:jX}
def Gj(h:ou m):ku [] m=m:=uT (l:=[]) S6
def pV(l:jX):jX:=l.filter λx=>x.2 !=0
def tU(h:NZ l):pV l=l:=eY.2 λx a=>by simp[h x a]
def qa(l:jX)(a n:I):jX:=if n=0 then l else mY l a n
def CK:∀{l:jX}{a:I},UB l->NZ l->pV (mY l a 0)=l
 |[],a,_,_=>by simp[mY,pV]
 |x::l,a,d,b=>by
  obtain⟨h,j⟩:=d.cons;have f:x.2≠0:=b x (by simp);have k:NZ l:=λy m=>b y (by simp[m]);have c:=CK (a:=a) j k;unfold U at h;unfold mY;split
  .unfold pV at c⊢;rw[eC,c];simp[f]
  split
  .rename_i e;have g:sat x.2 0=x.2:=by unfold sat;split<;>omega
   have:=tU b;rw[g,<-e];exact this
  have:=tU b;unfold pV at this⊢;rw[eC,this];simp
def Ow{n:I}(b:UB l)(c:NZ l)(d:U n):pV (mY l a n)=qa l a n:=by
 unfold qa;split
 .rename_i e;subst e;exact CK b c
 rename_i e;exact tU (ze b c d e)
def ma(l:jX)(s:I):I:=l.foldl (λs x=>sat s x.2) s
def CF:∀{l:jX}{s:I},UB l->U s->ma l s=cap (s+S (λ_=>t?) l)
 |[],s,_,a=>by unfold U at a;simp[ma,S,cap];omega
 |x::l,s,h,a=>by
  obtain⟨b,c⟩:=h.cons;have d:=Bu (p:=λ_=>t?) c;show ma l (sat s x.2)=_;rw[CF c (uQ a b),WS];unfold U at b a;simp only[S,cap,if_true];omega
def FX(l:jX)(x:I×I)(s:I):ma (l++[x]) s=sat (ma l s) x.2:=by simp[ma]
def PO{s:I}(h:UB l)(hs:U s):U (ma l s):=by
 rw[CF h hs];have:=Bu (p:=λ_=>t?) h;unfold U cap at*;omega
def ent(x:Int×Int):Lit×DataW Unit:=(.int .i64 x.1,.lit (.int .u64 x.2))
def dm(m:jX):DataW Unit:=.map (m.map ent)
def tq(a b:Int):(iK .i64 a).sameKey (.int .i64 b)=(a==b):=by
 simp only[Lit.sameKey,true_and];rfl
def A_:∀(m:jX)(a:Int),(m.map ent).find? (λp=>p.1.sameKey (.int .i64 a))=(m.find? λx=>x.1==a).map ent
 |[],_=>rfl
 |x::m,a=>by
  simp only[df,List.find?_cons,ent,tq]
  cases h:x.1==a
  .simp only[A_ m a]
  rfl
def Dl:∀(m:jX)(a:I),k8 m a=match m.find? (λx=>x.1==a)with|some x=>x.2|none=>0
 |[],_=>rfl
 |x::m,a=>by
  simp only[k8,List.find?_cons];by_cases h:x.1=a
  .simp[h]
  have:(x.1==a)=u?:=by simp[h]
  rw[A? h,this,Dl m a]
def ae7(m:jX)(a:Int):(dm m).atKey (.int .i64 a) (.lit (.int .u64 0))=.lit (.int .u64 (k8 m a)):=by
 simp only[dm,DataW.atKey];rw[A_,Dl]
 cases m.find? λx=>x.1==a<;>rfl
def Ba(m:jX)(a:Int):(m.map ent).filter (λp=> !p.1.sameKey (.int .i64 a))=(m.filter λx=>x.1 !=a).map ent:=by
 induction m with
 |nil=>rfl
 |cons x m b=>
  simp only[df,eC,b];have:(ent x).1.sameKey (.int .i64 a)=(x.1==a):=tq _ _;rw[this]
  cases h:x.1==a<;>simp[bne,h]
def XU(m:jX)(a:Int):(dm m).del (.int .i64 a)=dm (m.filter λx=>x.1 !=a):=by
 show jy _=jy _;rw[Ba]
def wx{v:Int}:∀{m:jX},(∀x∈m,a<x.1)->fC (ent (a,v)) (m.map ent)=ent (a,v)::m.map ent
 |[],_=>rfl
 |x::m,h=>by
  have:(ent (a,v)).1.before (ent x).1=true:=by simp[ent,Lit.before,h x (by simp)]
  simp[fC,this]
def wH(h:∀x∈m,x.1≠a):(m.filter λx=>x.1 !=a)=m:=eY.2 λx b=>by simp[h x b]
def uy{a:I}:∀{m:jX},(∀x∈m,x.1≠a)->k8 m a=0
 |[],_=>rfl
 |x::m,h=>by rw[k8,A? (h x lV),uy (λy b=>h y (by simp[b]))]
def AL{a n:Int}(j:U n):∀{m:jX},ou m->fC (ent (a,sat (k8 m a) n)) ((m.filter λx=>x.1 !=a).map ent)=(mY m a n).map ent
 |[],_=>by
  have:sat 0 n=n:=by unfold U at j;unfold sat;split<;>omega
  simp[k8,mY,fC,this]
 |x::m,h=>by
  obtain⟨o,r⟩:=b6.1 h;rcases Int.lt_trichotomy x.1 a with l|f|k
  .have d:(x.1 !=a)=true:=by simp;omega
   have e:k8 (x::m) a=k8 m a:=by rw[k8,if_neg (by omega)]
   have b:(ent (a,sat (k8 m a) n)).1.before (ent x).1=false:=by simp[ent,Lit.before];omega
   rw[eC,d,if_pos rfl,df,e,fC,b,if_neg (by simp),AL j r,mY,if_pos l,df]
  .have d:(x.1 !=a)=false:=by simp[f]
   have e:k8 (x::m) a=x.2:=by rw[k8,if_pos f]
   have g:∀y∈m,a<y.1:=λy c=>by have:=o y c;omega
   rw[eC,d,if_neg (by simp),wH (λy c=>by have:=g y c;omega),e,wx g,mY,if_neg (by omega),if_pos f,df]
  have g:∀y∈x::m,a<y.1:=λy c=>by
   rcases cw.1 c with rfl|p
   .exact k
   have:=o y p;omega
  have q:sat 0 n=n:=by unfold U at j;unfold sat;split<;>omega
  rw[wH (λy c=>by have:=g y c;omega),uy (λy c=>by have:=g y c;omega),q,wx g,mY,if_neg (by omega),if_neg (by omega),df,df,df]
def XT{n:Int}(c:ou m)(b:U n):(dm m).put (.int .i64 a) (.lit (.int .u64 (sat (k8 m a) n)))=dm (mY m a n):=by
 show jy (fC (ent (a,sat (k8 m a) n)) ((m.map ent).filter λp=> !p.1.sameKey (.int .i64 a)))=jy _;rw[Ba,AL b c]
def Mu(m:jX):gZ (dm m)=m.length:=by simp[dm,gZ]
def Mv(m:jX):intKeys (dm m)=m.map (·.1):=by simp[dm,intKeys,ent,Go.intOf,Function.comp_def]
def tH:∀(m:jX)(a n:I),(mY m a n).length<=m.length+1
 |[],_,_=>by simp[mY]
 |x::m,a,n=>by
  have:=tH m a n;unfold mY;split
  .simp;omega
  split<;>simp
def pR(m:jX)(left:Lit->Bool):jX:=m.filter λx=>x.2 !=0||left (.int .i64 x.1)
def FE(D:DataW Unit)(h:D=dm m):pR m (iL D)=m:=by
 subst h;refine eY.2 λx a=>?_;have:iL (dm m) (.int .i64 x.1)=true:=by
  show(m.map ent).any _=true;exact List.any_eq_true.2 ⟨ent x,dq.2 ⟨x,a,rfl⟩,by show(iK .i64 x.1).sameKey _=true;rw[tq];simp⟩
 rw[this];simp
variable{left:Lit->z?}
def M8(h:∀a,left a=u?):pR m left=pV m:=by
 unfold pR pV;congr 1;funext x;rw[h];simp
def F_(h:ou m){y:I×I}(c:x∈m)(d:y∈m)(e:x.1=y.1):x=y:=by
 induction m with
 |nil=>simp at c
 |cons z m g=>
  obtain⟨f,j⟩:=b6.1 h;rcases cw.1 c with rfl|b
  .rcases cw.1 d with rfl|a
   .rfl
   have:=f y a;omega
  rcases cw.1 d with rfl|a
  .have:=f x b;omega
  exact g j b a
def FF{c:Int}(k:ou m)(h:∀g,(dm (pR m left)).atKey (.int .i64 a) g=.lit (.int .u64 c)):∀x∈m,x.1=a->left (.int .i64 a)=true->x.2=c:=by
 intro x f b j;have n:(pR m left).find? (λy=>y.1==a)=some x:=by
  cases d:(pR m left).find? (λy=>y.1==a)with
  |none=>
   have e:=List.find?_eq_none.1 d x (eN.2 ⟨f,by rw[b,j];simp⟩);simp[b]at e
  |some y=>
   have e:=List.find?_some d;have o:=List.mem_of_find?_eq_some d;have l:=(eN.1 o).1;simp at e;rw[F_ k f l (by rw[b,e])]
 have:=h .nil;simp only[dm,DataW.atKey]at this;rw[A_,n]at this;simp[ent]at this;exact this
def DO(d:ou m)(h:∀b,(dm (pR m left)).atKey (.int .i64 a) b=.lit (.int .u64 0))(c:left (.int .i64 a)=true):(dm (pR m left)).del (.int .i64 a)=dm (pR m λz=>left z&& !z.sameKey (.int .i64 a)):=by
 rw[XU];unfold pR;rw[List.filter_filter];congr 1;refine List.filter_congr λx f=>?_;simp only[tq];by_cases e:x.1=a
 .have:=FF d h x f e c;simp[e,this]
 have:(x.1==a)=false:=by simp[e]
 simp[this,e]
def FD{c:Int}(f:ou m)(h:∀b,(dm (pR m left)).atKey (.int .i64 a) b=.lit (.int .u64 c))(d:c≠0)(g:left (.int .i64 a)=true):pR m left=pR m λz=>left z&& !z.sameKey (.int .i64 a):=by
 unfold pR;refine List.filter_congr λx j=>?_;simp only[tq];by_cases e:x.1=a
 .have:=FF f h x j e g;simp[e,this,d]
 have:(x.1==a)=false:=by simp[e]
 simp[this]
def FO{d:E I}(j:ou m)(h:d.Perm (intKeys (dm m))):d.mergeSort (λx y=>decide (x<=y))=m.map (·.1):=by
 rw[Mv]at h;have e:=List.pairwise_map.2 j;refine List.Perm.eq_of_pairwise (le:=λa b=>decide (a<=b)=t?) (λa b _ _ f g=>by simp only[D?]at f g;omega) (List.pairwise_mergeSort (λa b c f g=>by simp only[D?]at*;omega) (λa b=>by simp only[ft,D?];omega) d) (e.imp λ{a b} h=>by simp only[D?];omega) ((List.mergeSort_perm d _).trans h)
def KT(h:ou m):ou (pV m):=h.filter _
section
open Go.RowKit Go.Shelf
def GN:Go.Shelf.Ren:=⟨fun|129=>67|n=>n,fun|53=>22|3=>3|4=>4|46=>152|5=>5|9=>9|n=>n,fun|n=>n⟩
def lays129:Go.Proofs.Lays.n129 Tryz.prog GN:={
 mixed:=oo
 f129:=Tryz.func67.trans (C? M oo)
 t3:=Tryz.underlying3
 a3:=Tryz.isAgg3
 z3:=Tryz.sizeOf3
 v3:=Tryz.zeroValue3
 t4:=Tryz.underlying4
 a4:=Tryz.isAgg4
 z4:=Tryz.sizeOf4
 v4:=Tryz.zeroValue4
 t5:=Tryz.underlying5
 a5:=Tryz.isAgg5
 z5:=Tryz.sizeOf5
 v5:=Tryz.zeroValue5
 t9:=Tryz.underlying9
 a9:=Tryz.isAgg9
 z9:=Tryz.sizeOf9
 v9:=Tryz.zeroValue9
 t46:=Tryz.underlying152
 a46:=Tryz.isAgg152
 z46:=Tryz.sizeOf152
 v46:=Tryz.zeroValue152
 t53:=Tryz.underlying22
 a53:=Tryz.isAgg22
 z53:=Tryz.sizeOf22
 v53:=Tryz.zeroValue22}
def yP:∀(f x:O),x<2^f->x≠0->gY f x=x.log2+1
 |0,x,h,a=>by simp at h;omega
 |f+1,x,h,a=>by
  rw[gY,A? a];have b:x/2<2^f:=by rw[iI]at h;omega
  by_cases c:x/2=0
  .have:x=1:=by omega
   subst this;have e:gY f (1/2)=0:=by cases f<;>rfl
   rw[e];decide
  rw[yP f (x/2) b c];have:=Nat.log2_def x;rw[B? (by omega)]at this;omega
def pj(x:O)(c:x≠0)(b:x<18446744073709551616)(w:jC):jE Tryz.prog 67 #[jK x] w λe w'=>e=a? (c? o? ((x.log2:I)+1))/\w=w':=
 (Go.Proofs.Any.bits_Len64 lays129 x w jS jS).mono λ_ _⟨d,a⟩=>⟨by rw[d,dM];show ff (c? o? ((gY 64 x:O):I))=_;rw[yP 64 x b c];rfl,a.symm⟩
end
abbrev sC(s:v?):jD:=i? 510 (g? #[jL s])
def kR(s:v?)(w:jC):jE Tryz.prog 351 #[sC s] w λe w'=>e=a? (c? o? 90)/\w.alloc (m? #[jL s] 510)=w':=by
 have a:∀w,(dd (sC s) 171 510 t?).run Tryz.prog w=.ok (d? #[g? #[jL s],h? t?]) w:=λ_=>oo;go_in;go_wp2;go_ret;exact⟨rfl,rfl⟩
def oa(a b:I)(l:U a)(j:U b)(w:jC)(g off cap:O)(m:w.cell? ⟨g,off,Z⟩=M (c? n? a))(n:w.cell? ⟨g,off+1,Z⟩=M (c? n? b)):jE Tryz.prog 357 #[b? (bH g off) 2 cap] w λe w'=>e=a? (c? n? (sat a b))/\w=w':=by
 obtain⟨k,f⟩:=l;obtain⟨d,c⟩:=j;by_cases h:18446744073709551615-a<b
 .go_in;go_wp2;refine bj8 3 ?_;rw[bi9];go_wp2;rw[bi9];go_wp2;go_ret;exact⟨mL (by rw[sat,B? jS]),rfl⟩
 go_in;go_wp2;refine bj8 3 ?_;rw[bi9];go_wp2;rw[bi9];go_wp2;rw[bi9];go_wp2;go_ret;exact⟨mL (by rw[sat,A? jS]),rfl⟩
def Ld(e:f<=3)(g:v≠0)(d:v<18446744073709551616):wrap64 (wrap64 (1+wrap64 (↑v.log2*2^f))+wrap64 (IntKind.u64.wrap (IntKind.u64.wrap (↑v*2^(63-v.log2))*2)/2^(64-f)))=((bk f v:O):I):=by
 have h:IntKind.u64.wrap (IntKind.u64.wrap ((v:I)*2^(63-v.log2))*2)=((v*2^(63-v.log2)*2%18446744073709551616:O):I):=by
  rw[iw,iw];have:((v:I)*2^(63-v.log2))=((v*2^(63-v.log2):O):I):=lV;rw[this];omega
 have j:((v*2^(63-v.log2)*2%18446744073709551616:O):I)/2^(64-f)=((fr f v:O):I):=by
  rw[<-RL g d e];simp
 have l:((v.log2:O):I)*2^f=((v.log2*2^f:O):I):=lV;have k:=Wh (f:=f) d;have m:=ep (n:=2) B8 e;have b:bk f v=1+v.log2*2^f+fr f v:=by unfold bk;rw[A? g]
 rw[h,j,l,b];rw[b]at k;generalize v.log2*2^f=a at*;generalize fr f v=c at*;rw[e_ a jS,e_ c jS,e_ (1+(a:I)) jS,e_ _ jS];omega
def lj(f v:I):I:=if ld f=t? then((bk f.toNat v.toNat:O):I)else 0
def yN(a:f<=3):lj f v=((bk f v:O):I):=by
 have:ld f=t?:=by simp[ld];omega
 unfold lj;rw[B? this];simp
def Is(f v:O)(c:f<=3)(b:v≠0)(a:v<18446744073709551616)(w:jC):jE Tryz.prog 353 #[jJ f,jK v] w λe w'=>e=a? (c? o? (bk f v))/\∃n,w'=w.drewN n:=by
 have h:ld f=t?:=by simp[ld];omega
 have d:=ah h;have j:=uu a;have k:((v:I)==0)=u?:=by simp[b]
 have g:=ah (Ld c b a);go_in;go_wp2_with fail;refine(lK _ _).mono ?_;rintro e w'⟨rfl,rfl⟩;rw[d];go_wp2_with fail;refine(pj v b a _).mono ?_;rintro e w'⟨rfl,rfl⟩;go_wp2;go_quiet(fail);go_wp2;go_ret;exact⟨mL g,nq,rfl⟩
def Ir(f:O)(c:f<=3)(w:jC):jE Tryz.prog 353 #[jJ f,jK 0] w λe w'=>e=a? (c? o? 0)/\∃n,w'=w.drewN n:=by
 have b:ld f=t?:=by simp[ld];omega
 have a:=ah b;go_in;go_wp2_with fail;refine(lK _ _).mono ?_;rintro e w'⟨rfl,rfl⟩;rw[a];go_wp2;go_ret;exact⟨rfl,0,rfl⟩
def Le(f v:I)(a:ld f=u?)(w:jC):jE Tryz.prog 353 #[jJ f,jK v] w λe w'=>e=a? (c? o? 0)/\∃n,w'=w.drewN n:=by
 have b:=ah a;go_in;go_wp2_with fail;refine(lK _ _).mono ?_;rintro e w'⟨rfl,rfl⟩;rw[b];go_wp2;go_ret;exact⟨rfl,0,rfl⟩
def vK(f v:I)(b:U v)(w:jC):jE Tryz.prog 353 #[jJ f,jK v] w λe w'=>e=a? (c? o? (lj f v))/\∃n,w'=w.drewN n:=by
 cases h:ld f with
 |false=>unfold lj;rw[A? (by simp[h])];exact Le f v h w
 |true=>
  obtain⟨d,g⟩:=qZ h;obtain⟨c,j⟩:=b;obtain⟨F,rfl⟩:=fm d;obtain⟨V,rfl⟩:=fm c;rw[yN jS];by_cases a:V=0
  .subst a;exact Ir F jS w
  exact Is F V jS a jS w
section
variable{l:O}{J:Act->jC->Prop}{Q:bk7->Act->jC->Prop}{a:Act}{w:jC}
end
section
variable{w w':jC}{B B':O}{A:w? jG}{l:E (I×I)}
def Sb.later(h:Sb w w A l)(a:Below w w w'):Sb w' w' A l:=(Rd.below h a).more a.size
end
section
variable{P:bi3}{ops:x? bk0}{Q:bk7->Act->jC->Prop}{md:fD}{S:jC->Prop}{s:O}
end
def Mp(w:jC)(B k:O)(m:jX):Prop:=w.ownsMap Tryz.prog 3 (plainElem Tryz.prog 22) B k (dm m)
def law:Maps.Keyed Tryz.prog 3:=Maps.int_keyed Tryz.underlying3
def zeroE(w:jC):(zeroValue 22).run Tryz.prog w=.ok (c? n? 0) w:=oo
def wf_i64(h:I64 a):(iK o? a).wf=t?:=WalkArith.wf_i64 h
def wf_u64(h:U a):(iK n? a).wf=t?:=WalkArith.wf_u64 h
def RB(h:UB m)(a:I):U (k8 m a):=by
 induction m with
 |nil=>simp[k8,U]
 |cons x m b=>
  obtain⟨c,d⟩:=h.cons;unfold k8;split
  .exact c
  exact b d
variable{w:jC}{B k:O}
def Mp.look(h:Mp w B k m)(e:I64 a):(eU 498 (l? (M B)) (c? o? a) u?).run Tryz.prog w=.ok (c? n? (k8 m a)) w:=by
 obtain⟨c,d,b,_⟩:=World.ownsMap.lookup_int h law Tryz.underlying498 Tryz.underlying22 (zeroE _) (f_ Tryz.underlying3 (wf_i64 e));rw[ae7]at b;have:=(Lit.int.inj (DataW.lit.inj b)).2.symm;rw[<-this];exact d
def Mp.update{w:jC}{B k:O}{m:jX}(h:Mp w B k m)(g:k<maxLen)(c:ou m)(e:UB m){a n:I}(j:I64 a)(b:U n):∃w',(fG 498 (l? (M B)) (c? o? a) (c? n? (sat (k8 m a) n))).run Tryz.prog w=.ok () w'/\Mp w' B (k+1) (mY m a n)/\(bY w w' B):=by
 obtain⟨w',f,l,d⟩:=World.ownsMap.update h law Tryz.underlying498 g (f_ Tryz.underlying3 (wf_i64 j)) (plainElem_int Tryz.underlying22 (wf_u64 (uQ (RB e a) b)));exact⟨w',f,by unfold Mp;rw[<-XT c b];exact l,d⟩
def Mp.alloc{w:jC}{B k:O}{m:jX}(h:Mp w B k m)(o:Obj):Mp (w.alloc o) B k m:=World.ownsMap.alloc h o
def Mp.lt{w:jC}{B k:O}{m:jX}(h:Mp w B k m):B<w.heap.size:=World.ownsMap.lt h
variable{w':jC}
def Mp.later(h:Mp w B k m)(a:Below w w w'):Mp w' B k m:=World.ownsMap.kept h (kH a Z) lV
variable{row:w? O}
def Mp.keep(h:Mp w B k m)(b:w.grownBy w' row)(a:M B≠row):Mp w' B k m:=World.ownsMap.kept h b a
def put_any(m:jX)(f a n:I)(B k:O)(J:ou m)(C:UB m)(F:I64 a)(A:U n)(w:jC)(x:Mp w B k m)(T:k<maxLen):jE Tryz.prog 352 #[g? (lI 55 B f),jJ a,jK n] w λe w'=>e=a? (d? #[])/\Mp w' B (k+1) (mY m a n)/\(bY w w' B):=by
 have X:=ah (jR.new w 500 (lI 55 B f));have r:=ah (x.alloc (bG B f));have G0:=ah (jP (jQ w) (bG B f));have hB:=x.lt;have V:=RB C a;have HM:=ah x;clear x;go_in;go_wp2_with fail;generalize w.alloc (bG B f)=b at*;have q:=X.d0;have zx:=X.lt;refine kG (S:=λw'=>w'.cell? ⟨w,0,Z⟩=M (l? (M B))/\Mp w' B k m) (s:=10) (by kernel_rfl) ?_;refine sU ⟨q,r⟩ ?_;refine ye (i:=6) (v:=(c? n? (k8 m a))) rfl (by kernel_rfl) (by kernel_rfl) (by kernel_rfl) (by kernel_rfl) (by decide) (by kernel_rfl) (λ_ _ _ h=>h) (ge ⟨by rfl,?_⟩) ⟨q,r⟩ ?_
 ·(intro w y;obtain⟨s0,R⟩:=y;have s2:=Mp.look R F;go_simp)
 simp only[gL,bd,ak,am];refine sU ⟨q,r⟩ ?_;refine oY 8 λK c=>?_;go_simp;have g:=ah (r.alloc (m? #[jK (k8 m a),jK n] 22));have d:=jP (jQ b) (m? #[jK (k8 m a),jK n] 22);have z:=ah (X.later d);have t:=ah (jR.new b 22 #[jK (k8 m a),jK n]);have j:=ah (G0.trans (d.mono (by omega)));have j:=ah (below_drewN j 1);clear d;have g:Hid (Mp (b.alloc (m? #[jK (k8 m a),jK n] 22)).drew B k m):=g;have z:Hid (jR (b.alloc (m? #[jK (k8 m a),jK n] 22)).drew w 500 (lI 55 B f)):=z;have t:Hid (jR (b.alloc (m? #[jK (k8 m a),jK n] 22)).drew b 22 #[jK (k8 m a),jK n]):=t;have j:Hid (Below w w (b.alloc (m? #[jK (k8 m a),jK n] 22)).drew):=j;generalize(b.alloc (m? #[jK (k8 m a),jK n] 22)).drew=w1 at*;have H:=z.d0;have Y:=t.d0;have N:=t.d1;clear q;refine c.out _ _ (λ_=>⟨H,g⟩) ?_;clear c K;refine az ?_;refine oY 9 λK c=>?_;go_simp;refine(oa (k8 m a) n V A _ b 0 2 Y N).mono ?_;rintro e w2⟨rfl,rfl⟩;refine c.out _ _ (λ_=>⟨H,g⟩) ?_;clear c K;refine az ?_;refine oY 10 λK c=>?_;obtain⟨w3,G,D,L⟩:=g.update T J C F A;have W:=ah D;clear D;go_simp;refine c.out _ _ (λh=>by cases h) ?_;refine az ?_;refine yi ?_;go_wp2;exact bl6 (v:=d? #[]) (by simp[results,Tryz.results352,go_sem]) rfl ⟨rfl,W,jW (kH j _) L⟩
def ag2(w:jC)(f:I)(m:jX)(k:O)(e:bi6)(w':jC):Prop:=
 ∃B,e=a? (d? #[g? (lI 55 B f),j?])/\Mp w' B k m/\w.heap.size<=B/\Below w w w'
def ag3(w:jC)(e:bi6)(w':jC):Prop:=
 ∃s,e=a? (d? #[g? dJ,sC s])/\Below w w w'
def Bo(f:I)(a:ld f=t?)(w:jC):jE Tryz.prog 356 #[jJ f] w (ag2 w f [] 0):=by
 have c:=ah a;have b:=@run_makeMap Tryz.prog;have Y:=ah (jR.new w 500 dJ);have T:=jP (jQ w) bK;go_in;go_wp2_with fail;refine(lK _ _).mono ?_;rintro e w'⟨rfl,rfl⟩;rw[c];go_wp2;exact jF (v:=d? #[g? #[l? (M (w.heap.size+1)),jJ f],j?]) (by simp[results,Tryz.results356,go_sem]) rfl
  ⟨w.heap.size+1,rfl,by have:=World.ownsMap_made (H:=Unit) (w.alloc (m? #[l? (M (w.heap.size+1)),jJ f] 500)) Tryz.prog 3 (plainElem Tryz.prog 22);simpa[Mp,dm]using this,jS,jP (jP (jQ _) _) _⟩
def OG(f:I)(a:ld f=u?)(w:jC):jE Tryz.prog 356 #[jJ f] w (ag3 w):=by
 have c:=ah a;have b:=@run_makeMap Tryz.prog;have Y:=ah (jR.new w 500 dJ);have T:=jP (jQ w) bK;go_in;go_wp2_with fail;refine(lK _ _).mono ?_;rintro e w'⟨rfl,rfl⟩;rw[c];go_wp2;exact jF (v:=d? #[g? dJ,sC ⟨#[110,111,32,115,117,99,104,32,104,105,115,116,111,103,114,97,109]⟩]) (by simp[results,Tryz.results356,go_sem]) rfl ⟨_,rfl,T⟩
structure Rt(f:I)(l:jX):Prop where
 fine:ld f=t?
 rise:ou l
 nz:NZ l
 has:∀x∈l,(lx f x.1).2.2=t?
def BY(h:∀k,k+1<l.length->(mC l k).1<(mC l (k+1)).1):ou l:=by
 induction l with
 |nil=>exact List.Pairwise.nil
 |cons x l f=>
  have a:=f (λk d=>by have:=h (k+1) (by simpa using d);simpa[mC]using this);refine b6.2 ⟨λy c=>?_,a⟩
  cases l with
  |nil=>simp at c
  |cons z l=>
   have b:=h 0 lV;simp[mC]at b;rcases cw.1 c with rfl|e
   .exact b
   have:=(b6.1 a).1 y e;omega
def EY(h:k<l.length):mC l k∈l:=by simp[mC,h]
def L5(h:x∈l):∃k,k<l.length/\mC l k=x:=by
 obtain⟨k,a,e⟩:=ik.1 h;exact⟨k,a,by simp[mC,a,e]⟩
variable{f:I}
def pS(h:kg f l=t?):Rt f l:=by
 unfold kg at h;rw[ba]at h;obtain⟨d,e⟩:=h;have a:∀k,k<l.length->okI f l k=t?:=λk a=>dZ.1 e k (dh.2 a);have c:∀k,k<l.length->(mC l k).2≠0/\(lx f (mC l k).1).2.2=t?/\S9 l k<(mC l k).1:=λk h=>by
  have:=a k h;unfold okI at this;simpa using this
 refine⟨d,BY (λk h=>?_),λx b=>?_,λx b=>?_⟩
 .have:=(c (k+1) h).2.2;rwa[IE]at this
 .obtain⟨k,a,rfl⟩:=L5 b;exact(c k a).1
 obtain⟨k,a,rfl⟩:=L5 b;exact(c k a).2.1
def LN(h:ou l){i j:O}(a:i<j)(b:j<l.length):(mC l i).1<(mC l j).1:=by
 have:=cj.1 h i j jS b a;simpa[mC,b,show i<l.length by omega]using this
def oT.ub(h:oT l):UB l:=λx a=>(h x a).2
def YO(w:jC)(f:I)(A:w? jG)(n cap g B:O)(m:jX)(k:O)(wr:jC):Prop:=
 jR wr w 134 #[jJ f,b? A n cap]/\jR wr (w.heap.size+1) 500 dJ/\jR wr g 500 (lI 55 B f)/\Mp wr B k m/\Below w w wr
variable{g:O}{t:jH}{cs:x? jD}
def CX(h:Mp w B k m)(b:jR w g t cs):g≠B:=by
 rintro rfl;obtain⟨d,a,c,_⟩:=h;unfold jR at b;rw[b]at c
 cases c
def sE(f:I)(A:w? jG)(l:jX)(cap:O)(D:oT l)(hl:l.length<=65536)(z:kg f l=t?)(w:jC)(C:Sb w w A l):jE Tryz.prog 350 #[g? #[jJ f,jN A l cap]] w (ag2 w f l l.length):=by
 have T:Below w w ((w.alloc (m? #[jJ f,jN A l cap] 134)).alloc bK):=jP (jP (jQ _) _) _;have X:=ah ((jR.new w 134 #[jJ f,jN A l cap]).alloc bK);have L:=jR.new (w.alloc (m? #[jJ f,jN A l cap] 134)) 500 dJ;have Y:Hid (jR ((w.alloc (m? #[jJ f,jN A l cap] 134)).alloc bK) (w.heap.size+1) 500 dJ):=by
  have e:(w.alloc (m? #[jJ f,jN A l cap] 134)).heap.size=w.heap.size+1:=by simp
  rw[e]at L;exact L
 clear L;have HS:=ah (Sb.later C T);have O7:=ah C;have R:=pS z;have HR:=ah z;have HF:=ah R.fine;clear C z;go_in;go_wp2_with fail;generalize(w.alloc (m? #[jJ f,jN A l cap] 134)).alloc bK=w0 at*;refine(j_ f A l cap D (by omega) _ HS).mono ?_;rintro e w1⟨rfl,d⟩;rw[HR];replace X:=ah (X.later d);replace Y:=ah (Y.later d);replace T:=Below.two T d;have x0:=X.d0;have H:=X.d1;clear d;go_wp2_with fail;refine(Bo f HF _).mono ?_;rintro e s⟨B,rfl,hM,Q,a⟩;clear x0 H;have x:YO w f A l.length cap s B (ku [] (l.take 0)) 0 (s.alloc (bG B f)):=
  ⟨(X.later a).alloc _,(Y.later a).alloc _,jR.new s _ _,hM.alloc _,jP (Below.two T a) _⟩
 have y:=ah x;have t:w.heap.size<=B:=a_ T.size Q;have zx:=(X.later a).lt;have zy:=(Y.later a).lt;have H:=(X.later a).d1;clear x X Y T hM Q a;go_wp2_with fail;clear H;go_loopw[23] (λi wr=>∃k:O,k<=l.length/\i=c? o? k/\YO w f A l.length cap s B (ku [] (l.take k)) k wr) (λi _=>l.length-(av i).toNat)
 case atStart=>exact⟨0,be _,rfl,y⟩
 obtain⟨k,hk,rfl,X,Y,η,θ,T⟩:=hrel;clear y;have z0:=η.d0;have z1:=η.d1;have zz:=η.lt;have W:=ah X;have c:=ah Y;have HZ:=ah η;have n:=ah θ;clear X Y θ η;by_cases q:k<l.length
 .obtain⟨b,o,rfl,hb,F⟩:=O7.at_ (by omega);obtain⟨h1,h2⟩:=F k q;have i1:=(T.cell (p:=(cP b o k)) hb).trans h1;have i2:=(T.cell (p:=(cE b o k)) hb).trans h2;have ε:b<wr.heap.size:=by have:=T.size;omega
  have HN:Hid (ku [] (l.take (k+1))=mY (ku [] (l.take k)) (mC l k).1 (mC l k).2):=by show _=_;rw[mR q,tI]
  have N:ou (ku [] (l.take k)):=oF List.Pairwise.nil;have J:UB (ku [] (l.take k)):=CM (λ_ h=>by simp at h) (D.take k).ub;obtain⟨u1,u2⟩:=Iu D k;generalize mC l k=V at*;generalize ku [] (l.take k)=m at*;have δ:(0:I)<=k:=jS;have α:(k:I)<l.length:=jS;go_wp2_with fail;refine(put_any m f V.1 V.2 B k N J u1 u2 _ (n.alloc _) O0).mono ?_;rintro e w3⟨rfl,G,g⟩;have nx:=CX n W;have ny:=CX n c;have nz:=CX n HZ;have x:YO w f (bH b o) l.length cap s B (ku [] (l.take (k+1))) (k+1) w3:=
   ⟨(W.alloc _).grown g (λe=>nx (by injection e)),(c.alloc _).grown g (λe=>ny (by injection e)),(HZ.alloc _).grown g (λe=>nz (by injection e)),by rw[HN];exact G,
    (jP T _).grown g (jP T _).size (λj e=>by cases e;exact t)⟩
  have y:=ah x;go_wp2;go_roundw
  case rel=>exact⟨k+1,jS,CJ,y⟩
  exact No
 obtain rfl:k=l.length:=jS;have y0:=c.d0;have y1:=c.d1;have RE:=c.frozen 0;have RD:=c.frozen 1;have HE:Hid (ku [] (l.take l.length)=l):=by show _=_;rw[cl aa,Gj R.rise]
 rw[HE]at n;have β:=c.lt;have K:=(c.kY 0 (l? (M B))).kY 1 (c? o? f);have k0:=K.d0;have k1:=K.d1;go_wp2;refine jF (v:=d? #[g? (lI 55 B f),j?]) (by simp[results,Tryz.results350,go_sem,k0,k1]) rfl ⟨B,rfl,?_,t,?_⟩
 .exact(n.keep (k6 _ _ _ _) (λe=>CX n c (by injection e with e;exact e.symm))).keep (k6 _ _ _ _) (λe=>CX n c (by injection e with e;exact e.symm))
 exact(T.setCell (by show(aZ w);omega) _).setCell (by show(aZ w);omega) _
def Dy(f:I)(A:w? jG)(l:jX)(cap:O)(h:oT l)(s:l.length<=65536)(j:kg f l=u?)(w:jC)(d:Sb w w A l):jE Tryz.prog 350 #[g? #[jJ f,jN A l cap]] w (ag3 w):=by
 have T:Below w w ((w.alloc (m? #[jJ f,jN A l cap] 134)).alloc bK):=jP (jP (jQ _) _) _;have b:=jR.new (w.alloc (m? #[jJ f,jN A l cap] 134)) 500 dJ;have Y:Hid (jR ((w.alloc (m? #[jJ f,jN A l cap] 134)).alloc bK) (w.heap.size+1) 500 dJ):=by
  have e:(w.alloc (m? #[jJ f,jN A l cap] 134)).heap.size=w.heap.size+1:=lV;rw[e]at b;exact b
 have c:=ah (Sb.later d T);have k:=ah j;go_in;go_wp2_with fail;generalize(w.alloc (m? #[jJ f,jN A l cap] 134)).alloc bK=x at*;refine(j_ f A l cap h jS _ c).mono ?_;rintro e t⟨rfl,a⟩;rw[k];replace Y:=ah (Y.later a);replace T:=Below.two T a;have p:=Y.d0;have r:=Y.d1;have n:=Y.frozen 0;have q:=Y.frozen 1;have o:=Y.lt;have K:=(Y.kY 0 (l? Z)).kY 1 (c? o? 0);have g:=K.d0;have m:=K.d1;go_wp2;exact jF (v:=d? #[g? dJ,sC ⟨#[110,111,32,104,105,115,116,111,103,114,97,109]⟩]) (by simp[results,Tryz.results350,go_sem,g,m]) rfl ⟨_,rfl,(T.setCell (by show(aZ w);omega) _).setCell (by show(aZ w);omega) _⟩
section
open Go.RowKit Go.Maps Go.Sort Go.Shelf
def sortsA(m:O):AnyZI.SortsIn Tryz.prog Tryz.sortedA_ren cz m:=
 ⟨λblk b cap d W e a c=>jI.2 (AnyM.slices_Sort_int Tryz.sortA blk b cap d W e a c),
  λp cap W=>jI.2 (AnyM.slices_Sort_int_none Tryz.sortA p cap W)⟩
def Kk(B:O)(w:jC):jE Tryz.prog 359 #[.map (M B)] w λe w'=>e=a? (.func (.func 363) #[] #[jO w])/\w.alloc (lz 60 B)=w':=
 (jI (n:=5)).1 ((AnyZI.keys_in Tryz.keysA cz 5 trivial rfl (M B) w).mono λ_ _⟨a,b⟩=>⟨a,b.symm⟩)
def DQ(B k:O)(m:jX)(h:ou m)(w:jC)(o:Mp w B k m)(p:m.length<=65536):jE Tryz.prog 358 #[.func (.func 363) #[] #[jO w]] (w.alloc (lz 60 B)) λe w'=>∃v,e=a? v/\ w'.ownsRow (w.heap.size+1) 3 1 v m.length ((m.map (·.1)).map encZ)/\Below (w.alloc (lz 60 B)).heap.size (w.alloc (lz 60 B)) w':=by
 refine(jI (n:=5)).1 ?_;have c:SeqGives cz 2 Tryz.prog 363 #[jO w] encZ (λd=>d.Perm (intKeys (dm m))) (gZ (dm m)) (w.alloc (lz 60 B)):=
  AnyZI.keys_gives (ρ:=Tryz.keysA_ren) {Tryz.keysA with} cz _ trivial rfl jS w B k (dm m) _ lV lV (World.ownsMap.alloc o _)
 have g:=AnyZI.sorted_in Tryz.sortedA cz 5 trivial trivial trivial trivial rfl jS (sortsA _) (enters_of Tryz.func362 oo rfl) 363 #[jO w] trivial (enters_of Tryz.func363 oo rfl) _ _ (by rw[Mu];unfold maxLen;omega) (by rw[Mu];omega) _ c;change bj2 _ _ Tryz.prog 358 _ _ _ at g;refine g.mono ?_;rintro e w'⟨v,d,rfl,f,a,_,l⟩;have b:d.length=m.length:=by have:=f.length_eq;rw[Mv]at this;simpa using this
 rw[FO h f,b]at a;have j:(w.alloc (lz 60 B)).heap.size=w.heap.size+1:=lV;rw[j]at a;exact⟨v,rfl,a,l⟩
end
def ph(w:jC)(base:O)(v:jD)(l:jX):Prop:=
 ∃A c,v=b? A l.length c/\l.length<=c/\(A=Z->c=0)/\Sb w w A l/\oV w base A
def ph.from{w:jC}{base a:O}{v:jD}{l:jX}(h:ph w base v l)(j:a<=base):ph w a v l:=by
 obtain⟨A,c,e,b,f,d,g⟩:=h;exact⟨A,c,e,b,f,d,g.from j⟩
def po(w:jC)(base:O):ph w base aO []:=⟨Z,0,rfl,ay _,λ_=>rfl,Rd.none_,λ_ e=>LS⟩
variable{n:O}{v:jD}
def N2{base:O}{e:jH}(c:n=l.length)(h:w.ownsRow base e 2 v n (mD l)):ph w base v l:=by
 subst c;have f:=h;rcases h.2 with⟨rfl,k⟩|⟨g,cap,b,rfl,m,j,a,_⟩
 .have:=da k;subst this;exact po w base
 exact⟨_,cap,rfl,a,(λe=>LS),Rd.own f,λ_ d=>by cases d;exact⟨m,b,_,j⟩⟩
def Jw{b off:O}(h:Sb w B (bH b off) l)(f:jR w g t cs)(m:∀v∈cs,∀n,v≠br n? n)(k:l≠[]):b≠g:=by
 rintro rfl;have a:0<l.length:=by cases l with|nil=>exact H? rfl k|cons x r=>simp
 obtain⟨p,c,e,o,j⟩:=h.at_ a
 cases e
 have d:=(j 0 a).2;rw[f.cell]at d;exact m _ (h_ d) _ rfl
variable{A:w? jG}
def Nh(h:Sb w w A l)(p:jR w g t cs)(q:∀v∈cs,∀n,v≠br n? n)(m:(bY w w' g)):Sb w' w' A l:=λf=>by
 have c:l≠[]:=by rintro rfl;exact f rfl
 obtain⟨b,d,e,k,o⟩:=h f;subst e;have a:=Jw h p q c;exact⟨b,d,rfl,cn k m.size,λj v r=>(co (m.block b k (λe=>a (by injection e)))).trans (o j v r)⟩
def wD{base b:O}{a:x? jD}(h:ph w base v l)(x:jR w b t cs)(z:∀v∈cs,∀n,v≠br n? n)(j:(bY w w' b))(d:jR w' b t a):ph w' base v l:=by
 obtain⟨A,c,e,y,B,m,p⟩:=h;refine⟨A,c,e,y,B,Nh m x z j,λg r=>?_⟩;obtain⟨s,q,o,k⟩:=p g r;refine⟨s,?_⟩;by_cases f:g.block=b
 .rw[f];exact⟨_,_,d⟩
 exact⟨q,o,(j.block _ (oh k) (λe=>f (by injection e))).trans k⟩
def sS(w:jC)(x:I×jX×I)(e:bi6)(w':jC):Prop:=
 Below w w w'/\∃v,e=a? (d? #[g? #[jJ x.1,v],jJ x.2.2])/\ph w' w v x.2.1
variable{xs:E jD}
def CS{base:O}{e:jH}{size:O}(h:w.ownsRow base e size v n xs)(j:O)(a:v.ownBlock=M j):base<=j:=by
 obtain⟨A,c,rfl,_,_,d⟩:=lB h
 cases A with
 |none=>cases a
 |some b=>cases a;exact(d b rfl).1
def Tryz.Ez:(Tryz.prog.info? 303).map (λi=>(i.zero,i.size,i.bytes))=M (M (g? #[jJ 0,jK 0]),2,16):=oo
def _root_.Go.Proofs.YtfcnedcahoifoaaGreatDoor.Rd.grown(h:Rd w B A xs)(n:B<=w.heap.size)(l:w.grownBy w' row)(g:∀c,A=M c->M c.block≠row):Rd w' B A xs:=λd=>by
 obtain⟨b,a,e,k,f⟩:=h d;exact⟨b,a,e,k,λj u m=>(co (l.block b jS (g _ e))).trans (f j u m)⟩
def Hd:∀{m:jX}{k:O},ou m->k<m.length->k8 m (mC m k).1=(mC m k).2
 |[],_,_,h=>by simp at h
 |x::m,0,_,_=>by simp[k8,mC]
 |x::m,k+1,c,h=>by
  obtain⟨b,d⟩:=b6.1 c;have a:k<m.length:=by simpa using h
  have e:mC (x::m) (k+1)=mC m k:=by simp[mC]
  have:=b _ (EY a);rw[e,k8,A? (by omega)];exact Hd d a
def KD(l:jX)(x:I×I):mD (l++[x])=mD l++[c? o? x.1,c? n? x.2]:=by simp[mD]
def Ov(h:x∈pV m):x∈m:=(eN.1 h).1
def SwI(w:jC)(B:O)(f:I)(wr:jC):Prop:=
 jR wr w 500 (lI 55 B f)/\jR wr (w.heap.size+1) 134 #[jJ 0,jM]/\(bY w wr B)/\w.heap.size+1<wr.heap.size
def GaI(w:jC)(B k a base:O)(f:I)(b:w? jG)(m:jX)(j:O)(wr:jC):Prop:=
 jR wr w 500 (lI 55 B f)/\jR wr (w.heap.size+1) 134 #[jJ 0,jM]/\(bY w wr B)/\
 Mp wr B k m/\Rd wr base b ((m.map (·.1)).map encZ)/\base<=wr.heap.size/\
 ∃A c,jR wr a 134 #[jJ f,b? A j c]/\wr.ownsRow base 303 2 (b? A j c) j (mD (m.take j))
def lM(h:Mp w B k m)(a:jR w g t cs):M g≠M B:=λe=>CX h a (by injection e)
def tV(m:jX)(f:Int)(B k:Nat)(hm:ou m)(hU:oT m)(hl:m.length<=65536)(w:jC)(F:Mp w B k m):jE Tryz.prog 354 #[.agg (lI 55 B f)] w λe w'=>(bY w w' B)/\∃v,e=.returned (.agg #[jJ f,v])/\ph w' w v (pV m):=by
 obtain⟨i0,hi0,hz0,hz1,hz2⟩:=bi5 Tryz.Ez;have T:Below w w ((w.alloc (bG B f)).alloc aI):=jP (jP (jQ _) _) _;have X:=ah ((jR.new w 500 (lI 55 B f)).alloc aI);have Y0:=jR.new (w.alloc (bG B f)) 134 #[jJ 0,jM];have Y:Hid (jR ((w.alloc (bG B f)).alloc aI) (w.heap.size+1) 134 #[jJ 0,jM]):=by
  have e:(w.alloc (bG B f)).heap.size=w.heap.size+1:=by simp
  rw[e]at Y0;exact Y0
 clear Y0;have hBl:=F.lt;have Γ:Mp ((w.alloc (bG B f)).alloc aI) B k m:=(F.alloc _).alloc _;have ω:((w.alloc (bG B f)).alloc aI).heap.size=w.heap.size+2:=by simp
 clear F;go_in;go_wp2_with(first
  |(at_range;refine wpList_range_own _ rfl _ 498 rfl 3 22 law Tryz.underlying498 _ B k _ rfl Γ ?_;intro w1 D J hs0)
  |go_in)
 have H:SwI w B f w1:=⟨X.grown J (by simp),Y.grown J (by simp),jW (kH T _) (J.but _),by omega⟩;rw[ω]at D⊢;have s:=ah H;have HG:=ah D;clear H X Y T Γ J hs0 ω D;obtain⟨r,hr⟩:∃r,w.heap.size+2=r:=⟨_,rfl⟩;rw[hr]at HG⊢;have hr1:w.heap.size+1<r:=by omega
 clear hr;go_frame;go_loopw[3] (λ_ wr=>∃(left:Lit->Bool)(cnt:Nat),wr.ranges Tryz.prog 3 (plainElem Tryz.prog 22) B r k (dm (pR m left)) left cnt/\SwI w B f wr) (λ_ wr=>wr.rangeLeft B r)
 case atStart=>exact⟨_,_,by rw[FE (dm m) rfl];exact HG,s⟩
 clear s HG;obtain⟨left,cnt,o,X,Y,G,hz⟩:=hrel;have P:=ah X;have l:=ah Y;have γ:=ah G;clear X Y G;go_wp2_with(first
  |(at_next;refine wpList_next_ranges_ii _ rfl _ rfl 3 22 .i64 .u64 law Tryz.underlying3 Tryz.underlying22 B r k _ _ _ rfl o ?_ ?_)
  |go_in)
 .intro _ ν;have F:Mp wr B k (pV m):=by have:=o.owns;rw[M8 ν]at this;exact this
  have η:ou (pV m):=KT hm;have χ:oT (pV m):=λx hx=>hU x (Ov hx);have κ:(pV m).length<=65536:=a_ (fe _ _) hl;clear o ν hm hU hl;obtain⟨a,α⟩:∃x,pV m=x:=⟨_,rfl⟩;rw[α]at F η χ κ;have HD:=ah α;clear α;have HM:=ah F;clear F;have x0:=P.d0;have x1:=P.d1;have zx:=P.lt;go_wp2_with fail;have y:=jP (jQ wr) (.cells #[jJ f,jM] 134);have GX:=ah (jR.new wr 134 #[jJ f,jM]);have M1:=ah (HM.later y);have L:=ah (P.later y);have W:=ah (l.later y);have G1:=ah (jW γ (kH y _));have hzx:wr.heap.size<(wr.alloc (.cells #[jJ f,jM] 134)).heap.size:=GX.lt;clear y x0 x1 HM P l γ;generalize wr.alloc (.cells #[jJ f,jM] 134)=C at*;refine(Kk B C).mono ?_;rintro e w'⟨rfl,rfl⟩;go_wp2_with fail;refine(DQ B k a η C M1 κ).mono ?_;rintro e Q⟨v,rfl,V,μ⟩;have Kt:Below C C Q:=Below.two (jP (jQ C) _) μ;obtain⟨Ak,ck,rfl,_,φ,Ξ⟩:=lB V;have NK:Hid (∀ad,Ak=some ad->wr.heap.size<ad.block):=λad e=>by have:=(Ξ ad e).1;omega
  have H:GaI w B k wr Q f Ak a 0 Q:=
   ⟨L.later Kt,W.later Kt,jW G1 (kH Kt _),M1.later Kt,φ,ay _,none,0,GX.later Kt,dY _ _ _ _⟩
  have s:=ah H;have hz3:wr.heap.size<Q.heap.size:=by have:=Kt.size;omega
  have nx:w.heap.size≠wr.heap.size:=by omega
  have ny:w.heap.size+1≠wr.heap.size:=by omega
  have nB:B≠wr.heap.size:=by omega
  clear H V φ Ξ μ Kt L W G1 M1 GX;go_wp2_with fail;generalize wr.heap.size=gx at*;go_loopw[29] (λi w4=>∃j:Nat,j<=a.length/\i=.int .i64 j/\GaI w B k gx Q f Ak a j w4) (λi _=>a.length-(av i).toNat)
  case atStart=>exact⟨0,be _,rfl,s⟩
  clear s;obtain⟨j,hj,rfl,X,Y,G,M,RK,ε,A,c,Z,hO⟩:=hrel;have x0:=X.d0;have z1:=Z.d1;have z0:=Z.d0;have zx':=X.lt;have zz:=Z.lt;have P:=ah X;have l:=ah Y;have HZ:=ah Z;have HG:=ah G;have HM:=ah M;have HR:=ah RK;have HO:=ah hO;clear X Y Z G M RK hO;by_cases h:j<a.length
  .obtain⟨b,off,rfl,hb,Ψ⟩:=HR.at_ (by simp;omega);have i1:=Ψ j (.int .i64 (mC a j).1) (by simp[mC,h]);have hbn:=NK _ rfl;simp only at hbn;have lk:=HM.look (χ _ (EY h)).1;rw[Hd η h]at lk;have HF:Hid (mD (a.take (j+1))=mD (a.take j)++[.int .i64 (mC a j).1,.int .u64 (mC a j).2]):=by show _=_;rw[mR h,KD]
   generalize mC a j=R at*;have hi1:(0:Int)<=j:=by omega
   have hi2:(j:Int)<a.length:=by omega
   have hbw:b<wr.heap.size:=by omega
   have xe:=ah (HO.alloc (lz 39 R));have HR1:Hid (Rd (wr.alloc (lz 39 R)) (dE wr) (aM wr) [jJ R.1,jK R.2]):=λ_=>
    ⟨wr,0,rfl,by omega,λi u hu=>by rw[au,(jR.new wr 303 #[jJ R.1,jK R.2]).cell];simpa using hu⟩
   have fz:=HZ.frozen 1;clear Ψ;go_wp2_with(first
    |(
     at_builtin
     refine kr _ rfl (.tmp 34) (.tmp 41) 132 rfl Q 303 i0 (.agg #[jJ 0,jK 0]) 2 16 Tryz.underlying132 hi0 hz0 hz1 hz2 rfl (by decide) (.slice A j c) j _ rfl xe (dE wr) (aM wr) 1 1 [jJ R.1,jK R.2] rfl (by simp) HR1 (by intro u hu;simp at hu;rcases hu with rfl|rfl<;>rfl) (by unfold maxLen;omega) (by omega) (by simp;omega) ?_
     intro v5 w5 d ψ _
     rw[<-HF]at d
     obtain⟨A5,c5,rfl,_,_,_⟩:=lB d
     have BC:=ah d
     have ob:∀q,(eo A j c).ownBlock=some q->Q.heap.size<=q:=λq e=>CS xe q e
     have Wc:wr.grownBy w5 (eo A j c).ownBlock:=jW (World.grownBy_alloc wr _ _) ψ
     have Zv:=ah Wc
     have z:=ah ob
     have z5:=(HZ.grown Wc (λe=>by have:=ob _ e.symm;omega))
     have yX:=ai z5
     have z51:=z5.d1
     have z50:=z5.d0
     have fz5:=z5.frozen 1
     have zl5:=z5.lt
     clear d ψ Wc ob z5 z1 z0 fz i1 lk x0)
    |go_in)
   have N:=k6 w5 gx 1 (.slice A5 (j+1) c5);have X5:=P.out.grown Zv.out (λe=>by have:=z.out _ e.symm;omega);have Y5:=l.grown Zv (λe=>by have:=z _ e.symm;omega);have M5:=HM.keep Zv (λe=>by have:=z _ e.symm;omega);have R5:=HR.grown ε Zv (λad e=>by cases e;intro e;have:=z _ e.symm;simp at this;omega);have G5:(bY w w5 B):=HG.andThen Zv (λq e=>ge (by have:=z _ e;omega));have z5s:wr.heap.size<=w5.heap.size:=Zv.size;have H:GaI w B k gx Q f (bH b off) a (j+1) (w5.setCell ⟨gx,1,none⟩ (.slice A5 (j+1) c5)):=
    ⟨X5.grown N (λe=>nx (by injection e)),Y5.grown N (λe=>ny (by injection e)),G5.andThen N (λq e=>ge (by cases e;omega)),M5.keep N (λe=>nB (by injection e)),
     R5.grown (by omega) N (λad e=>by cases e;intro e;injection e with e;have e':b=gx:=e;omega),by have:=N.size;omega,A5,c5,by have:=yX.kY 1 (.slice A5 (j+1) c5);simpa using this,BC.kept N (by
      cases ho:(eo A5 (j+1) c5).ownBlock with
      |none=>exact .inl rfl
      |some q=>right;intro e;injection e with e;have:=CS BC q ho;omega)⟩
   have s:=ah H;clear H X5 Y5 M5 R5 G5 N BC z51 z50 fz5;go_wp2_with fail;go_roundw
   case rel=>exact⟨j+1,by omega,by go_num,s⟩
   simp[av];omega
  obtain rfl:j=a.length:=by omega
  have y0:=l.d0;have y1:=l.d1;have RE:=l.frozen 0;have RD:=l.frozen 1;have zy:=l.lt;have HE:=HO;rw[cl aa]at HE;have HH:Hid (ph wr w (.slice A a.length c) a):=(N2 rfl HE).from (by omega);have K:=(l.kY 0 (.int .i64 f)).kY 1 (.slice A a.length c);have K2:jR ((wr.setCell (aE w) (.int .i64 f)).setCell (bS w) (.slice A a.length c)) (w.heap.size+1) 134 #[jJ f,jN A a c]:=by simpa using K
  have HK:=ah K2;have k0:=K2.d0;have k1:=K2.d1;have G5:=jW (k6 wr (w.heap.size+1) 0 (.int .i64 f)) (k6 _ (w.heap.size+1) 1 (.slice A a.length c));clear HE K K2;go_wp2_with fail;refine jF (v:=.agg #[jJ f,jN A a c]) (by simp[results,Tryz.results354,go_sem,k0,k1]) rfl ⟨HG.andThen G5 (λq e=>ge (by cases e;omega)),_,rfl,?_⟩;rw[HD];exact wD HH l (by intro v hv n e;simp at hv;rcases hv with rfl|rfl<;>cases e) G5 HK
 intro x c w1 ρ hwx hwc Δ Ω g h β hs1 hen;have L:=P.grown β (by intro e;injection e with e;omega);have W:=l.grown β (by intro e;injection e with e;omega);have G1:(bY w w1 B):=γ.andThen β (λj hj=>by cases hj;exact ge (by omega));have x0:=L.d0;by_cases θ:c=0
 .subst θ;have s:Hid (∀C,(bY w1 C B)->Mp w1 B k (pR m left)->SwI w B f C):=λC hg F=>⟨L.grown hg (lM F L),W.grown hg (lM F W),jW G1 hg,by have:=hg.size;omega⟩;clear L W G1;go_wp2_with(first
   |(at_delete;refine wpList_delete_ranges _ rfl _ _ 498 3 rfl 22 law Tryz.underlying498 _ B r k _ _ _ rfl g _ _ rfl (f_ Tryz.underlying3 hwx) ?_;intro C ξ p hle δ;go_frame)
   |go_in)
  rw[Maps.strike_twice]at p;have H:=s C δ.grown g.owns;go_roundw
  case rel=>exact⟨_,ξ,by rw[<-DO hm Ω Δ];exact p,H⟩
  rw[p.left_eq,o.left_eq];omega
 have dc:(c==0)=false:=by simp[θ]
 have s:Hid (SwI w B f w1):=⟨L,W,G1,by omega⟩;clear L W G1;go_wp2_with fail;go_roundw
 case rel=>exact⟨_,ρ,by rw[<-FD hm Ω θ Δ];exact g,s⟩
 rw[g.left_eq,o.left_eq];exact h
def pc(f:I)(l:jX)(v n:I):I×jX×I:=if kg f l=t? then(f,qa l (lj f v) n,0)else(0,[],90)
def Lf(f:I){v:I}(a:U v):0<=lj f v/\lj f v<=512:=by
 unfold lj;split
 .rename_i h;obtain⟨e,g⟩:=qZ h;obtain⟨c,d⟩:=a;have:=Wh (f:=f.toNat) (v:=v.toNat) (by omega);have b:2^f.toNat<=8:=ep (n:=2) (j:=3) (by decide) (by omega);omega
 omega
def q_(f:I){v:I}(a:U v):I64 (lj f v):=by have:=Lf f a;unfold I64;omega
def Ac{n:I}(h:oT m)(f:I64 a)(c:U n):oT (mY m a n):=λx b=>by
 refine⟨?_,wg h.ub c x b⟩;rcases rF b with e|⟨z,d,e⟩
 .rw[e];exact f
 rw[<-e];exact(h z d).1
variable{c:O}
def JW:∀v∈(#[jJ a,b? A n c]:x? jD),∀m,v≠br n? m:=by
 intro v b m e;simp at b;rcases b with rfl|rfl<;>cases e
def Dj(w:jC)(g:O)(x y:jD):w.grownBy (rU 57 w g x y) (M g):=jW (k6 _ _ _ _) (k6 _ _ _ _)
def _root_.Go.Proofs.YtfcnedcahoifoaaGreatDoor.jR.set2{a b x y:jD}(h:jR w g t #[a,b]):jR (rU 57 w g x y) g t #[x,y]:=by
 have:=(h.kY 0 x).kY 1 y;simpa using this
def nA{a:jC}(h:Below a a w)(b:a.heap.size<=g)(x y:jD):Below a a (rU 57 w g x y):=ly h (Dj _ _ _ _) b
def nt{base:O}{x y:jD}(h:ph w base v l)(b:jR w g t #[jJ a,b? A n c]):ph (rU 57 w g x y) base v l:=
 wD h b JW (Dj _ _ _ _) b.set2
def Sv(f:I)(A:w? jG)(l:jX)(cap:O)(v n:I)(hv:U v)(J:U n)(D:oT l)(hl:l.length<=60000)(hr:kg f l=t?)(w:jC)(hS:Sb w w A l):jE Tryz.prog 346 #[g? #[jJ f,jN A l cap],jK v,jK n] w (sS w (f,qa l (lj f v) n,0)):=by
 have T:Below w w ((w.alloc (m? #[jJ f,jN A l cap] 134)).alloc aI):=jP (jP (jQ _) _) _;have Y:=ah (jR.new2 w (m? #[jJ f,jN A l cap] 134) 134 #[jJ 0,jM]);have HS:=ah (Sb.later hS T);have R:=pS hr;have W:=q_ f hv;have HR:=ah hr;go_in;go_wp2_with fail;generalize(w.alloc (m? #[jJ f,jN A l cap] 134)).alloc aI=w0 at*;refine(sE f A l cap D jS HR _ HS).mono ?_;rintro e z⟨B,rfl,hM,hB,r⟩;have X:=ah (jR.new z 500 (lI 55 B f));have h:=jP (jQ z) (bG B f);replace Y:=ah ((Y.later r).later h);have t:=a_ T.size hB;have T1:=ah (Below.two (Below.two T r) h);have η:=ah (hM.later h);go_wp2_with fail;generalize z.alloc (bG B f)=w2 at*;have V:=X.d0;have x1:=X.d1;have zx:=X.lt;obtain⟨j,C⟩:∃b,lj f v=b:=⟨_,rfl⟩;have Ct:=ah C;rw[C]at W;refine bi1 (S:=λw'=>w'.cell? ⟨z,0,Z⟩=M (l? (M B))/\w'.cell? ⟨z,1,Z⟩=M (c? o? f)) oo ⟨V,x1⟩ (λc=>?_);refine re c ?_;refine pL 4 λK L=>?_;go_simp;refine(vK f v hv _).mono ?_;rintro e w3⟨rfl,q,rfl⟩;rw[Ct];refine L.out _ _ ⟨V,x1⟩ (λc=>?_);refine az ?_;refine pL 6 λK L=>?_;go_simp;refine(put_any l f j n B l.length R.rise D.ub W J _ (by exact η) O0).mono ?_;rintro e w4⟨rfl,β,d⟩;have m:(bY w2 w4 B):=⟨d.os,d.tape,d.output,d.size,d.block⟩;have s:=ah (X.grown m (lM η X));have H:=ah (Y.grown m (lM η Y));have T4:=ah (ly T1 m t);have M4:=ah β;refine L.out _ _ ⟨s.d0,s.d1⟩ (λc=>?_);refine az ?_;refine hdn ?_;have V:=s.d0;have x1:=s.d1;have y0:=H.d0;have y1:=H.d1;have ε:=s.lt;go_wp2_with fail;refine(tV (mY l j n) f B (l.length+1) (ul R.rise) (Ac D W J) (by have:=tH l j n;omega) _ M4).mono ?_;rintro e w5⟨m,v5,rfl,g⟩;rw[Ow D.ub R.nz J]at g;obtain⟨F,G,rfl,α,γ,δ,N⟩:=g;have g:ph w5 w (b? F (qa l j n).length G) (qa l j n):=⟨F,G,rfl,α,γ,δ,N.from T4.size⟩;have k:=ah (H.grown m (lM M4 H));have T5:=ah (ly T4 m t);have HH:=ah g;have VI:=k.d0;have VH:=k.d1;have RE:=k.frozen 0;have RD:=k.frozen 1;have zy:=k.lt;have K:=k.set2 (x:=c? o? f) (y:=b? F (qa l j n).length G);have k0:=K.d0;have k1:=K.d1;go_wp2_with fail;rw[Ct];exact jF (v:=d? #[g? #[jJ f,b? F (qa l j n).length G],jJ 0]) (by simp[results,Tryz.results346,go_sem,k0,k1]) rfl
  ⟨nA T5 jS _ _,_,rfl,nt HH k⟩
def add_bad(f:I)(A:w? jG)(l:jX)(cap:O)(v n:I)(m:oT l)(C:l.length<=60000)(o:kg f l=u?)(w:jC)(j:Sb w w A l):jE Tryz.prog 346 #[g? #[jJ f,jN A l cap],jK v,jK n] w (sS w (0,[],90)):=by
 have T:Below w w ((w.alloc (m? #[jJ f,jN A l cap] 134)).alloc aI):=jP (jP (jQ _) _) _;have Y:=ah (jR.new2 w (m? #[jJ f,jN A l cap] 134) 134 #[jJ 0,jM]);have g:=ah (Sb.later j T);have p:=ah o;go_in;go_wp2_with fail;generalize(w.alloc (m? #[jJ f,jN A l cap] 134)).alloc aI=D at*;refine(Dy f A l cap m jS p _ g).mono ?_;rintro e d⟨s,rfl,b⟩;have a:=jP (jQ d) bK;replace Y:=ah ((Y.later b).later a);replace T:=Below.two (Below.two T b) a;go_wp2_with fail;generalize d.alloc bK=c at*;refine(kR s _).mono ?_;rintro e h⟨rfl,rfl⟩;have a:=jP (jQ c) (m? #[jL s] 510);replace Y:=ah (Y.later a);replace T:=Below.two T a;generalize c.alloc (m? #[jL s] 510)=h at*;have F:=Y.d0;have z:=Y.d1;have r:=Y.frozen 0;have B:=Y.frozen 1;have t:=Y.lt;have K:=Y.set2 (x:=c? o? 0) (y:=b? Z 0 0);have k:=K.d0;have q:=K.d1;go_wp2;exact jF (v:=(rO 47)) (by simp[results,Tryz.results346,go_sem,k,q]) rfl
  ⟨nA T jS _ _,_,rfl,nt (po _ _) Y⟩
def add_any(f:I)(A:w? jG)(l:jX)(cap:O)(v n:I)(e:U v)(d:U n)(c:oT l)(a:l.length<=60000)(w:jC)(b:Sb w w A l):jE Tryz.prog 346 #[g? #[jJ f,jN A l cap],jK v,jK n] w (sS w (pc f l v n)):=by
 cases h:kg f l with
 |true=>rw[pc,B? h];exact Sv f A l cap v n e d c a h w b
 |false=>rw[pc,A? (by simp[h])];exact add_bad f A l cap v n c a h w b
def l8(f:I)(l:jX)(g:I)(m:jX):I×jX×I:=if kg f l=t?/\kg g m=t?/\g=f then(f,ku l m,0)else(0,[],90)
def _root_.Go.Proofs.YtfcnedcahoifoaaGreatDoor.jR.Ua(w:jC)(o a:Obj)(t:jH)(cs:x? jD):jR (((w.alloc o).alloc a).alloc (m? cs t)) (aN w) t cs:=by
 have h:=jR.new ((w.alloc o).alloc a) t cs;have e:((w.alloc o).alloc a).heap.size=w.heap.size+1+1:=lV;rwa[e]at h
def Yn(w:jC)(f:I)(a B:O)(x:jX)(k:O)(wr:jC):Prop:=
 jR wr (aN w) 134 #[jJ 0,jM]/\jR wr a 500 (lI 55 B f)/\Mp wr B k x/\Below w w wr
def qo:∀{m l:jX},oT l->oT m->oT (ku l m)
 |[],_,h,_=>h
 |x::m,l,h,a=>qo (m:=m) (Ac h (a x lV).1 (a x lV).2) (λy b=>a y (by simp[b]))
def rh:∀(m l:jX),(ku l m).length<=l.length+m.length
 |[],l=>by simp[ku]
 |x::m,l=>by
  have a:=rh m (mY l x.1 x.2);have b:=tH l x.1 x.2;rw[yB];simp only[c_];omega
def vv(f:I)(A C:w? jG)(l m:jX)(cap n:O)(hU:oT l)(hV:oT m)(hl:l.length<=30000)(hm:m.length<=30000)(hr:kg f l=t?)(hq:kg f m=t?)(w:jC)(hS:Sb w w A l)(hT:Sb w w C m):jE Tryz.prog 349 #[g? #[jJ f,jN A l cap],g? #[jJ f,jN C m n]] w (sS w (f,ku l m,0)):=by
 have T:Below w w (((w.alloc (m? #[jJ f,jN A l cap] 134)).alloc (m? #[jJ f,jN C m n] 134)).alloc aI):=jP (jP (jP (jQ _) _) _) _;have Y:=ah (jR.Ua w (m? #[jJ f,jN A l cap] 134) (m? #[jJ f,jN C m n] 134) 134 #[jJ 0,jM]);have P:=ah (((jR.new w 134 #[jJ f,jN A l cap]).alloc (m? #[jJ f,jN C m n] 134)).alloc aI);have Q:=ah ((jR.new2 w (m? #[jJ f,jN A l cap] 134) 134 #[jJ f,jN C m n]).alloc aI);have HS:=ah (Sb.later hS T);have W:=ah (Sb.later hT T);have θ:=ah hT;have R:=pS hr;have R2:=pS hq;have HR:=ah hr;have HQ:=ah hq;clear hS hr hT hq;go_in;go_wp2_with fail;generalize((w.alloc (m? #[jJ f,jN A l cap] 134)).alloc (m? #[jJ f,jN C m n] 134)).alloc aI=w0 at*;refine(sE f A l cap hU (by omega) HR _ HS).mono ?_;rintro e s⟨B,rfl,hM,hB,d⟩;have X:=ah (jR.new s 500 (lI 55 B f));have c:=jP (jQ s) (bG B f);replace Y:=ah ((Y.later d).later c);replace P:=ah ((P.later d).later c);replace Q:=ah ((Q.later d).later c);have H:w.heap.size<=B:=a_ T.size hB;have T1:=ah (Below.two (Below.two T d) c);have φ:=ah (hM.later c);replace W:=ah (Sb.later (Sb.later W d) c);have p0:=P.d0;have q0:=Q.d0;have q1:=Q.d1;have zp:=P.lt;have zq:=Q.lt;have zy:=Y.lt;clear T d c hM hB HS;go_wp2_with fail;generalize s.alloc (bG B f)=w2 at*;refine(j_ f C m n hV (by omega) _ W).mono ?_;rintro e w3⟨rfl,a⟩;rw[HQ];have N:Yn w f s B (ku l (m.take 0)) l.length w3:=⟨Y.later a,X.later a,φ.later a,Below.two T1 a⟩;have V:=ah N;replace P:=ah (P.later a);replace Q:=ah (Q.later a);clear p0 q0 q1;have p0:=P.d0;have q0:=Q.d0;have q1:=Q.d1;have zp:=P.lt;have zq:=Q.lt;clear N a X Y φ T1 W;go_wp2_with fail;clear p0 q0 q1 P Q;go_loopw[39] (λi wr=>∃k:O,k<=m.length/\i=c? o? k/\Yn w f s B (ku l (m.take k)) (l.length+k) wr) (λi _=>m.length-(av i).toNat)
 case atStart=>exact⟨0,be _,rfl,V⟩
 obtain⟨k,hk,rfl,Y,ρ,φ,T⟩:=hrel;clear V;have z0:=ρ.d0;have z1:=ρ.d1;have zz:=ρ.lt;have L:=ah Y;have HZ:=ah ρ;have o:=ah φ;have j:ou (ku l (m.take k)):=oF R.rise;have h:=qo hU (hV.take k);by_cases z:k<m.length
 .obtain⟨b,t,rfl,hb,β⟩:=θ.at_ jS;obtain⟨h1,h2⟩:=β k z;have i1:=(T.cell (p:=(cP b t k)) hb).trans h1;have i2:=(T.cell (p:=(cE b t k)) hb).trans h2;have ξ:b<wr.heap.size:=by have:=T.size;omega
  have HN:Hid (ku l (m.take (k+1))=mY (ku l (m.take k)) (mC m k).1 (mC m k).2):=by show _=_;rw[mR z,tI]
  obtain⟨u1,u2⟩:=Iu hV k;generalize mC m k=it at*;generalize ku l (m.take k)=x at*;have ν:(0:I)<=k:=jS;have κ:(k:I)<m.length:=jS;go_wp2_with fail;refine(put_any x f it.1 it.2 B (l.length+k) j h.ub u1 u2 _ (o.alloc _) O0).mono ?_;rintro e w4⟨rfl,γ,r⟩;have N:Yn w f s B (ku l (m.take (k+1))) (l.length+(k+1)) w4:=
   ⟨(L.alloc _).grown r (lM o L),(HZ.alloc _).grown r (lM o HZ),by rw[HN];exact γ,ly (jP T _) r H⟩
  have V:=ah N;go_wp2;go_roundw
  case rel=>exact⟨k+1,jS,CJ,V⟩
  exact No
 obtain rfl:k=m.length:=jS;rw[cl aa]at o j h;have G:(ku l m).length<=65536:=by have:=rh m l;omega
 have F:=ah (tU (rG hU.ub hV.ub R.nz R2.nz));obtain⟨x,hx⟩:∃x,ku l m=x:=⟨_,rfl⟩;rw[hx]at o j h G F;have HX:=ah hx;go_wp2_with fail;refine(tV x f B (l.length+m.length) j h G _ o).mono ?_;rintro e w5⟨EJ,v5,rfl,g⟩;rw[F]at g;obtain⟨J,c5,rfl,δ,ε,η,α⟩:=g;have g:ph w5 w (b? J x.length c5) x:=⟨J,c5,rfl,δ,ε,η,α.from T.size⟩;have q:=ah (L.grown EJ (lM o L));have T5:=ah (ly T EJ H);have HH:=ah g;have VI:=q.d0;have VH:=q.d1;have RE:=q.frozen 0;have RD:=q.frozen 1;have zy:=q.lt;have K:=q.set2 (x:=c? o? f) (y:=b? J x.length c5);have k0:=K.d0;have k1:=K.d1;go_wp2_with fail;rw[HX];exact jF (v:=d? #[g? #[jJ f,jN J x c5],jJ 0]) (by simp[results,Tryz.results349,go_sem,k0,k1]) rfl
  ⟨nA T5 jS _ _,_,rfl,nt HH q⟩
def vx(f g:I)(A C:w? jG)(l m:jX)(cap b:O)(k:oT l)(hV:oT m)(J:l.length<=30000)(D:m.length<=30000)(n:kg f l=u?)(w:jC)(r:Sb w w A l)(o:Sb w w C m):jE Tryz.prog 349 #[g? #[jJ f,jN A l cap],g? #[jJ g,jN C m b]] w (sS w (0,[],90)):=by
 have T:Below w w (((w.alloc (m? #[jJ f,jN A l cap] 134)).alloc (m? #[jJ g,jN C m b] 134)).alloc aI):=jP (jP (jP (jQ _) _) _) _;have Y:=ah (jR.Ua w (m? #[jJ f,jN A l cap] 134) (m? #[jJ g,jN C m b] 134) 134 #[jJ 0,jM]);have P:=ah (((jR.new w 134 #[jJ f,jN A l cap]).alloc (m? #[jJ g,jN C m b] 134)).alloc aI);have Q:=ah ((jR.new2 w (m? #[jJ f,jN A l cap] 134) 134 #[jJ g,jN C m b]).alloc aI);have q:=ah (Sb.later r T);have H:=ah (Sb.later o T);have t:=ah n;go_in;go_wp2_with fail;generalize((w.alloc (m? #[jJ f,jN A l cap] 134)).alloc (m? #[jJ g,jN C m b] 134)).alloc aI=L at*;refine(Dy f A l cap k jS t _ q).mono ?_;rintro e h⟨s,rfl,c⟩;have a:=jP (jQ h) bK;replace Y:=ah ((Y.later c).later a);replace T:=Below.two (Below.two T c) a;go_wp2_with fail;generalize h.alloc bK=d at*;refine(kR _ _).mono ?_;rintro e p⟨rfl,rfl⟩;have a:=jP (jQ d) (m? #[jL s] 510);replace Y:=ah (Y.later a);replace T:=Below.two T a;generalize d.alloc (m? #[jL s] 510)=p at*;have R:=Y.d0;have F:=Y.d1;have B:=Y.frozen 0;have G:=Y.frozen 1;have N:=Y.lt;have K:=Y.set2 (x:=c? o? 0) (y:=b? Z 0 0);have j:=K.d0;have z:=K.d1;go_wp2;exact jF (v:=(rO 47)) (by simp[results,Tryz.results349,go_sem,j,z]) rfl
  ⟨nA T jS _ _,_,rfl,nt (po _ _) Y⟩
def vw(f g:I)(A C:w? jG)(l m:jX)(cap d:O)(o:oT l)(hV:oT m)(hl:l.length<=30000)(R:m.length<=30000)(p:kg f l=t?)(H:kg g m=u?)(w:jC)(t:Sb w w A l)(q:Sb w w C m):jE Tryz.prog 349 #[g? #[jJ f,jN A l cap],g? #[jJ g,jN C m d]] w (sS w (0,[],90)):=by
 have T:Below w w (((w.alloc (m? #[jJ f,jN A l cap] 134)).alloc (m? #[jJ g,jN C m d] 134)).alloc aI):=jP (jP (jP (jQ _) _) _) _;have Y:=ah (jR.Ua w (m? #[jJ f,jN A l cap] 134) (m? #[jJ g,jN C m d] 134) 134 #[jJ 0,jM]);have P:=ah (((jR.new w 134 #[jJ f,jN A l cap]).alloc (m? #[jJ g,jN C m d] 134)).alloc aI);have Q:=ah ((jR.new2 w (m? #[jJ f,jN A l cap] 134) 134 #[jJ g,jN C m d]).alloc aI);have s:=ah (Sb.later t T);have h:=ah (Sb.later q T);have G:=ah p;have z:=ah H;go_in;go_wp2_with fail;generalize((w.alloc (m? #[jJ f,jN A l cap] 134)).alloc (m? #[jJ g,jN C m d] 134)).alloc aI=w0 at*;refine(sE f A l cap o jS G _ s).mono ?_;rintro e k⟨B,rfl,hM,N,b⟩;have a:=jP (jQ k) (bG B f);replace Y:=ah ((Y.later b).later a);replace P:=ah ((P.later b).later a);replace Q:=ah ((Q.later b).later a);replace h:=ah (Sb.later (Sb.later h b) a);replace T:=Below.two (Below.two T b) a;have F:=Q.d0;have W:=Q.d1;have D:=Q.lt;go_wp2_with fail;generalize k.alloc (bG B f)=w2 at*;refine(j_ g C m d hV jS _ h).mono ?_;rintro e j⟨rfl,c⟩;rw[z];replace Y:=ah (Y.later c);replace P:=ah (P.later c);replace Q:=ah (Q.later c);replace T:=Below.two T c;have p0:=P.d0;have F:=Q.d0;have zp:=P.lt;have D:=Q.lt;go_wp2_with fail;refine(kR _ _).mono ?_;rintro e r⟨rfl,rfl⟩;have a:=jP (jQ j) (rO 12);replace Y:=ah (Y.later a);replace T:=Below.two T a;generalize j.alloc (rO 12)=r at*;have VI:=Y.d0;have V:=Y.d1;have L:=Y.frozen 0;have X:=Y.frozen 1;have zy:=Y.lt;have K:=Y.set2 (x:=c? o? 0) (y:=b? Z 0 0);have n:=K.d0;have J:=K.d1;go_wp2;exact jF (v:=(rO 47)) (by simp[results,Tryz.results349,go_sem,n,J]) rfl
  ⟨nA T jS _ _,_,rfl,nt (po _ _) Y⟩
def J2(f g:I)(A C:w? jG)(l m:jX)(cap d:O)(p:oT l)(hV:oT m)(hl:l.length<=30000)(W:m.length<=30000)(q:kg f l=t?)(L:kg g m=t?)(j:g≠f)(w:jC)(D:Sb w w A l)(s:Sb w w C m):jE Tryz.prog 349 #[g? #[jJ f,jN A l cap],g? #[jJ g,jN C m d]] w (sS w (0,[],90)):=by
 have T:Below w w (((w.alloc (m? #[jJ f,jN A l cap] 134)).alloc (m? #[jJ g,jN C m d] 134)).alloc aI):=jP (jP (jP (jQ _) _) _) _;have Y:=ah (jR.Ua w (m? #[jJ f,jN A l cap] 134) (m? #[jJ g,jN C m d] 134) 134 #[jJ 0,jM]);have P:=ah (((jR.new w 134 #[jJ f,jN A l cap]).alloc (m? #[jJ g,jN C m d] 134)).alloc aI);have Q:=ah ((jR.new2 w (m? #[jJ f,jN A l cap] 134) 134 #[jJ g,jN C m d]).alloc aI);have z:=ah (Sb.later D T);have h:=ah (Sb.later s T);have J:=ah q;have F:=ah L;have r:(g !=f)=t?:=by simp[j]
 go_in;go_wp2_with fail;generalize((w.alloc (m? #[jJ f,jN A l cap] 134)).alloc (m? #[jJ g,jN C m d] 134)).alloc aI=w0 at*;refine(sE f A l cap p jS J _ z).mono ?_;rintro e n⟨B,rfl,hM,V,b⟩;have a:=jP (jQ n) (bG B f);replace Y:=ah ((Y.later b).later a);replace P:=ah ((P.later b).later a);replace Q:=ah ((Q.later b).later a);replace h:=ah (Sb.later (Sb.later h b) a);replace T:=Below.two (Below.two T b) a;have H:=Q.d0;have q1:=Q.d1;have G:=Q.lt;go_wp2_with fail;generalize n.alloc (bG B f)=w2 at*;refine(j_ g C m d hV jS _ h).mono ?_;rintro e k⟨rfl,c⟩;rw[F];replace Y:=ah (Y.later c);replace P:=ah (P.later c);replace Q:=ah (Q.later c);replace T:=Below.two T c;have p0:=P.d0;have H:=Q.d0;have zp:=P.lt;have G:=Q.lt;go_wp2_with fail;refine(kR _ _).mono ?_;rintro e t⟨rfl,rfl⟩;have a:=jP (jQ k) (rO 12);replace Y:=ah (Y.later a);replace T:=Below.two T a;generalize k.alloc (rO 12)=t at*;have VI:=Y.d0;have X:=Y.d1;have R:=Y.frozen 0;have RD:=Y.frozen 1;have zy:=Y.lt;have K:=Y.set2 (x:=c? o? 0) (y:=b? Z 0 0);have o:=K.d0;have N:=K.d1;go_wp2;exact jF (v:=(rO 47)) (by simp[results,Tryz.results349,go_sem,o,N]) rfl
  ⟨nA T jS _ _,_,rfl,nt (po _ _) Y⟩
def merge_any(f g:I)(A C:w? jG)(l m:jX)(cap b:O)(h:oT l)(hV:oT m)(j:l.length<=30000)(d:m.length<=30000)(w:jC)(e:Sb w w A l)(k:Sb w w C m):jE Tryz.prog 349 #[g? #[jJ f,jN A l cap],g? #[jJ g,jN C m b]] w (sS w (l8 f l g m)):=by
 cases a:kg f l with
 |false=>rw[l8,A? (by simp[a])];exact vx f g A C l m cap b h hV j d a w e k
 |true=>
  cases c:kg g m with
  |false=>rw[l8,A? (by simp[c])];exact vw f g A C l m cap b h hV j d a c w e k
  |true=>
   by_cases n:g=f
   .subst n;rw[l8,B? ⟨a,c,rfl⟩];exact vv g A C l m cap b h hV j d a c w e k
   rw[l8,A? (by simp[n])];exact J2 f g A C l m cap b h hV j d a c n w e k
def uG(f:I)(x:I×I):I×I:=(lj (f-1) (lx f x.1).1,x.2)
def lR(f:I)(l:jX):I×jX×I:=if kg f l=t?/\ld (f-1)=t? then(f-1,ku [] (l.map (uG f)),0)else(0,[],90)
def xW(f a:I):U (lx f a).1/\U (lx f a).2.1:=by
 unfold lx;split
 .rename_i h;obtain⟨e,g⟩:=qZ h.1
  cases b:bnd f.toNat a.toNat with
  |none=>simp[U]
  |some q=>
   have:=XZ (lo:=q.1) (hi:=q.2) jS b;have c:=this.lt;have d:=this.le;simp only[U];omega
 simp[U]
def wq(h:oT l):oT (l.map (uG f)):=λx a=>by
 obtain⟨y,b,rfl⟩:=dq.1 a;exact⟨q_ _ (xW f y.1).1,(h y b).2⟩
def L9(h:NZ l):NZ (l.map (uG f)):=λx a=>by
 obtain⟨y,b,rfl⟩:=dq.1 a;exact h y b
def Zk(w:jC)(f:I)(A:w? jG)(n cap a B:O)(x:jX)(k:O)(wr:jC):Prop:=
 jR wr w 134 #[jJ f,b? A n cap]/\jR wr (w.heap.size+1) 134 #[jJ 0,jM]/\jR wr a 500 #[l? (M B),jJ (f-1)]/\Mp wr B k x/\Below w w wr
def qx(f:I)(A:w? jG)(l:jX)(cap:O)(hU:oT l)(hl:l.length<=60000)(hr:kg f l=t?)(hf:ld (f-1)=t?)(w:jC)(hS:Sb w w A l):jE Tryz.prog 348 #[g? #[jJ f,jN A l cap]] w (sS w (f-1,ku [] (l.map (uG f)),0)):=by
 have T:Below w w ((w.alloc (m? #[jJ f,jN A l cap] 134)).alloc aI):=jP (jP (jQ _) _) _;have X:=ah ((jR.new w 134 #[jJ f,jN A l cap]).alloc aI);have Y:=ah (jR.new2 w (m? #[jJ f,jN A l cap] 134) 134 #[jJ 0,jM]);have HS:=ah (Sb.later hS T);have O7:=ah hS;have R:=pS hr;have HR:=ah hr;have HF:=ah hf;obtain⟨f1,f2⟩:=qZ hf;clear hS hr hf;go_in;go_wp2_with fail;generalize(w.alloc (m? #[jJ f,jN A l cap] 134)).alloc aI=w0 at*;refine(j_ f A l cap hU (by omega) _ HS).mono ?_;rintro e w1⟨rfl,z⟩;rw[HR];replace X:=ah (X.later z);replace Y:=ah (Y.later z);replace T:=Below.two T z;have x0:=X.d0;clear z HS;go_wp2_with fail;refine(Bo (f-1) HF _).mono ?_;rintro e J⟨B,rfl,hM,hB,d⟩;clear x0;have hI:Zk w f A l.length cap J B (ku [] ((l.take 0).map (uG f))) 0 (J.alloc (m? #[l? (M B),jJ (f-1)] 500)):=
  ⟨(X.later d).alloc _,(Y.later d).alloc _,jR.new J _ _,hM.alloc _,jP (Below.two T d) _⟩
 have HI:=ah hI;have ξ:w.heap.size<=B:=a_ T.size hB;have zx:=(X.later d).lt;have x1:=(X.later d).d1;clear hI X Y T hM hB d;go_wp2_with fail;clear x1;go_loopw[30] (λi wr=>∃k:O,k<=l.length/\i=c? o? k/\Zk w f A l.length cap J B (ku [] ((l.take k).map (uG f))) k wr) (λi _=>l.length-(av i).toNat)
 case atStart=>exact⟨0,be _,rfl,HI⟩
 obtain⟨k,hk,rfl,X,Y,Ξ,Ψ,T⟩:=hrel;clear HI;have x0:=X.d0;have zx:=X.lt;have z0:=Ξ.d0;have V:=Ξ.d1;have zz:=Ξ.lt;have HX:=ah X;have W:=ah Y;have D:=ah Ξ;have n:=ah Ψ;have F:ou (ku [] ((l.take k).map (uG f))):=oF List.Pairwise.nil;have C:oT (ku [] ((l.take k).map (uG f))):=qo (λ_ h=>by simp at h) (wq (hU.take k));clear X Y Ψ Ξ;by_cases γ:k<l.length
 .obtain⟨b,G,rfl,hb,θ⟩:=O7.at_ (by omega);obtain⟨h1,h2⟩:=θ k γ;have i1:=(T.cell (p:=(cP b G k)) hb).trans h1;have i2:=(T.cell (p:=(cE b G k)) hb).trans h2;have Δ:b<wr.heap.size:=by have:=T.size;omega
  have HN:Hid (ku [] ((l.take (k+1)).map (uG f))=mY (ku [] ((l.take k).map (uG f))) (lj (f-1) (lx f (mC l k).1).1) (mC l k).2):=by show _=_;rw[mR γ,dH,List.map_singleton,tI];rfl
  obtain⟨u1,u2⟩:=Iu hU k;generalize mC l k=r at*;generalize ku [] ((l.take k).map (uG f))=m at*;have uq:=xW f r.1;obtain⟨q,hq⟩:∃q,lx f r.1=q:=⟨_,rfl⟩;rw[hq]at uq HN;have HQ:=ah hq;have Γ:(0:I)<=k:=by omega
  have ψ:(k:I)<l.length:=by omega
  clear θ h1 h2 hq;go_wp2_with fail;refine(qH f r.1 u1 _).mono ?_;rintro e w3⟨rfl,n3,rfl⟩;rw[HQ];have N:=ah (jR.new wr 303 #[jJ r.1,jK r.2]);have j:=below_drewN (jP (jQ wr) (lz 39 r)) n3;replace HX:=ah (HX.later j);replace W:=ah (W.later j);replace D:=ah (D.later j);replace n:=ah (n.later j);replace T:=Below.two T j;have N:Hid (jR ((wr.alloc (lz 39 r)).drewN n3) wr 303 #[jJ r.1,jK r.2]):=N;clear j x0 z0 V i1 i2;generalize(wr.alloc (lz 39 r)).drewN n3=w4 at*;have z0:=D.d0;have V:=D.d1;have n1:=N.d1;have χ:=D.lt;have Θ:=N.lt;go_wp2_with fail;have ε:=q_ (f-1) uq.1;obtain⟨bb,L⟩:∃b,lj (f-1) q.1=b:=⟨_,rfl⟩;rw[L]at ε HN;have Ct:=ah L;clear L;refine bi1 (S:=λw'=>w'.cell? ⟨J,0,Z⟩=M (l? (M B))/\w'.cell? ⟨J,1,Z⟩=M (c? o? (f-1))/\w'.cell? ⟨wr,1,Z⟩=M (c? n? r.2)) (by kernel_rfl) ⟨z0,V,n1⟩ (λc=>?_);refine re c ?_;refine pL 4 λK hK=>?_;go_simp;refine(vK (f-1) q.1 uq.1 _).mono ?_;rintro e w5⟨rfl,n5,rfl⟩;rw[Ct];refine hK.out _ _ ⟨z0,V,n1⟩ (λc=>?_);clear hK K;refine az ?_;refine pL 7 λK hK=>?_;go_simp;refine(put_any m (f-1) bb r.2 B k F C.ub ε u2 _ (by exact n) (by unfold maxLen;omega)).mono ?_;rintro e w6⟨rfl,β,g⟩;have s:(bY w4 w6 B):=⟨g.os,g.tape,g.output,g.size,g.block⟩;have hI:Zk w f (bH b G) l.length cap J B (ku [] ((l.take (k+1)).map (uG f))) (k+1) w6:=
   ⟨HX.grown s (lM n HX),W.grown s (lM n W),D.grown s (lM n D),by rw[HN];exact β,ly T s ξ⟩
  have HI:=ah hI;have N6:=ah (N.grown s (lM n N));have Z6:=ah (D.grown s (lM n D));clear hI β g s z0 V n1;refine hK.out _ _ ⟨Z6.d0,Z6.d1,N6.d1⟩ (λc=>?_);clear hK K;refine az ?_;refine hdn ?_;go_wp2_with fail;go_roundw
  case rel=>exact⟨k+1,by omega,by go_num,HI⟩
  simp[av];omega
 obtain rfl:k=l.length:=by omega
 rw[cl aa]at n F C;have ν:(ku [] (l.map (uG f))).length<=65536:=by have:=rh (l.map (uG f)) [];simp at this;omega
 have η:=ah (tU (rG (l:=[]) (λ_ h=>by simp at h) (wq hU).ub (λ_ h=>by simp at h) (L9 (f:=f) R.nz)));obtain⟨x,hx⟩:∃x,ku [] (l.map (uG f))=x:=⟨_,rfl⟩;rw[hx]at n F C ν η;have φ:=ah hx;clear hx;go_wp2_with fail;refine(tV x (f-1) B l.length F C ν _ n).mono ?_;rintro e w5⟨s,v5,rfl,t⟩;rw[η]at t;obtain⟨A5,c5,rfl,ρ,κ,μ,α⟩:=t;have t:ph w5 w (b? A5 x.length c5) x:=⟨A5,c5,rfl,ρ,κ,μ,α.from T.size⟩;have H:=ah (W.grown s (lM n W));have T5:=ah (ly T s ξ);have HH:=ah t;have VI:=H.d0;have VH:=H.d1;have RE:=H.frozen 0;have RD:=H.frozen 1;have zy:=H.lt;clear t μ α κ s z0 V x0;have K:=H.set2 (x:=c? o? (f-1)) (y:=b? A5 x.length c5);have k0:=K.d0;have k1:=K.d1;go_wp2_with fail;rw[φ];exact jF (v:=d? #[g? #[jJ (f-1),jN A5 x c5],jJ 0]) (by simp[results,Tryz.results348,go_sem,k0,k1]) rfl
  ⟨nA T5 (by omega) _ _,_,rfl,nt HH H⟩
def J9(f:I)(A:w? jG)(l:jX)(cap:O)(h:oT l)(q:l.length<=60000)(d:kg f l=u?)(w:jC)(c:Sb w w A l):jE Tryz.prog 348 #[g? #[jJ f,jN A l cap]] w (sS w (0,[],90)):=by
 have T:Below w w ((w.alloc (m? #[jJ f,jN A l cap] 134)).alloc aI):=jP (jP (jQ _) _) _;have X:=ah ((jR.new w 134 #[jJ f,jN A l cap]).alloc aI);have Y:=ah (jR.new2 w (m? #[jJ f,jN A l cap] 134) 134 #[jJ 0,jM]);have b:=ah (Sb.later c T);have j:=ah d;clear d;clear c;go_in;go_wp2_with fail;generalize(w.alloc (m? #[jJ f,jN A l cap] 134)).alloc aI=s at*;refine(j_ f A l cap h (by omega) _ b).mono ?_;rintro e r⟨rfl,a⟩;rw[j];replace X:=ah (X.later a);replace Y:=ah (Y.later a);replace T:=Below.two T a;clear a b;have t:=Y.d0;have o:=Y.d1;have m:=Y.frozen 0;have p:=Y.frozen 1;have n:=Y.lt;have K:=Y.set2 (x:=c? o? 0) (y:=b? Z 0 0);have g:=K.d0;have k:=K.d1;go_wp2_with fail;exact jF (v:=(rO 47)) (by simp[results,Tryz.results348,go_sem,g,k]) rfl
  ⟨nA T (by omega) _ _,_,rfl,nt (po _ _) Y⟩
def J8(f:I)(A:w? jG)(l:jX)(cap:O)(o:oT l)(F:l.length<=60000)(d:kg f l=t?)(g:ld (f-1)=u?)(w:jC)(k:Sb w w A l):jE Tryz.prog 348 #[g? #[jJ f,jN A l cap]] w (sS w (0,[],90)):=by
 have T:Below w w ((w.alloc (m? #[jJ f,jN A l cap] 134)).alloc aI):=jP (jP (jQ _) _) _;have X:=ah ((jR.new w 134 #[jJ f,jN A l cap]).alloc aI);have Y:=ah (jR.new2 w (m? #[jJ f,jN A l cap] 134) 134 #[jJ 0,jM]);have h:=ah (Sb.later k T);have t:=ah d;have p:=ah g;obtain⟨L,J⟩:=qZ (pS d).fine;clear d g;clear k;go_in;go_wp2_with fail;generalize(w.alloc (m? #[jJ f,jN A l cap] 134)).alloc aI=G at*;refine(j_ f A l cap o (by omega) _ h).mono ?_;rintro e N⟨rfl,b⟩;rw[t];replace X:=ah (X.later b);replace Y:=ah (Y.later b);replace T:=Below.two T b;clear b h;have q:=X.d0;go_wp2_with fail;refine(OG (f-1) p _).mono ?_;rintro e m⟨s,rfl,c⟩;have a:=jP (jQ m) bK;replace Y:=ah ((Y.later c).later a);replace T:=Below.two (Below.two T c) a;clear c a X q;go_wp2_with fail;generalize m.alloc bK=j at*;refine(kR _ _).mono ?_;rintro e r⟨rfl,rfl⟩;have a:=jP (jQ j) (m? #[jL s] 510);replace Y:=ah (Y.later a);replace T:=Below.two T a;generalize j.alloc (m? #[jL s] 510)=r at*;have P:=Y.d0;have C:=Y.d1;have B:=Y.frozen 0;have D:=Y.frozen 1;have H:=Y.lt;have K:=Y.set2 (x:=c? o? 0) (y:=b? Z 0 0);have n:=K.d0;have z:=K.d1;go_wp2_with fail;exact jF (v:=(rO 47)) (by simp[results,Tryz.results348,go_sem,n,z]) rfl
  ⟨nA T (by omega) _ _,_,rfl,nt (po _ _) Y⟩
def rL(f:I)(A:w? jG)(l:jX)(cap:O)(e:oT l)(c:l.length<=60000)(w:jC)(d:Sb w w A l):jE Tryz.prog 348 #[g? #[jJ f,jN A l cap]] w (sS w (lR f l)):=by
 cases a:kg f l with
 |false=>rw[lR,A? (by simp[a])];exact J9 f A l cap e c a w d
 |true=>
  cases b:ld (f-1)with
  |false=>rw[lR,A? (by simp[b])];exact J8 f A l cap e c a b w d
  |true=>rw[lR,B? ⟨a,b⟩];exact qx f A l cap e c a b w d
section
open Go.RowKit Go.Shelf
attribute [local go_sem] db
def Pt(A:w? jG)(n cap:O)(w:jC):jE Tryz.prog 355 #[.slice A n cap] w λe w'=>e=a? (.func (.func 360) #[] #[jO w])/\w.alloc (m? #[.slice A n cap] 132)=w':=by
 go_in;go_wp2;go_ret;exact⟨rfl,rfl⟩
abbrev WM(l:jX)(k:O):x? jD:=#[g? #[jJ (mC l k).1,jK (mC l k).2],jK (ma (l.take (k+1)) 0)]
def Pu(n:O)(hn:1<=n)(L F n₀ g cap b off:O)(l:jX)(hU:oT l)(a:E (At l.length))(w:a.map (·.1)=bu l.length)(D:l.length<=65536)(ε:F<n₀)(hg:F≠g)(hb:b<n₀)(B:b≠g)(J P:E (At l.length)->jC->Prop)(W:jC)(κ:n₀<=W.heap.size){nJ:O}(hJ:AbidesFrom nJ J)(hY:∀c x W,J c W->c.length<l.length->bl4 cz (n-1) Tryz.prog L (WM l x.1) W λe o=> (e=a? (h? t?)/\J (c++[x]) o/\kZ n₀ g W o)\/(e=a? (h? u?)/\P (c++[x]) o))(H:jR W F 132 #[b? (bH b off) l.length cap]) (hc:∀j,j<l.length->W.cell? (cP b off j)=M (c? o? (mC l j).1)/\W.cell? (cE b off j)=M (c? n? (mC l j).2)) (h0:J [] W):bj2 cz n Tryz.prog 360 #[cG L,jO F] W λe o=>(∃v,e=a? v)/\ ((∃ys,ys=a/\J ys o)\/(∃c,c <+: a/\P c o)):=by
 have q:a.length=l.length:=by rw[<-ax (f:=(·.1)),w,fo]
 have X:=ah q;have HZ:=ah w;have HC:=ah hc;have HB:=ah H;have V:=H.one;clear w q hc H;refine bj1 Tryz.func360 rfl trivial ?_ rfl;simp only[Tryz.ntmps360,xb,ao,dk];gi_wp2;clear V;gi_loopw[3,8] (λs i wr=>∃k:O,k<=l.length/\i=c? o? k/\s=c? n? (ma (l.take k) 0)/\J (a.take k) wr/\kZ n₀ g W wr)
  (λ_ i _=>l.length-(av i).toNat)
 case atStart=>exact⟨0,be _,rfl,rfl,h0,og _ _ _⟩
 obtain⟨k,hk,rfl,rfl,r,h⟩:=hrel;by_cases p:k<l.length
 .have d:k<a.length:=by rw[X];exact p
  obtain⟨Y,h2⟩:=HC k p;have i1:wr.cell? (cP b off k)=_:=(co (h.2 b hb B)).trans Y;have i2:wr.cell? (cE b off k)=_:=(co (h.2 b hb B)).trans h2;have hx:(a[k]).1=k:=by
   have:=C? (λt=>t[k]?) HZ;simp[d,p]at this;exact this
  have ht:a.take (k+1)=a.take k++[a[k]]:=aj d;have HT:=ah ht;have us:U (ma (l.take k) 0):=PO (hU.take k).ub (by simp[U]);obtain⟨u1,u2⟩:=Iu hU k;have C:Hid (ma (l.take (k+1)) 0=sat (ma (l.take k) 0) (mC l k).2):=by show _=_;rw[mR p,FX]
  have HY:Hid (∀W,J (a.take k) W->bl4 cz (n-1) Tryz.prog L #[g? #[jJ (mC l k).1,jK (mC l k).2],jK (sat (ma (l.take k) 0) (mC l k).2)] W λe o=>
   (e=a? (h? t?)/\J (a.take (k+1)) o/\kZ n₀ g W o)\/(e=a? (h? u?)/\P (a.take (k+1)) o)):=λW hW=>by
   have:=hY (a.take k) (a[k]) W hW (by simp;omega)
   rw[hx,WM,C,<-HT]at this
   exact this
  have θ:b<wr.heap.size:=by have:=h.1;omega
  generalize mC l k=m at*;generalize ma (l.take k) 0=s at*;have η:(0:I)<=k:=by omega
  have γ:(k:I)<l.length:=by omega
  clear Y h2 hx ht HT d;gi_wp2_with fail;have N:=ah ((jR.new wr 303 #[jJ m.1,jK m.2]).alloc (m? #[jK s,jK m.2] 22));have μ:=ah (jR.new2 wr (lz 39 m) 22 #[jK s,jK m.2]);have y:=jP (jP (jQ wr) (lz 39 m)) (m? #[jK s,jK m.2] 22);have Q:=sF hJ r y;have KB:=ah (pD (n₀:=n₀) (g:=g) (by have:=h.1;omega) y);clear y i1 i2 r;generalize(wr.alloc (lz 39 m)).alloc (m? #[jK s,jK m.2] 22)=w2 at*;obtain⟨fn,β,G,α,hy,T⟩:=HY w2 Q;refine⟨trivial,?_⟩;refine(jI.2 (oa s m.2 us u2 _ (dE wr) 0 2 μ.d0 μ.d1)).mono ?_;rintro e W2⟨rfl,rfl⟩;have n0:=N.d0;have n1:=N.d1;have nz:=N.lt;gi_wp2;refine T.mono ?_;rintro e W3(⟨rfl,K,R⟩|⟨rfl,z⟩)
  .clear n0 n1 hy T;gi_wp2;go_roundw
   case rel=>exact⟨k+1,by omega,by simp,by rw[C],K,l_ h (l_ KB R)⟩
   simp[av];omega
  clear n0 n1 hy T;gi_wp2;refine jF (bj7 rfl _ _ _) rfl ?_;exact⟨⟨_,rfl⟩,s? ⟨_,eS _ _,z⟩⟩
 obtain rfl:k=l.length:=by omega
 gi_wp2;go_end0;exact⟨⟨_,rfl⟩,r? ⟨_,cl (by rw[X];exact ay _),r⟩⟩
def Pv(n:O)(q:1<=n)(m g cap:O)(A:w? jG){N:O}(c:E (At N))(l:c=[])(J k:E (At N)->jC->Prop)(W:jC)(h:jR W g 132 #[b? A 0 cap])(j:J [] W):bj2 cz n Tryz.prog 360 #[cG m,jO g] W λe d=>(∃v,e=a? v)/\ ((∃f,f=c/\J f d)\/(∃a,a <+: c/\k a d)):=by
 have p:=h.one;have o:=ah l;refine bj1 Tryz.func360 rfl trivial ?_ rfl;simp only[Tryz.ntmps360,xb,ao,dk];gi_wp2;gi_loopw[8] (λi wr=>i=c? o? 0/\wr=W) (λ_ _=>0)
 case atStart=>exact⟨rfl,rfl⟩
 obtain⟨rfl,rfl⟩:=hrel;gi_wp2;go_end0;exact⟨⟨_,rfl⟩,r? ⟨_,rfl,by rw[o];exact j⟩⟩
def Jj(n:O)(t:1<=n)(m g cap:O)(A:w? jG)(l:jX)(G:oT l)(c:E (At l.length))(e:c.map (·.1)=bu l.length)(a:l.length<=65536)(w:jC)(H:m≠g)(s:l.length≠0->∀z,A=M z->z.block≠g)(o:jR w m 132 #[jN A l cap]) (L:Sb w w A l):bl1 cz n Tryz.prog 360 #[jO m] (λx:At l.length=>WM l x.1) (kZ w g) (λQ=>Q=c) (λr=>r <+: c) l.length w:=λB J D W f F _ K C=>by
 by_cases h:l.length=0
 .have N:c=[]:=by
   have:(c.map (·.1)).length=0:=by rw[e];simp[h]
   exact da (by simpa using this)
  have k:=o.later f
  rw[h]at k
  exact Pv n t B m cap A c N J D W k C
 obtain⟨b,d,rfl,q,y⟩:=L.at_ jS;exact Pu n t B m w g cap b d l G c e a o.lt H q (s h _ rfl) J D W f.size F K (o.later f) (λj v=>⟨(f.cell (p:=(cP b d j)) q).trans (y j v).1,(f.cell (p:=(cE b d j)) q).trans (y j v).2⟩) C
end
section
attribute [local go_sem] db
def GR(n₀ g:O)(w:jC)(o:O)(u:jD):kZ n₀ g w (w.setCell ⟨g,o,Z⟩ u):=⟨by simp[bj],λi _ a=>Below.heap_setCell w ⟨g,o,Z⟩ u i a⟩
def wu(l:jX)(a:E (At l.length)):I:=(a.getLast?).elim 0 λp=>ma (l.take (p.1+1)) 0
def AB(l:jX)(a:E (At l.length))(x:At l.length):wu l (a++[x])=ma (l.take (x.1+1)) 0:=by simp[wu]
def AA(l:jX):∀(a:E (At l.length)),a.map (·.1)=bu a.length->wu l a=ma (l.take a.length) 0:=λa h=>by
 rcases List.eq_nil_or_concat a with rfl|⟨p,x,rfl⟩
 .simp[wu,ma]
 rw[List.concat_eq_append]at h⊢;rw[AB];have:x.1=p.length:=by
  have:=C? (λt=>t[p.length]?) h;simp at this;exact this
 rw[this];simp
def CN{N:O}{b a:E (At N)}(d:b.map (·.1)=bu N)(c:a <+: b):a.map (·.1)=bu a.length:=by
 have h:b.length=N:=by rw[<-ax (f:=(·.1)),d,fo]
 have j:=List.prefix_iff_eq_take.1 c;have e:=a_ c.length_le (Nat.le_of_eq h);have g:a.map (·.1)=(bu N).take a.length:=by rw[<-d,<-iR,<-j]
 rw[g,List.take_range,Nat.min_eq_left e]
end
section
variable{F:Fence}{n:O}{P:bi3}
end
section
attribute [local go_sem] db
def pF(f:I)(l:jX)(v:I):I:=if kg f l=t? then ma (l.filter λx=>decide (x.1<=lj f v)) 0 else 0
def yJ(n:ou l)(p:k<=l.length)(m:∀i,i<k->(mC l i).1<=b)(o:k<l.length->b<(mC l k).1):l.filter (λx=>decide (x.1<=b))=l.take k:=by
 conv=>lhs;rw[<-fQ k l]
 rw[gQ];have j:(l.take k).filter (λx=>decide (x.1<=b))=l.take k:=eY.2 λx f=>by
  obtain⟨i,d,e⟩:=ik.1 f;have c:i<k:=by simp at d;omega
  have:=m i c;have a:mC l i=x:=by rw[<-e];simp[mC,show i<l.length by omega]
  rw[a]at this;simpa using this
 have a:(l.drop k).filter (λx=>decide (x.1<=b))=[]:=List.filter_eq_nil_iff.2 λx f=>by
  obtain⟨i,d,e⟩:=ik.1 f;simp at d;have g:k<l.length:=jS;have q:=o g;have a:mC l (k+i)=x:=by rw[<-e];simp[mC,show k+i<l.length by omega]
  have:(mC l k).1<=(mC l (k+i)).1:=by
   rcases fM i with h|h
   .subst h;exact Int.le_refl _
   exact Int.le_of_lt (LN n jS jS)
  rw[a]at this;simp;omega
 rw[j,a,eB]
def RkI(w:jC)(c:O)(l:jX)(b:I)(a:E (At l.length))(W:jC):Prop:=
 jR W (w.heap.size+1) 22 #[jK (wu l a)]/\jR W c 3 #[jJ b]/\(∀p∈a,(mC l p.1).1<=b)/\Below w w W
def RkX(w:jC)(l:jX)(b:I)(c:bk9)(a:E (At l.length))(W:jC):Prop:=
 c=.exit 0/\∃p0 x,a=p0++[x]/\jR W (w.heap.size+1) 22 #[jK (wu l p0)]/\(∀p∈p0,(mC l p.1).1<=b)/\b<(mC l x.1).1/\Below w w W
def Vb{j:O}{Bd:O}(g:w.heap.size<=Bd):bj3 Bd (RkI w j l b):=by
 rintro s W n row⟨m,f,h,d⟩ a c;exact⟨m.kept a (λr e=>(c r e).2),f.kept a (λr e=>(c r e).2),h,d.grown a d.size (λk e=>a_ g (c k e).1)⟩
def Va{c:bk9}{Bd:O}(g:w.heap.size<=Bd):bj3 Bd (RkX w l b c):=by
 rintro s W o row⟨j,p0,x,e,m,n,h,d⟩ f a;exact⟨j,p0,x,e,m.kept f (λr e=>(a r e).2),n,h,d.grown f d.size (λk e=>a_ g (a k e).1)⟩
def P3(f:I)(A:w? jG)(l:jX)(cap:O)(v:I)(g:oT l)(k:l.length<=65536)(c:kg f l=u?)(w:jC)(b:Sb w w A l):jE Tryz.prog 347 #[g? #[jJ f,jN A l cap],jK v] w λe w'=>e=a? (c? n? 0)/\Below w w w':=by
 have T:Below w w ((w.alloc (m? #[jJ f,jN A l cap] 134)).alloc dK):=jP (jP (jQ _) _) _;have Y:=ah (jR.new2 w (m? #[jJ f,jN A l cap] 134) 22 #[jK 0]);have d:=ah (Sb.later b T);have h:=ah c;clear b c;go_in;go_wp2_with fail;go_step3;go_wp2_with fail;generalize(w.alloc (m? #[jJ f,jN A l cap] 134)).alloc dK=n at*;refine(j_ f A l cap g (by omega) _ d).mono ?_;rintro e m⟨rfl,a⟩;rw[h];have j:=(Y.later a).one;go_wp2_with fail;rw[cf];go_ret;exact⟨rfl,Below.two T a⟩
def TI(f:I)(A:w? jG)(l:jX)(cap:O)(v:I)(hv:U v)(hU:oT l)(hl:l.length<=65536)(hr:kg f l=t?)(w:jC)(hS:Sb w w A l):bj2 cz 6 Tryz.prog 347 #[g? #[jJ f,jN A l cap],jK v] w λe w'=>e=a? (.int n? (ma (l.filter λx=>decide (x.1<=lj f v)) 0))/\Below w w w':=by
 have T:Below w w ((w.alloc (m? #[jJ f,jN A l cap] 134)).alloc dK):=jP (jP (jQ _) _) _;have X:=ah ((jR.new w 134 #[jJ f,jN A l cap]).alloc dK);have Y:=ah (jR.new2 w (m? #[jJ f,jN A l cap] 134) 22 #[jK 0]);have s:=ah (Sb.later hS T);have NE:Hid (l.length≠0->∀ad,A=M ad->ad.block<w.heap.size):=λh ad e=>by
  obtain⟨b,θ,e',C,_⟩:=hS.at_ (by omega);rw[e']at e;cases e;exact C
 have HR:=ah hr;have R:=pS hr;obtain⟨g,J⟩:∃b,lj f v=b:=⟨_,rfl⟩;have Ct:=ah J;clear hS hr;rw[J];clear J;refine bi7 Tryz.func347 rfl trivial ?_ rfl;simp only[Tryz.ntmps347,xb,ao,dk];refine bi4.2 ?_;go_wp2_with fail;go_step3;go_wp2_with fail;generalize(w.alloc (m? #[jJ f,jN A l cap] 134)).alloc dK=w0 at*;refine(j_ f A l cap hU (by omega) _ s).mono ?_;rintro e w1⟨rfl,r⟩;rw[HR];replace X:=ah (X.later r);replace Y:=ah (Y.later r);replace s:=ah (Sb.later s r);replace T:=Below.two T r;have WZ:=ah Y.lt;have x0:=X.d0;have x1:=X.d1;have zx:=X.lt;clear r;go_wp2_with fail;refine(vK f v hv _).mono ?_;rintro e F⟨rfl,q,rfl⟩;rw[Ct];have m:=below_drewN (jQ w1) q;replace X:=ah (X.later m);replace Y:=ah (Y.later m);replace s:=ah (Sb.later s m);replace T:=Below.two T m;have δ:Hid (w.heap.size+1<(w1.drewN q).heap.size):=ah Y.lt;clear m x0 x1 zx WZ;generalize w1.drewN q=F at*;have x1:=X.d1;have zx:=X.lt;go_wp2_with fail;try go_step3
 have d:=jP (jQ F) (m? #[jJ g] 3);have L:=ah (jR.new F 3 #[jJ g]);replace X:=ah (X.later d);replace Y:=ah (Y.later d);replace s:=ah (Sb.later s d);replace T:=Below.two T d;clear d x1 zx;generalize F.alloc (m? #[jJ g] 3)=Q at*;have x1:=X.d1;have zx:=X.lt;have zl:=L.lt;go_wp2_with fail;refine(Pt _ _ _ _).mono ?_;rintro e w'⟨rfl,rfl⟩;have d:=jP (jQ Q) (m? #[jN A l cap] 132);have ν:=ah (jR.new Q 132 #[jN A l cap]);replace Y:=ah (Y.later d);replace L:=ah (L.later d);replace s:=ah (Sb.later s d);replace T:=Below.two T d;clear d x1 X zx;go_wp2_with fail;generalize Q.alloc (m? #[jN A l cap] 132)=V at*;have yz:=Y.out.lt;have wz:=δ.out;have vz:=ν.out.lt;obtain⟨zs,β⟩:=mH (N:=l.length) (bu l.length) (λp B=>dh.1 B);have HZ:=ai β;have η:RkI w F.heap.size l g [] V:=⟨by simpa[wu]using Y.out,L.out,(λp B=>by cases B),T⟩;clear β;refine(bi4 (n:=6)).1 ?_;refine pB rfl (by omega) (gf:=360) (lb:=#[aV Q]) rfl trivial (enters_of Tryz.func360 (by kernel_rfl) rfl)
  (Jj 5 (by omega) Q.heap.size (w.heap.size+1) cap A l hU zs HZ.out hl V (by omega) (λh ad e=>by have:=NE.out h ad e;omega) ν.out s.out)
  (λh k=>l_ h k) (qf (by omega)) (λW o h=>pD (by omega) (jP (jQ W) o)) (Below.refl _ _) (λ_=>rfl)
  (RkI w F l g) (RkX w l g) (Vb (by omega)) (λc=>Va (by omega)) η
  (λx b=>{tmps:=#[g? #[jJ f,jN A l cap],jK v,jO w,undef,jK 0,.pointer (M (aE w)),jO F,jO b,jK (ma (l.take (x.1+1)) 0),g? #[jJ f,jN A l cap],.bool t?,.bool u?,undef,jO w,jJ f,jK v,jJ g,.pointer (M ⟨w,1,Z⟩),jN A l cap,
   .func (.func 360) #[] #[jO Q],g? #[jJ (mC l x.1).1,jK (mC l x.1).2],jK (ma (l.take (x.1+1)) 0),undef,undef,undef,undef,undef,undef],defers:=[]})
  (λx=>m? #[jJ (mC l x.1).1,jK (mC l x.1).2] 303) ?assign ?body ?done ?stop
 case assign=>
  intro l x W K P;gi_wp2;exact P
 case body=>
  rintro l' H x W b⟨j,hL,a,C⟩ μ hN κ;have HG:=ah j;have HL:=ah hL;have HN:Hid (jR W b 303 #[.int o? (mC l x.1).1,.int n? (mC l x.1).2]):=hN;have n0:=HN.out.d0;have l0:=hL.one;have cg:=j.one;have fg:=j.frozen 0;have z3:=j.lt;have z4:=hL.lt;have z5:=HN.out.lt;have ε:=ai (AB l H x);clear j hL hN;by_cases h0:g<(mC l x.1).1
  .have d0:decide (g<(mC l x.1).1)=t?:=by simp[h0]
   gi_wp2_with fail;exact⟨gq _,rfl,H,x,rfl,HG.out,a,h0,C⟩
  have d0:decide (g<(mC l x.1).1)=u?:=by simp;omega
  gi_wp2_with fail;exact⟨b7 _ _ _,GR _ _ _ _ _,by rw[ε.out];exact HG.out.kY 0 _,HL.out.far (by show F.heap.size≠w.heap.size+1;omega) _,λp B=>by
   rcases ed.1 B with h|h
   .exact a p h
   rw[eM.1 h];omega,C.setCell (by show(aZ w);omega) _⟩
 case done=>
  rintro D ys W hD rfl⟨j,_,a,C⟩ P;have h1:ys.length=l.length:=by rw[<-ax (f:=(·.1)),HZ,fo]
  have HE:Hid (wu l ys=ma (l.filter λx=>decide (x.1<=g)) 0):=by
   show _=_;rw[AA l ys (by rw[HZ,h1]),h1,yJ (k:=l.length) R.rise aa (λi hi=>?_) (λh=>by omega)];have hm:i∈ys.map (·.1):=by rw[HZ];exact dh.2 hi
   obtain⟨q,hq,rfl⟩:=dq.1 hm;exact a q hq
  rw[HE]at j;have cg:=j.one;clear j h1 a;go_wp2_with fail;try rw[cf]
  refine⟨by simp,r? ⟨_,_,rfl,bi2 P,?_⟩⟩;exact⟨.int n? (ma (l.filter λx=>decide (x.1<=g)) 0),by simp[results,Tryz.results347,go_sem],rfl,C.trans (bj6 (w:=w) aa _ D _ _ (by omega) P rfl rfl)⟩
 rintro D c' H W hD z⟨rfl,p0,x,rfl,j,a,hx,C⟩ P;have B:=CN HZ z;have G:=CN HZ (List.IsPrefix.trans (List.prefix_append p0 [x]) z);have γ:x.1=p0.length:=by
  have:=C? (λt=>t[p0.length]?) B;simp at this;exact this
 have HE:Hid (wu l p0=ma (l.filter λx=>decide (x.1<=g)) 0):=by
  show _=_;rw[AA l p0 G,yJ (k:=p0.length) R.rise (by have:=x.2;omega) (λi hi=>?_) (λh=>by rw[<-γ];exact hx)];have hm:i∈p0.map (·.1):=by rw[G];exact dh.2 hi
  obtain⟨q,hq,rfl⟩:=dq.1 hm;exact a q hq
 rw[HE]at j;have cg:=j.one;clear j B G γ a hx;refine bi4.2 ?_;go_wp2_with fail;try rw[cf]
 refine⟨by simp,r? ⟨_,_,rfl,bi2 P,?_⟩⟩;exact⟨.int n? (ma (l.filter λx=>decide (x.1<=g)) 0),by simp[results,Tryz.results347,go_sem],rfl,C.trans (bj6 (w:=w) aa _ D _ _ (by omega) P rfl rfl)⟩
def P4(f:I)(A:w? jG)(l:jX)(cap:O)(v:I)(d:U v)(c:oT l)(a:l.length<=65536)(w:jC)(b:Sb w w A l):jE Tryz.prog 347 #[g? #[jJ f,jN A l cap],jK v] w λe w'=>e=a? (c? n? (pF f l v))/\Below w w w':=by
 cases h:kg f l with
 |false=>rw[pF,A? (by simp[h])];exact P3 f A l cap v c a h w b
 |true=>rw[pF,B? h];exact jI.1 (TI f A l cap v d c a h w b)
end
end Hi
structure SaL(x0:y?) where
def aL(a:y?):SaL a:=⟨⟩
instance aV7(x0:y?):CoeOut (SaL x0) jD:=⟨λ_=>c? p? (x0.toNat:I)⟩
structure SbV where
def bV:SbV:=⟨⟩
instance aU8:CoeOut SbV Prop:=⟨λ_=>∃i0,Tryz.prog.info? 5=M i0/\i0.zero=M (c? p? 0)/\i0.size=1/\i0.bytes=1⟩
instance aH4:CoeSort SbV Prop:=⟨λ_=>∃i0,Tryz.prog.info? 5=M i0/\i0.zero=M (c? p? 0)/\i0.size=1/\i0.bytes=1⟩
def rT(n:I)(s:v?):Prop:=s.size<=9/\∀w,jE Tryz.prog 52 #[jK n] w λe w'=>e=a? (f? s)/\Below w w w'
def lP(x:I):∃b:y?,x%256=(b.toNat:I):=by
 refine⟨gH (x%256).toNat,?_⟩;have h:(gH (x%256).toNat).toNat=(x%256).toNat:=by
  rw[ji];omega
 rw[h];omega
def UN(l:E y?)(A:jG)(cap:O)(w:jC)(h:∀j(a:j<l.length),w.cell? (A.add j)=M (c? p? (l[j].toNat:I))):(convert 151 9 (b? (M A) l.length cap)).run Tryz.prog w=.ok (f? ⟨l.toArray⟩) w:=
 run_convert_bytes_back (P:=Tryz.prog) w _ _ 5 A cap l Tryz.underlying151 Tryz.underlying5 Tryz.underlying9 h
def oR(l:E y?)(v:jD)(n B:O)(w:jC)(h:w.ownsRow B 5 1 v n (l.map λb=>(aL b)))(r:0<n):(convert 151 9 v).run Tryz.prog w=.ok (f? ⟨l.toArray⟩) w:=by
 obtain⟨e,⟨_,t⟩|⟨g,cap,d,rfl,s,m,o,q,p,c⟩⟩:=h
 .omega
 have k:n=l.length:=by simpa using e.symm
 subst k;refine UN l ⟨g,0,Z⟩ cap w λj f=>?_;have a:(l.map λb:y?=>br p? (b.toNat:I))[j]? =M (c? p? (l[j].toNat:I)):=by simp[f]
 rw[<-c,gJ]at a;split at a
 .rw[addr_add,au];simpa[fJ,m]using a
 cases a
def ZR(n:I)(h:n<=240):∃s,rT n s:=by
 obtain⟨b,d⟩:=lP n;have a:decide (n<=240)=t?:=F? h;clear h;refine⟨⟨#[b]⟩,by show 1<=9;omega,λw=>?_⟩;have c:=oR [b] (b? (aM w) 1 1) 1 w (w.alloc (m? #[aL b] 5)) (fa w _ 1 aa B8 rfl) B8;go_in;go_wp2;go_ret;exact⟨rfl,jP (jQ w) _⟩
def ZQ(n:I)(h:¬n<=240)(a:n<=2287):∃s,rT n s:=by
 have d:decide (n<=240)=u?:=E? h;have f:decide (n<=2287)=t?:=F? a;clear h a;obtain⟨c0,c⟩:=lP (IntKind.u64.wrap (241+IntKind.u64.wrap (n-240)/256));obtain⟨c1,b⟩:=lP (IntKind.u64.wrap (n-240));refine⟨⟨#[c0,c1]⟩,by show 2<=9;omega,λw=>?_⟩;have e:=oR [c0,c1] (b? (aM w) 2 2) 2 w (w.alloc (m? #[aL c0,aL c1] 5)) (fa w _ 2 aa B8 rfl) B8;go_in;go_wp2;go_ret;exact⟨rfl,jP (jQ w) _⟩
def ZP(n:I)(h:¬n<=240)(c:¬n<=2287)(b:n<=67823):∃s,rT n s:=by
 have g:decide (n<=240)=u?:=E? h;have j:decide (n<=2287)=u?:=E? c;have k:decide (n<=67823)=t?:=F? b;clear h c b;obtain⟨c0,f⟩:=lP (IntKind.u64.wrap (n-2288)/256);obtain⟨c1,d⟩:=lP (IntKind.u64.wrap (n-2288));refine⟨⟨#[249,c0,c1]⟩,by show 3<=9;omega,λw=>?_⟩;have e:=oR [(249:y?),c0,c1] (b? (aM w) 3 3) 3 w (w.alloc (m? #[c? p? ((249:y?).toNat:I),aL c0,aL c1] 5)) (fa w _ 3 aa B8 rfl) B8;have a:(((249:y?).toNat:O):I)=249:=rfl;rw[a]at e;go_in;go_wp2;go_ret;exact⟨rfl,jP (jQ w) _⟩
def rQ(w:jC)(a b c:jD)(t:jH)(g:O)(d:g=w.heap.size):∀j u,[a,b,c][j]? =M u->(w.alloc (m? #[a,b,c] t)).cell? ((⟨g,0,Z⟩:jG).add j)=M u:=by
 subst d;intro j u e;rw[addr_add,au,(jR.new w t #[a,b,c]).cell];simpa using e
variable{w:jC}{v:jD}{n c:O}
def St{ops:x? bk0}{b:E bk0}{o:bk0}{a:Act}{Q:bk7->Act->jC->Prop}{d:jC}{m:O}{row news:E jD}{s x:bl7}{f:Obj}{q:jG}(H:o.guard=Z)(L:o.op=.call {callee:=.builtin .append,args:=#[s,x],argTypes:=#[151,151]})(hs:a.eval s=v)(J:a.eval x=b? (M q) m c)(B:w.ownsRow d.heap.size 5 1 v n row)(HB:Below d.heap.size d w)(G:news.length=m*1)(C:∀j u,news[j]? =M u->(w.alloc f).cell? (q.add j)=M u)(F:∀u∈news,u.oneCell'=t?)(T:0<n)(N:n+m<=9)(h:∀g p t,Hid (t.ownsRow d.heap.size 5 1 (b? (aC g) (n+m) p) (n+m) (row++news))->Hid (Below d.heap.size d t)->wpList Tryz.prog ops Q b (a.put o.dst (b? (aC g) (n+m) p)) t):wpList Tryz.prog ops Q (o::b) a (w.alloc f):=by
 obtain⟨K,z,y,l,A⟩: bV:=⟨_,rfl,rfl,rfl,rfl⟩;refine bk3 _ H s x 151 L d 5 K (c? p? 0) 1 1 Tryz.underlying151 z y l A rfl B8 v n _ hs (B.alloc _) q m c news J G C F O0 jS qhs ?_;intro R W k r _;have D:=(HB.alloc HB.size f).grown r qhs (λj e=>qp B j e);obtain⟨g,p,rfl,-,-,-⟩:=Qh k jS;exact h g p W k D
def Xd(n:O)(h:67823<n)(k:n<18446744073709551616)(q:(n.log2+8)/8=3):∃s,rT n s:=by
 have t:decide ((n:I)<=240)=u?:=ag;have x:decide ((n:I)<=2287)=u?:=ag;have y:decide ((n:I)<=67823)=u?:=ag;have d:=ah (Hi.pj n jS k);generalize n.log2=m at*;have r:((m:I)+1+7)/8=3:=jS;clear q;obtain⟨a,f⟩:=lP (n/65536);obtain⟨j,o⟩:=lP (n/256);obtain⟨c0,l⟩:=lP (n);refine⟨⟨#[(250:y?),a,j,c0]⟩,by show 4<=9;omega,λw=>?_⟩;have z:(((250:y?).toNat:O):I)=250:=rfl;have c:=ah (fa (size:=1) (base:=w.heap.size) (e:=5) w #[c? p? 250] 1 aa B8 rfl);have b:=ah (jP (jQ w) (m? #[c? p? 250] 5));go_in;go_wp2_with fail;refine(d w).mono ?_;rintro e v⟨rfl,rfl⟩;clear d;go_wp2_with(first
  |(at_builtin;refine St rfl rfl rfl rfl c b (news:=[_,_,_]) rfl (rQ _ _ _ _ _ _ lV) ZO B8 B8 ?_;intro g p W c b;have A:=oR [(250:y?),a,j,c0] _ 4 _ W c B8)
  |fail)
 go_ret;exact⟨rfl,b⟩
def Xc(n:O)(h:67823<n)(o:n<18446744073709551616)(t:(n.log2+8)/8=4):∃s,rT n s:=by
 have x:decide ((n:I)<=240)=u?:=ag;have z:decide ((n:I)<=2287)=u?:=ag;have A:decide ((n:I)<=67823)=u?:=ag;have j:=ah (Hi.pj n jS o);generalize n.log2=m at*;have v:((m:I)+1+7)/8=4:=jS;clear t;obtain⟨d,f⟩:=lP (n/16777216);obtain⟨a,k⟩:=lP (n/65536);obtain⟨l,r⟩:=lP (n/256);obtain⟨c0,q⟩:=lP (n);refine⟨⟨#[(251:y?),d,a,l,c0]⟩,by show 5<=9;omega,λw=>?_⟩;have B:(((251:y?).toNat:O):I)=251:=rfl;have c:=ah (fa (size:=1) (base:=w.heap.size) (e:=5) w #[c? p? 251] 1 aa B8 rfl);have b:=ah (jP (jQ w) (m? #[c? p? 251] 5));go_in;go_wp2_with fail;refine(j w).mono ?_;rintro e y⟨rfl,rfl⟩;clear j;go_wp2_with(first
  |(at_builtin;refine St rfl rfl rfl rfl c b (news:=[_]) rfl (m7 _ _ _ _ lV) ZO B8 B8 ?_;intro g p W c b)
  |(at_builtin;refine St rfl rfl rfl rfl c b (news:=[_,_,_]) rfl (rQ _ _ _ _ _ _ lV) ZO B8 B8 ?_;intro g p W c b;have C:=oR [(251:y?),d,a,l,c0] _ 5 _ W c B8)
  |fail)
 go_ret;exact⟨rfl,b⟩
def Xb(n:O)(h:67823<n)(r:n<18446744073709551616)(x:(n.log2+8)/8=5):∃s,rT n s:=by
 have z:decide ((n:I)<=240)=u?:=ag;have B:decide ((n:I)<=2287)=u?:=ag;have C:decide ((n:I)<=67823)=u?:=ag;have k:=ah (Hi.pj n jS r);generalize n.log2=m at*;have y:((m:I)+1+7)/8=5:=jS;clear x;obtain⟨f,l⟩:=lP (n/4294967296);obtain⟨d,j⟩:=lP (n/16777216);obtain⟨a,o⟩:=lP (n/65536);obtain⟨q,v⟩:=lP (n/256);obtain⟨c0,t⟩:=lP (n);refine⟨⟨#[(252:y?),f,d,a,q,c0]⟩,by show 6<=9;omega,λw=>?_⟩;have D:(((252:y?).toNat:O):I)=252:=rfl;have c:=ah (fa (size:=1) (base:=w.heap.size) (e:=5) w #[c? p? 252] 1 aa B8 rfl);have b:=ah (jP (jQ w) (m? #[c? p? 252] 5));go_in;go_wp2_with fail;refine(k w).mono ?_;rintro e A⟨rfl,rfl⟩;clear k;go_wp2_with(first
  |(at_builtin;refine St rfl rfl rfl rfl c b (news:=[_]) rfl (m7 _ _ _ _ lV) ZO B8 B8 ?_;intro g p W c b)
  |(at_builtin;refine St rfl rfl rfl rfl c b (news:=[_,_,_]) rfl (rQ _ _ _ _ _ _ lV) ZO B8 B8 ?_;intro g p W c b;have F:=oR [(252:y?),f,d,a,q,c0] _ 6 _ W c B8)
  |fail)
 go_ret;exact⟨rfl,b⟩
def Xa(n:O)(h:67823<n)(t:n<18446744073709551616)(y:(n.log2+8)/8=6):∃s,rT n s:=by
 have B:decide ((n:I)<=240)=u?:=ag;have D:decide ((n:I)<=2287)=u?:=ag;have F:decide ((n:I)<=67823)=u?:=ag;have l:=ah (Hi.pj n jS t);generalize n.log2=m at*;have A:((m:I)+1+7)/8=6:=jS;clear y;obtain⟨b,z⟩:=lP (n/1099511627776);obtain⟨j,o⟩:=lP (n/4294967296);obtain⟨f,k⟩:=lP (n/16777216);obtain⟨a,q⟩:=lP (n/65536);obtain⟨r,x⟩:=lP (n/256);obtain⟨c0,v⟩:=lP (n);refine⟨⟨#[(253:y?),b,j,f,a,r,c0]⟩,by show 7<=9;omega,λw=>?_⟩;have G:(((253:y?).toNat:O):I)=253:=rfl;have d:=ah (fa (size:=1) (base:=w.heap.size) (e:=5) w #[c? p? 253] 1 aa B8 rfl);have c:=ah (jP (jQ w) (m? #[c? p? 253] 5));go_in;go_wp2_with fail;refine(l w).mono ?_;rintro e C⟨rfl,rfl⟩;clear l;go_wp2_with(first
  |(at_builtin;refine St rfl rfl rfl rfl d c (news:=[_]) rfl (m7 _ _ _ _ lV) ZO B8 B8 ?_;intro g p W d c)
  |(at_builtin;refine St rfl rfl rfl rfl d c (news:=[_,_,_]) rfl (rQ _ _ _ _ _ _ lV) ZO B8 B8 ?_;intro g p W d c;have H:=oR [(253:y?),b,j,f,a,r,c0] _ 7 _ W d B8)
  |fail)
 go_ret;exact⟨rfl,c⟩
def W_(n:O)(h:67823<n)(v:n<18446744073709551616)(z:(n.log2+8)/8=7):∃s,rT n s:=by
 have F:decide ((n:I)<=240)=u?:=ag;have H:decide ((n:I)<=2287)=u?:=ag;have J:decide ((n:I)<=67823)=u?:=ag;have o:=ah (Hi.pj n jS v);generalize n.log2=m at*;have C:((m:I)+1+7)/8=7:=jS;clear z;obtain⟨d,y⟩:=lP (n/281474976710656);obtain⟨k,A⟩:=lP (n/1099511627776);obtain⟨f,q⟩:=lP (n/4294967296);obtain⟨c,l⟩:=lP (n/16777216);obtain⟨j,r⟩:=lP (n/65536);obtain⟨t,B⟩:=lP (n/256);obtain⟨c0,x⟩:=lP (n);refine⟨⟨#[(254:y?),d,k,f,c,j,t,c0]⟩,by show 8<=9;omega,λw=>?_⟩;have K:(((254:y?).toNat:O):I)=254:=rfl;have b:=ah (fa (size:=1) (base:=w.heap.size) (e:=5) w #[c? p? 254] 1 aa B8 rfl);have a:=ah (jP (jQ w) (m? #[c? p? 254] 5));go_in;go_wp2_with fail;refine(o w).mono ?_;rintro e G⟨rfl,rfl⟩;clear o;go_wp2_with(first
  |(at_builtin;refine St rfl rfl rfl rfl b a (news:=[_]) rfl (m7 _ _ _ _ lV) ZO B8 B8 ?_;intro g p W b a)
  |(at_builtin;refine St rfl rfl rfl rfl b a (news:=[_,_,_]) rfl (rQ _ _ _ _ _ _ lV) ZO B8 B8 ?_;intro g p W b a;have D:=oR [(254:y?),d,k,f,c,j,t,c0] _ 8 _ W b B8)
  |fail)
 go_ret;exact⟨rfl,a⟩
def W8(n:O)(h:67823<n)(y:n<18446744073709551616)(B:(n.log2+8)/8=8):∃s,rT n s:=by
 have J:decide ((n:I)<=240)=u?:=ag;have L:decide ((n:I)<=2287)=u?:=ag;have N:decide ((n:I)<=67823)=u?:=ag;have r:=ah (Hi.pj n jS y);generalize n.log2=m at*;have G:((m:I)+1+7)/8=8:=jS;clear B;obtain⟨a,o⟩:=lP (n/72057594037927936);have D:(n:I)/72057594037927936=(a.toNat:I):=jS;clear o;obtain⟨f,A⟩:=lP (n/281474976710656);obtain⟨l,C⟩:=lP (n/1099511627776);obtain⟨j,t⟩:=lP (n/4294967296);obtain⟨d,q⟩:=lP (n/16777216);obtain⟨k,v⟩:=lP (n/65536);obtain⟨x,F⟩:=lP (n/256);obtain⟨c0,z⟩:=lP (n);refine⟨⟨#[(255:y?),a,f,l,j,d,k,x,c0]⟩,by show 9<=9;omega,λw=>?_⟩;have Q:(((255:y?).toNat:O):I)=255:=rfl;have c:=ah (fa (size:=1) (base:=w.heap.size) (e:=5) w #[c? p? 255] 1 aa B8 rfl);have b:=ah (jP (jQ w) (m? #[c? p? 255] 5));go_in;go_wp2_with fail;refine(r w).mono ?_;rintro e K⟨rfl,rfl⟩;clear r;go_wp2_with(first
  |(at_builtin;refine St rfl rfl rfl rfl c b (news:=[_]) rfl (m7 _ _ _ _ lV) ZO B8 B8 ?_;intro g p W c b)
  |(at_builtin;refine St rfl rfl rfl rfl c b (news:=[_,_,_]) rfl (rQ _ _ _ _ _ _ lV) ZO B8 B8 ?_;intro g p W c b;have H:=oR [(255:y?),a,f,l,j,d,k,x,c0] _ 9 _ W c B8)
  |fail)
 go_ret;exact⟨rfl,b⟩
def Xk(n:O)(h:67823<n)(a:n<18446744073709551616):16<=n.log2/\n.log2<=63:=by
 have b:=(Nat.le_log2 (n:=n) (k:=16) jS).2 jS;have c:=(Nat.log2_lt (n:=n) (k:=64) jS).2 jS;omega
def P6(n:I)(h:U n):∃s,rT n s:=by
 obtain⟨n,rfl⟩:∃k:O,n=k:=⟨n.toNat,by have:=h.1;omega⟩;have d:=h.2;by_cases a:(n:I)<=240
 .exact ZR n a
 by_cases b:(n:I)<=2287
 .exact ZQ n a b
 by_cases c:(n:I)<=67823
 .exact ZP n a b c
 have f:=Xk n jS jS;rcases(by omega:(n.log2+8)/8=3\/(n.log2+8)/8=4\/(n.log2+8)/8=5\/(n.log2+8)/8=6\/(n.log2+8)/8=7\/(n.log2+8)/8=8)with e|e|e|e|e|e
 .exact Xd n jS jS e
 .exact Xc n jS jS e
 .exact Xb n jS jS e
 .exact Xa n jS jS e
 .exact W_ n jS jS e
 exact W8 n jS jS e
open Classical in
noncomputable def r8(n:I):v?:=if h:∃s,rT n s then h.choose else⟨#[]⟩
def TR(n:I)(h:U n):rT n (r8 n):=by
 unfold r8;rw[dif_pos (P6 n h)];exact(P6 n h).choose_spec
def put_any(n:I)(h:U n)(w:jC):jE Tryz.prog 52 #[jK n] w λe w'=>e=a? (f? (r8 n))/\Below w w w':=(TR n h).2 w
def xA(n:I):(r8 n).size<=9:=by
 by_cases h:∃s,rT n s
 .unfold r8;rw[dif_pos h];exact h.choose_spec.1
 unfold r8;rw[dif_neg h];decide
end Go.Proofs.YtfcnedcahoifoaaGreatDoor

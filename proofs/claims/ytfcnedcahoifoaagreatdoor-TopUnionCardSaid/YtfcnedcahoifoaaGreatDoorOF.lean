import Derived.Maps.RangeWalk
import Derived.Lib.SlKeysI
import Derived.Test.YtfcnedcahoifoaaGreatDoorOC
namespace Go.Proofs.YtfcnedcahoifoaaGreatDoor
open Go.RowKit
open _root_.Array renaming mem_of_getElem?→h_
open _root_.Bool renaming and_eq_true→ba,or_eq_true→ft
open _root_.Go renaming Addr→jG,CallsIn→bj2,Calls→jE,Code→bk9,Ending→bi6,Exit→bk7,Operand→bl7,Oper→bk0,OwnFrom→bj3,Program→bi3,SeqStopsK→bl1,TypeId→jH,Value→jD,World→jC,YieldAt→bl4,belowK_b→bj6,bodyPost_end→bl6,bodyPost_ret→jF,callsIn_of_wp_marks→bi7,callsIn_of_wp→bj1,callsIn_wide→jI,info_parts→bi5,results_none→bj7,rounds_succ→bi9,run_takeDeferred→bi2,wpIn_wide→bi4,wpList_append_own→bk3,wp_loop_rounds→bj8,wp_region_held_drew→bi1
open _root_.Go.Act renaming put→gL
open _root_.Go.DataW renaming insert→fC,map→jy
open _root_.Go.Ending renaming returned→ff
open _root_.Go.Exit renaming noGoto_ret→cf
open _root_.Go.Fence renaming wide→cz
open _root_.Go.Instr renaming lookup→eU,mapUpdate→fG,typeAssert→dd
open _root_.Go.IntKind renaming wrap_u64→iw
open _root_.Go.IntWalk renaming wrap64_in→e_
open _root_.Go.KeepsOthers renaming refl→gq,setCell→b7
open _root_.Go.Lib renaming bitLenAux→gY,hid→ai
open _root_.Go.Lit renaming int→iK
open _root_.Go.Maps renaming has→iL,keyOf_int_mk→f_,size→gZ
open _root_.Go.Oper renaming semAt_some→db
open _root_.Go.Region renaming Mode→fD
open _root_.Go.RowKit renaming intOf→av
open _root_.Go.Value renaming int→br,slice→eo
open _root_.Go.World renaming cell?_of_block→co,cell?→fJ,ownsRow_lit→fa,ownsRow_nil→dY,setCell→bj
open _root_.Int renaming eq_ofNat_of_zero_le→fm,toNat_natCast→dM
open _root_.List renaming all_eq_true→dZ,append_nil→eB,eq_nil_of_length_eq_zero→da,filter_append→gQ,filter_cons→eC,filter_eq_self→eY,getElem?_take→gJ,length_cons→c_,length_filter_le→fe,length_map→ax,length_range→fo,map_append→dH,map_cons→df,map_take→iR,mem_append→ed,mem_cons→cw,mem_filter→eN,mem_iff_getElem→ik,mem_map→dq,mem_range→dh,mem_singleton→eM,pairwise_append→il,pairwise_cons→b6,pairwise_iff_getElem→cj,range→bu,setIfInBounds_toArray→bd,set_cons_succ→am,set_cons_zero→ak,take_append_drop→fQ,take_of_length_le→cl,take_prefix→eS,take_succ_eq_append_getElem→aj
open _root_.Nat renaming add_mul→iY,eq_zero_or_pos→fM,le_refl→ay,le_trans→a_,lt_of_lt_of_le→cn,mul_le_mul_right→fZ,mul_lt_mul_of_pos_right→ig,pow_add→im,pow_le_pow_right→ep,pow_succ→iI,reduceAdd→ao,reduceSub→dk,two_pow_pos→ee,zero_add→au,zero_le→be
open _root_.Or renaming inl→ge
open _root_.UInt8 renaming ofNat→gH,toNat_ofNat'→ji
set_option maxRecDepth 100000
set_option maxHeartbeats 16000000
set_option linter.unusedVariables false
set_option linter.unusedSimpArgs false
structure SaI where
def aI:SaI:=⟨⟩
instance aV9:CoeOut SaI Obj:=⟨fun _=>(.cells #[jJ 0,jM] 134)⟩
structure SbG(x0:Nat)(x1:Int) where
def bG(x0:Nat)(x1:Int):SbG x0 x1:=⟨⟩
instance aV2(x0:Nat)(x1:Int):CoeOut (SbG x0 x1) Obj:=⟨fun _=>(.cells #[.map (some x0),jJ x1] 500)⟩
instance aY1:CoeOut (Cp 12) Obj:=⟨fun _=>(.cells #[.string ⟨#[110,111,32,104,105,115,116,111,103,114,97,109,32,111,102,32,116,104,105,115,32,107,105,110,100]⟩] 510)⟩
structure SbK where
def bK:SbK:=⟨⟩
instance aV1:CoeOut SbK Obj:=⟨fun _=>(.cells #[.map none,jJ 0] 500)⟩
instance aX4(x0:Int × Int):CoeOut (sH 39 x0) Obj:=⟨fun _=>(.cells #[jJ x0.1,jK x0.2] 303)⟩
instance aX2:CoeOut (Cp 47) jD:=⟨fun _=>.tuple #[.agg #[jJ 0,jM],jJ 90]⟩
instance aW4(x0:Nat)(x1:Int):CoeOut (wU 55 x0 x1) (Array jD):=⟨fun _=>#[.map (some x0),jJ x1]⟩
structure SdJ where
def dJ:SdJ:=⟨⟩
instance aT9:CoeOut SdJ (Array jD):=⟨fun _=>#[.map none,jJ 0]⟩
structure SdK where
def dK:SdK:=⟨⟩
instance aT1:CoeOut SdK Obj:=⟨fun _=>(.cells #[jK 0] 22)⟩
instance aW2(x0:Nat):CoeOut (sH 60 x0) Obj:=⟨fun _=>(.cells #[.map (some x0)] 498)⟩
namespace Hi
def fr(f v:Nat):Nat:=(v-2^v.log2)*2^f/2^v.log2
def bk(f v:Nat):Nat:=if v=0 then 0 else 1+v.log2*2^f+fr f v
theorem C6(v:Nat)(h:v≠0):2^v.log2≤v∧v<2^(v.log2+1):=⟨Nat.log2_self_le h,Nat.lt_log2_self⟩
theorem We(f v:Nat)(h:v≠0):fr f v<2^f:=by
 obtain⟨h1,h2⟩:=C6 v h;unfold fr;rw[Nat.div_lt_iff_lt_mul (ee _),Nat.mul_comm];refine Nat.mul_lt_mul_of_pos_left ?_ (ee _);rw[iI]at h2;omega
variable{v:Nat}
theorem uu(h:v<18446744073709551616):v.log2<64:=by
 by_cases h0:v=0
 ·subst h0;decide
 exact(Nat.log2_lt h0).2 h
variable{f:Nat}
theorem Wh(hv:v<18446744073709551616):bk f v≤64*2^f:=by
 unfold bk;split
 ·exact be _
 rename_i h;have h1:=We f v h;have h2:(v.log2+1)*2^f≤64*2^f:=fZ _ (uu hv);rw[iY]at h2;omega
def Ns(f a:Nat):Bool:=
 match bnd f a with
 |none=>true
 |some (lo,hi)=>lo≤hi&&hi<18446744073709551616&&bk f lo==a&&bk f hi==a&&(lo==0||bk f (lo-1)<a)&&(hi==18446744073709551615||a<bk f (hi+1))&&bk (f-1) lo==bk (f-1) hi
theorem TZ:(bu 66).all (Ns 0)=true:=TO
theorem TY:(bu 130).all (Ns 1)=true:=TO
theorem TX:(bu 260).all (Ns 2)=true:=TO
theorem TW:(bu 520).all (Ns 3)=true:=TO
variable{a:Nat}
theorem ZV(hf:f≤3)(ha:a≤64*2^f):Ns f a=true:=by
 match f,hf with
 |0,_=>exact dZ.1 TZ a (dh.2 (by simp at ha;omega))
 |1,_=>exact dZ.1 TY a (dh.2 (by simp at ha;omega))
 |2,_=>exact dZ.1 TX a (dh.2 (by simp at ha;omega))
 |3,_=>exact dZ.1 TW a (dh.2 (by simp at ha;omega))
theorem So{q:Nat×Nat}(h:bnd f a=some q):a≤64*2^f:=by
 unfold bnd at h;split at h
 ·omega
 split at h
 ·cases h
 rename_i h1 h2;have:=(Nat.div_lt_iff_lt_mul (ee f)).1 (Nat.lt_of_not_le h2);omega
structure Bd(f a lo hi:Nat):Prop where
 le:lo≤hi
 lt:hi<18446744073709551616
 aG0:bk f lo=a
 aH3:bk f hi=a
 low:lo=0∨bk f (lo-1)<a
 high:hi=18446744073709551615∨a<bk f (hi+1)
 less:bk (f-1) lo=bk (f-1) hi
theorem XZ{lo hi:Nat}(hf:f≤3)(h:bnd f a=some (lo,hi)):Bd f a lo hi:=by
 have:=ZV hf (So h);unfold Ns at this;rw[h]at this;simp at this;obtain⟨⟨⟨⟨⟨⟨h1,h2⟩,h3⟩,h4⟩,h5⟩,h6⟩,h7⟩:=this;exact⟨h1,h2,h3,h4,h5,h6,h7⟩
theorem RL(h:v≠0)(hv:v<18446744073709551616)(hf:f≤3):v*2^(63-v.log2)*2%18446744073709551616/2^(64-f)=fr f v:=by
 obtain⟨h1,h2⟩:=C6 v h;have hL:=uu hv;unfold fr;obtain⟨L,e⟩:∃L,v.log2=L:=⟨_,rfl⟩;rw[e]at h1 h2 hL⊢;obtain⟨x,hx⟩:∃x,v=2^L+x:=⟨v-2^L,by omega⟩;have ex:v-2^L=x:=by omega
 have hxl:x<2^L:=by rw[iI]at h2;omega
 have e64:(2:Nat)^L*2^(64-L)=18446744073709551616:=by rw[←im,show L+(64-L)=64 by omega]
 have e1:v*2^(63-L)*2=18446744073709551616+x*2^(64-L):=by
  rw[Nat.mul_assoc,←iI,show(63-L).succ=64-L by omega,hx,iY,e64]
 have e2:x*2^(64-L)<18446744073709551616:=by rw[←e64];exact ig hxl (ee _)
 rw[ex,e1,Nat.add_mod_left,Nat.mod_eq_of_lt e2];have e3:x*2^(64-L)/2^(64-f)=x*2^(64-L)*2^L/(2^(64-f)*2^L):=(Nat.mul_div_mul_right _ _ (ee _)).symm;have e4:x*2^(64-L)*2^L=x*2^f*2^(64-f):=by
  rw[Nat.mul_assoc,←im,Nat.mul_assoc,←im,show 64-L+L=f+(64-f) by omega]
 rw[e3,e4,Nat.mul_comm (2^(64-f)),Nat.mul_div_mul_right _ _ (ee _)]
def sat(a b:Int):Int:=if 18446744073709551615-b<a then cM else a+b
theorem WS(a b:Int):sat a b=min (a+b) cM:=by unfold sat;split<;>omega
variable{a b:Int}
theorem uQ(ha:U a)(hb:U b):U (sat a b):=by unfold U at*;unfold sat;split<;>omega
def mY:jX→Int→Int→jX
 |[],a,n=>[(a,n)]
 |x::l,a,n=>if x.1<a then x::mY l a n else if x.1=a then(a,sat x.2 n)::l else(a,n)::x::l
def k8:jX→Int→Int
 |[],_=>0
 |x::l,a=>if x.1=a then x.2 else k8 l a
def S(p:Int→Bool):jX→Int
 |[]=>0
 |x::l=>(if p x.1 then x.2 else 0)+S p l
def ou(l:jX):Prop:=l.Pairwise fun x y=>x.1<y.1
def UB(l:jX):Prop:=∀x∈l,U x.2
def NZ(l:jX):Prop:=∀x∈l,x.2≠0
variable{x:Int×Int}{l:jX}
theorem UB.cons(h:UB (x::l)):U x.2∧UB l:=⟨h x lV,fun y hy=>h y (by simp[hy])⟩
theorem UB.mk(h:U x.2)(hl:UB l):UB (x::l):=fun y hy=>by
 rcases cw.1 hy with rfl|h'
 ·exact h
 exact hl y h'
theorem Bu{p:Int→Bool}:∀{l:jX},UB l→0≤S p l
 |[],_=>by simp[S]
 |x::l,h=>by
  obtain⟨h1,h2⟩:=h.cons;have:=Bu (p:=p) h2;unfold U at h1;simp only[S];split<;>omega
theorem wg:∀{l:jX}{a n:Int},UB l→U n→UB (mY l a n)
 |[],a,n,_,hn=>fun y hy=>by simp[mY]at hy;subst hy;exact hn
 |x::l,a,n,h,hn=>by
  obtain⟨h1,h2⟩:=h.cons;unfold mY;split
  ·exact UB.mk h1 (wg h2 hn)
  split
  ·exact UB.mk (uQ h1 hn) h2
  exact UB.mk hn h
theorem rF:∀{l:jX}{a n:Int}{y:Int×Int},y∈mY l a n→y.1=a∨∃z∈l,z.1=y.1
 |[],a,n,y,h=>by simp[mY]at h;subst h;exact .inl rfl
 |x::l,a,n,y,h=>by
  unfold mY at h;split at h
  ·rcases cw.1 h with rfl|h'
   ·exact .inr ⟨_,lV,rfl⟩
   rcases rF h' with h1|⟨z,hz,e⟩
   ·exact .inl h1
   exact .inr ⟨z,by simp[hz],e⟩
  split at h
  ·rcases cw.1 h with rfl|h'
   ·exact .inl rfl
   exact .inr ⟨y,by simp[h'],rfl⟩
  rcases cw.1 h with rfl|h'
  ·exact .inl rfl
  exact .inr ⟨y,h',rfl⟩
theorem ul:∀{l:jX}{a n:Int},ou l→ou (mY l a n)
 |[],a,n,_=>by simp[mY,ou]
 |x::l,a,n,h=>by
  obtain⟨h1,h2⟩:=b6.1 h;unfold mY;split
  ·refine b6.2 ⟨fun y hy=>?_,ul h2⟩;rcases rF hy with e|⟨z,hz,e⟩
   ·omega
   have:=h1 z hz;omega
  split
  ·rename_i e;exact b6.2 ⟨fun y hy=>by have:=h1 y hy;show a<y.1;omega,h2⟩
  refine b6.2 ⟨fun y hy=>?_,h⟩;rcases cw.1 hy with rfl|h'
  ·show a<y.1;omega
  have:=h1 y h';show a<y.1;omega
theorem ze:∀{l:jX}{a n:Int},UB l→NZ l→U n→n≠0→NZ (mY l a n)
 |[],a,n,_,_,hn,h0=>fun y hy=>by simp[mY]at hy;subst hy;exact h0
 |x::l,a,n,hu,hz,hn,h0=>by
  obtain⟨u1,u2⟩:=hu.cons;have z1:x.2≠0:=hz x (by simp);have z2:NZ l:=fun y hy=>hz y (by simp[hy]);unfold mY;intro y hy;split at hy
  ·rcases cw.1 hy with rfl|h'
   ·exact z1
   exact ze u2 z2 hn h0 y h'
  split at hy
  ·rcases cw.1 hy with rfl|h'
   ·show sat x.2 n≠0;unfold U at u1 hn;unfold sat;split<;>omega
   exact z2 y h'
  rcases cw.1 hy with rfl|h'
  ·exact h0
  exact hz y h'
def ku(l:jX)(m:jX):jX:=m.foldl (fun x y=>mY x y.1 y.2) l
theorem yB(l:jX)(x:Int×Int)(m:jX):ku l (x::m)=ku (mY l x.1 x.2) m:=rfl
theorem tI(l:jX)(m:jX)(x:Int×Int):ku l (m++[x])=mY (ku l m) x.1 x.2:=by simp[ku]
theorem CM:∀{m l:jX},UB l→UB m→UB (ku l m)
 |[],_,h,_=>h
 |x::m,l,h,hm=>CM (m:=m) (wg h hm.cons.1) hm.cons.2
theorem oF:∀{m l:jX},ou l→ou (ku l m)
 |[],_,h=>h
 |x::m,l,h=>oF (m:=m) (ul h)
theorem rG:∀{m l:jX},UB l→UB m→NZ l→NZ m→NZ (ku l m)
 |[],_,_,_,h,_=>h
 |x::m,l,u,um,h,hm=>rG (m:=m) (wg u um.cons.1) um.cons.2 (ze u h um.cons.1 (hm x lV)) (fun y hy=>hm y (by simp[hy]))
theorem Gi:∀{l:jX}{a n:Int},(∀x∈l,x.1<a)→mY l a n=l++[(a,n)]
 |[],_,_,_=>rfl
 |x::l,a,n,h=>by
  unfold mY;rw[if_pos (h x lV),Gi (fun y hy=>h y (by simp[hy]))];rfl
theorem uT:∀{m l:jX},ou (l++m)→ku l m=l++m
 |[],l,_=>by simp[ku]
 |x::m,l,h=>by
  have h':ou ((l++[x])++m):=by simpa using h
  have hx:∀y∈l,y.1<x.1:=fun y hy=>by
   have:=(il.1 h).2.2 y hy x (by simp);exact this
  rw[yB,Gi hx,uT (l:=l++[(x.1,x.2)]) h'];simp
variable{m:jX}
theorem Gj(h:ou m):ku [] m=m:=uT (l:=[]) S6
def pV(l:jX):jX:=l.filter fun x=>x.2 !=0
theorem tU(h:NZ l):pV l=l:=eY.2 fun x hx=>by simp[h x hx]
def qa(l:jX)(a n:Int):jX:=if n=0 then l else mY l a n
theorem CK:∀{l:jX}{a:Int},UB l→NZ l→pV (mY l a 0)=l
 |[],a,_,_=>by simp[mY,pV]
 |x::l,a,hu,hz=>by
  obtain⟨u1,u2⟩:=hu.cons;have z1:x.2≠0:=hz x (by simp);have z2:NZ l:=fun y hy=>hz y (by simp[hy]);have ih:=CK (a:=a) u2 z2;unfold U at u1;unfold mY;split
  ·unfold pV at ih⊢;rw[eC,ih];simp[z1]
  split
  ·rename_i e;have es:sat x.2 0=x.2:=by unfold sat;split<;>omega
   have:=tU hz;rw[es,←e];exact this
  have:=tU hz;unfold pV at this⊢;rw[eC,this];simp
theorem Ow{n:Int}(hu:UB l)(hz:NZ l)(hn:U n):pV (mY l a n)=qa l a n:=by
 unfold qa;split
 ·rename_i e;subst e;exact CK hu hz
 rename_i e;exact tU (ze hu hz hn e)
def ma(l:jX)(s:Int):Int:=l.foldl (fun s x=>sat s x.2) s
theorem CF:∀{l:jX}{s:Int},UB l→U s→ma l s=cap (s+S (fun _=>true) l)
 |[],s,_,hs=>by unfold U at hs;simp[ma,S,cap];omega
 |x::l,s,h,hs=>by
  obtain⟨h1,h2⟩:=h.cons;have hn:=Bu (p:=fun _=>true) h2;show ma l (sat s x.2)=_;rw[CF h2 (uQ hs h1),WS];unfold U at h1 hs;simp only[S,cap,if_true];omega
theorem FX(l:jX)(x:Int×Int)(s:Int):ma (l++[x]) s=sat (ma l s) x.2:=by simp[ma]
theorem PO{s:Int}(h:UB l)(hs:U s):U (ma l s):=by
 rw[CF h hs];have:=Bu (p:=fun _=>true) h;unfold U cap at*;omega
def ent(x:Int×Int):Lit×DataW Unit:=(.int .i64 x.1,.lit (.int .u64 x.2))
def dm(m:jX):DataW Unit:=.map (m.map ent)
theorem tq(a b:Int):(iK .i64 a).sameKey (.int .i64 b)=(a==b):=by
 simp only[Lit.sameKey,true_and];rfl
theorem A_:∀(m:jX)(a:Int),(m.map ent).find? (fun p=>p.1.sameKey (.int .i64 a))=(m.find? fun x=>x.1==a).map ent
 |[],_=>rfl
 |x::m,a=>by
  simp only[df,List.find?_cons,ent,tq]
  cases h:x.1==a
  ·simp only[A_ m a]
  rfl
theorem Dl:∀(m:jX)(a:Int),k8 m a=match m.find? (fun x=>x.1==a)with|some x=>x.2|none=>0
 |[],_=>rfl
 |x::m,a=>by
  simp only[k8,List.find?_cons];by_cases h:x.1=a
  ·simp[h]
  have:(x.1==a)=false:=by simp[h]
  rw[if_neg h,this,Dl m a]
theorem ae7(m:jX)(a:Int):(dm m).atKey (.int .i64 a) (.lit (.int .u64 0))=.lit (.int .u64 (k8 m a)):=by
 simp only[dm,DataW.atKey];rw[A_,Dl]
 cases m.find? fun x=>x.1==a<;>rfl
theorem Ba(m:jX)(a:Int):(m.map ent).filter (fun p=> !p.1.sameKey (.int .i64 a))=(m.filter fun x=>x.1 !=a).map ent:=by
 induction m with
 |nil=>rfl
 |cons x m ih=>
  simp only[df,eC,ih];have:(ent x).1.sameKey (.int .i64 a)=(x.1==a):=tq _ _;rw[this]
  cases h:x.1==a<;>simp[bne,h]
theorem XU(m:jX)(a:Int):(dm m).del (.int .i64 a)=dm (m.filter fun x=>x.1 !=a):=by
 show jy _=jy _;rw[Ba]
theorem wx{v:Int}:∀{m:jX},(∀x∈m,a<x.1)→fC (ent (a,v)) (m.map ent)=ent (a,v)::m.map ent
 |[],_=>rfl
 |x::m,h=>by
  have:(ent (a,v)).1.before (ent x).1=true:=by simp[ent,Lit.before,h x (by simp)]
  simp[fC,this]
theorem wH(h:∀x∈m,x.1≠a):(m.filter fun x=>x.1 !=a)=m:=eY.2 fun x hx=>by simp[h x hx]
theorem uy{a:Int}:∀{m:jX},(∀x∈m,x.1≠a)→k8 m a=0
 |[],_=>rfl
 |x::m,h=>by rw[k8,if_neg (h x lV),uy (fun y hy=>h y (by simp[hy]))]
theorem AL{a n:Int}(hn:U n):∀{m:jX},ou m→fC (ent (a,sat (k8 m a) n)) ((m.filter fun x=>x.1 !=a).map ent)=(mY m a n).map ent
 |[],_=>by
  have:sat 0 n=n:=by unfold U at hn;unfold sat;split<;>omega
  simp[k8,mY,fC,this]
 |x::m,h=>by
  obtain⟨h1,h2⟩:=b6.1 h;rcases Int.lt_trichotomy x.1 a with hlt|heq|hgt
  ·have d:(x.1 !=a)=true:=by simp;omega
   have e:k8 (x::m) a=k8 m a:=by rw[k8,if_neg (by omega)]
   have b:(ent (a,sat (k8 m a) n)).1.before (ent x).1=false:=by simp[ent,Lit.before];omega
   rw[eC,d,if_pos rfl,df,e,fC,b,if_neg (by simp),AL hn h2,mY,if_pos hlt,df]
  ·have d:(x.1 !=a)=false:=by simp[heq]
   have e:k8 (x::m) a=x.2:=by rw[k8,if_pos heq]
   have g:∀y∈m,a<y.1:=fun y hy=>by have:=h1 y hy;omega
   rw[eC,d,if_neg (by simp),wH (fun y hy=>by have:=g y hy;omega),e,wx g,mY,if_neg (by omega),if_pos heq,df]
  have g:∀y∈x::m,a<y.1:=fun y hy=>by
   rcases cw.1 hy with rfl|h'
   ·exact hgt
   have:=h1 y h';omega
  have s0:sat 0 n=n:=by unfold U at hn;unfold sat;split<;>omega
  rw[wH (fun y hy=>by have:=g y hy;omega),uy (fun y hy=>by have:=g y hy;omega),s0,wx g,mY,if_neg (by omega),if_neg (by omega),df,df,df]
theorem XT{n:Int}(hm:ou m)(hn:U n):(dm m).put (.int .i64 a) (.lit (.int .u64 (sat (k8 m a) n)))=dm (mY m a n):=by
 show jy (fC (ent (a,sat (k8 m a) n)) ((m.map ent).filter fun p=> !p.1.sameKey (.int .i64 a)))=jy _;rw[Ba,AL hn hm]
theorem Mu(m:jX):gZ (dm m)=m.length:=by simp[dm,gZ]
theorem Mv(m:jX):intKeys (dm m)=m.map (·.1):=by simp[dm,intKeys,ent,Go.intOf,Function.comp_def]
theorem tH:∀(m:jX)(a n:Int),(mY m a n).length≤m.length+1
 |[],_,_=>by simp[mY]
 |x::m,a,n=>by
  have:=tH m a n;unfold mY;split
  ·simp;omega
  split<;>simp
def pR(m:jX)(left:Lit→Bool):jX:=m.filter fun x=>x.2 !=0||left (.int .i64 x.1)
theorem FE(D:DataW Unit)(h:D=dm m):pR m (iL D)=m:=by
 subst h;refine eY.2 fun x hx=>?_;have:iL (dm m) (.int .i64 x.1)=true:=by
  show(m.map ent).any _=true;exact List.any_eq_true.2 ⟨ent x,dq.2 ⟨x,hx,rfl⟩,by show(iK .i64 x.1).sameKey _=true;rw[tq];simp⟩
 rw[this];simp
variable{left:Lit→Bool}
theorem M8(h:∀kl,left kl=false):pR m left=pV m:=by
 unfold pR pV;congr 1;funext x;rw[h];simp
theorem F_(h:ou m){y:Int×Int}(hx:x∈m)(hy:y∈m)(e:x.1=y.1):x=y:=by
 induction m with
 |nil=>simp at hx
 |cons z m ih=>
  obtain⟨h1,h2⟩:=b6.1 h;rcases cw.1 hx with rfl|hx'
  ·rcases cw.1 hy with rfl|hy'
   ·rfl
   have:=h1 y hy';omega
  rcases cw.1 hy with rfl|hy'
  ·have:=h1 x hx';omega
  exact ih h2 hx' hy'
theorem FF{c:Int}(hm:ou m)(h:∀zd,(dm (pR m left)).atKey (.int .i64 a) zd=.lit (.int .u64 c)):∀x∈m,x.1=a→left (.int .i64 a)=true→x.2=c:=by
 intro x hx hxa hl;have hf:(pR m left).find? (fun y=>y.1==a)=some x:=by
  cases hfi:(pR m left).find? (fun y=>y.1==a)with
  |none=>
   have h1:=List.find?_eq_none.1 hfi x (eN.2 ⟨hx,by rw[hxa,hl];simp⟩);simp[hxa]at h1
  |some y=>
   have h1:=List.find?_some hfi;have h2:=List.mem_of_find?_eq_some hfi;have h3:=(eN.1 h2).1;simp at h1;rw[F_ hm hx h3 (by rw[hxa,h1])]
 have:=h .nil;simp only[dm,DataW.atKey]at this;rw[A_,hf]at this;simp[ent]at this;exact this
theorem DO(hm:ou m)(h:∀zd,(dm (pR m left)).atKey (.int .i64 a) zd=.lit (.int .u64 0))(hl:left (.int .i64 a)=true):
 (dm (pR m left)).del (.int .i64 a)=dm (pR m fun z=>left z&& !z.sameKey (.int .i64 a)):=by
 rw[XU]
 unfold pR
 rw[List.filter_filter]
 congr 1
 refine List.filter_congr fun x hx=>?_
 simp only[tq]
 by_cases e:x.1=a
 ·have:=FF hm h x hx e hl;simp[e,this]
 have:(x.1==a)=false:=by simp[e]
 simp[this,e]
theorem FD{c:Int}(hm:ou m)(h:∀zd,(dm (pR m left)).atKey (.int .i64 a) zd=.lit (.int .u64 c))(hc:c≠0)(hl:left (.int .i64 a)=true):
 pR m left=pR m fun z=>left z&& !z.sameKey (.int .i64 a):=by
 unfold pR
 refine List.filter_congr fun x hx=>?_
 simp only[tq]
 by_cases e:x.1=a
 ·have:=FF hm h x hx e hl;simp[e,this,hc]
 have:(x.1==a)=false:=by simp[e]
 simp[this]
theorem FO{ss:List Int}(hm:ou m)(h:ss.Perm (intKeys (dm m))):ss.mergeSort (fun x y=>decide (x≤y))=m.map (·.1):=by
 rw[Mv]at h;have hlt:=List.pairwise_map.2 hm;refine List.Perm.eq_of_pairwise (le:=fun a b=>decide (a≤b)=true) (fun a b _ _ h1 h2=>by simp only[decide_eq_true_eq]at h1 h2;omega) (List.pairwise_mergeSort (fun a b c h1 h2=>by simp only[decide_eq_true_eq]at*;omega) (fun a b=>by simp only[ft,decide_eq_true_eq];omega) ss) (hlt.imp fun{a b} h=>by simp only[decide_eq_true_eq];omega) ((List.mergeSort_perm ss _).trans h)
theorem KT(h:ou m):ou (pV m):=h.filter _
section
open Go.RowKit Go.Shelf
def GN:Go.Shelf.Ren:=⟨fun|129=>67|n=>n,fun|53=>22|3=>3|4=>4|46=>152|5=>5|9=>9|n=>n,fun|n=>n⟩
theorem lays129:Go.Proofs.Lays.n129 Tryz.prog GN:={
 mixed:=oo
 f129:=Tryz.func67.trans (congrArg some oo)
 t3:=Tryz.underlying3
 a3:=Tryz.isAgg3
 z3:=Tryz.sizeOf3
 v3:=Tryz.zeroValue3
 t4:=Tryz.underlying4
 a4:=Tryz.isAgg4
 z4:=Tryz.sizeOf4
 v4:=Tryz.zeroValue4
 t5:=Tryz.underlying5
 a5:=Tryz.isAgg5
 z5:=Tryz.sizeOf5
 v5:=Tryz.zeroValue5
 t9:=Tryz.underlying9
 a9:=Tryz.isAgg9
 z9:=Tryz.sizeOf9
 v9:=Tryz.zeroValue9
 t46:=Tryz.underlying152
 a46:=Tryz.isAgg152
 z46:=Tryz.sizeOf152
 v46:=Tryz.zeroValue152
 t53:=Tryz.underlying22
 a53:=Tryz.isAgg22
 z53:=Tryz.sizeOf22
 v53:=Tryz.zeroValue22}
theorem yP:∀(f x:Nat),x<2^f→x≠0→gY f x=x.log2+1
 |0,x,h,h0=>by simp at h;omega
 |f+1,x,h,h0=>by
  rw[gY,if_neg h0];have hx:x/2<2^f:=by rw[iI]at h;omega
  by_cases h2:x/2=0
  ·have:x=1:=by omega
   subst this;have e:gY f (1/2)=0:=by cases f<;>rfl
   rw[e];decide
  rw[yP f (x/2) hx h2];have:=Nat.log2_def x;rw[if_pos (by omega)]at this;omega
theorem pj(x:Nat)(h0:x≠0)(hx:x<18446744073709551616)(w:jC):jE Tryz.prog 67 #[jK x] w fun e w'=>e=.returned (.int .i64 ((x.log2:Int)+1))∧w=w':=
 (Go.Proofs.Any.bits_Len64 lays129 x w jS jS).mono fun _ _⟨he,hw⟩=>⟨by rw[he,dM];show ff (.int .i64 ((gY 64 x:Nat):Int))=_;rw[yP 64 x hx h0];rfl,hw.symm⟩
end
abbrev sC(s:ByteArray):jD:=.iface 510 (.agg #[jL s])
theorem kR(s:ByteArray)(w:jC):jE Tryz.prog 351 #[sC s] w fun e w'=>e=.returned (.int .i64 90)∧w.alloc (.cells #[jL s] 510)=w':=by
 have ta:∀w,(dd (sC s) 171 510 true).run Tryz.prog w=.ok (.tuple #[.agg #[jL s],.bool true]) w:=fun _=>oo;go_in;go_wp2;go_ret;exact⟨rfl,rfl⟩
theorem oa(a b:Int)(ha:U a)(hb:U b)(w:jC)(g off cap:Nat)(h0:w.cell? ⟨g,off,none⟩=some (.int .u64 a))(h1:w.cell? ⟨g,off+1,none⟩=some (.int .u64 b)):
 jE Tryz.prog 357 #[.slice (bH g off) 2 cap] w fun e w'=>e=.returned (.int .u64 (sat a b))∧w=w':=by
 obtain⟨ha1,ha2⟩:=ha
 obtain⟨hb1,hb2⟩:=hb
 by_cases h:18446744073709551615-a<b
 ·go_in;go_wp2;refine bj8 3 ?_;rw[bi9];go_wp2;rw[bi9];go_wp2;go_ret;exact⟨mL (by rw[sat,if_pos jS]),rfl⟩
 go_in
 go_wp2
 refine bj8 3 ?_
 rw[bi9]
 go_wp2
 rw[bi9]
 go_wp2
 rw[bi9]
 go_wp2
 go_ret
 exact⟨mL (by rw[sat,if_neg jS]),rfl⟩
theorem Ld(hf:f≤3)(h0:v≠0)(hv:v<18446744073709551616):
 wrap64 (wrap64 (1+wrap64 (↑v.log2*2^f))+wrap64 (IntKind.u64.wrap (IntKind.u64.wrap (↑v*2^(63-v.log2))*2)/2^(64-f)))=((bk f v:Nat):Int):=by
 have e1:IntKind.u64.wrap (IntKind.u64.wrap ((v:Int)*2^(63-v.log2))*2)=((v*2^(63-v.log2)*2%18446744073709551616:Nat):Int):=by
  rw[iw,iw];have:((v:Int)*2^(63-v.log2))=((v*2^(63-v.log2):Nat):Int):=lV;rw[this];omega
 have e2:((v*2^(63-v.log2)*2%18446744073709551616:Nat):Int)/2^(64-f)=((fr f v:Nat):Int):=by
  rw[←RL h0 hv hf];simp
 have e3:((v.log2:Nat):Int)*2^f=((v.log2*2^f:Nat):Int):=lV
 have hb:=Wh (f:=f) hv
 have hp:=ep (n:=2) B8 hf
 have hb2:bk f v=1+v.log2*2^f+fr f v:=by unfold bk;rw[if_neg h0]
 rw[e1,e2,e3,hb2]
 rw[hb2]at hb
 generalize v.log2*2^f=a at*
 generalize fr f v=c at*
 rw[e_ a jS,e_ c jS,e_ (1+(a:Int)) jS,e_ _ jS]
 omega
def lj(f v:Int):Int:=if ld f=true then((bk f.toNat v.toNat:Nat):Int)else 0
theorem yN(hf:f≤3):lj f v=((bk f v:Nat):Int):=by
 have:ld f=true:=by simp[ld];omega
 unfold lj;rw[if_pos this];simp
theorem Is(f v:Nat)(hf:f≤3)(h0:v≠0)(hv:v<18446744073709551616)(w:jC):
 jE Tryz.prog 353 #[jJ f,jK v] w fun e w'=>e=.returned (.int .i64 (bk f v))∧∃n,w'=w.drewN n:=by
 have hb:ld f=true:=by simp[ld];omega
 have HB:=ah hb
 have hL:=uu hv
 have h1:((v:Int)==0)=false:=by simp[h0]
 have HV:=ah (Ld hf h0 hv)
 go_in
 go_wp2_with fail
 refine(lK _ _).mono ?_
 rintro e w'⟨rfl,rfl⟩
 rw[HB]
 go_wp2_with fail
 refine(pj v h0 hv _).mono ?_
 rintro e w'⟨rfl,rfl⟩
 go_wp2
 go_quiet(fail)
 go_wp2
 go_ret
 exact⟨mL HV,nq,rfl⟩
theorem Ir(f:Nat)(hf:f≤3)(w:jC):
 jE Tryz.prog 353 #[jJ f,jK 0] w fun e w'=>e=.returned (.int .i64 0)∧∃n,w'=w.drewN n:=by
 have hb:ld f=true:=by simp[ld];omega
 have HB:=ah hb
 go_in
 go_wp2_with fail
 refine(lK _ _).mono ?_
 rintro e w'⟨rfl,rfl⟩
 rw[HB]
 go_wp2
 go_ret
 exact⟨rfl,0,rfl⟩
theorem Le(f v:Int)(hf:ld f=false)(w:jC):
 jE Tryz.prog 353 #[jJ f,jK v] w fun e w'=>e=.returned (.int .i64 0)∧∃n,w'=w.drewN n:=by
 have HB:=ah hf
 go_in
 go_wp2_with fail
 refine(lK _ _).mono ?_
 rintro e w'⟨rfl,rfl⟩
 rw[HB]
 go_wp2
 go_ret
 exact⟨rfl,0,rfl⟩
theorem vK(f v:Int)(hv:U v)(w:jC):
 jE Tryz.prog 353 #[jJ f,jK v] w fun e w'=>e=.returned (.int .i64 (lj f v))∧∃n,w'=w.drewN n:=by
 cases h:ld f with
 |false=>unfold lj;rw[if_neg (by simp[h])];exact Le f v h w
 |true=>
  obtain⟨h1,h2⟩:=qZ h;obtain⟨u1,u2⟩:=hv;obtain⟨F,rfl⟩:=fm h1;obtain⟨V,rfl⟩:=fm u1;rw[yN jS];by_cases h0:V=0
  ·subst h0;exact Ir F jS w
  exact Is F V jS h0 jS w
section
variable{l:Nat}{J:Act→jC→Prop}{Q:bk7→Act→jC→Prop}{a:Act}{w:jC}
end
section
variable{w w':jC}{B B':Nat}{A:Option jG}{l:List (Int×Int)}
theorem Sb.later(h:Sb w w A l)(hb:Below w w w'):Sb w' w' A l:=(Rd.below h hb).more hb.size
end
section
variable{P:bi3}{ops:Array bk0}{Q:bk7→Act→jC→Prop}{md:fD}{S:jC→Prop}{s:Nat}
end
def Mp(w:jC)(B k:Nat)(m:jX):Prop:=w.ownsMap Tryz.prog 3 (plainElem Tryz.prog 22) B k (dm m)
theorem law:Maps.Keyed Tryz.prog 3:=Maps.int_keyed Tryz.underlying3
theorem zeroE(w:jC):(zeroValue 22).run Tryz.prog w=.ok (.int .u64 0) w:=oo
theorem wf_i64(h:I64 a):(iK .i64 a).wf=true:=WalkArith.wf_i64 h
theorem wf_u64(h:U a):(iK .u64 a).wf=true:=WalkArith.wf_u64 h
theorem RB(h:UB m)(a:Int):U (k8 m a):=by
 induction m with
 |nil=>simp[k8,U]
 |cons x m ih=>
  obtain⟨h1,h2⟩:=h.cons;unfold k8;split
  ·exact h1
  exact ih h2
variable{w:jC}{B k:Nat}
theorem Mp.look(h:Mp w B k m)(ha:I64 a):(eU 498 (.map (some B)) (.int .i64 a) false).run Tryz.prog w=.ok (.int .u64 (k8 m a)) w:=by
 obtain⟨c,hrun,hat,_⟩:=World.ownsMap.lookup_int h law Tryz.underlying498 Tryz.underlying22 (zeroE _) (f_ Tryz.underlying3 (wf_i64 ha));rw[ae7]at hat;have:=(Lit.int.inj (DataW.lit.inj hat)).2.symm;rw[←this];exact hrun
theorem Mp.update{w:jC}{B k:Nat}{m:jX}(h:Mp w B k m)(hk:k<maxLen)(hm:ou m)(hU:UB m){a n:Int}(ha:I64 a)(hn:U n):
 ∃w',(fG 498 (.map (some B)) (.int .i64 a) (.int .u64 (sat (k8 m a) n))).run Tryz.prog w=.ok () w'∧Mp w' B (k+1) (mY m a n)∧(bY w w' B):=by
 obtain⟨w',h1,h2,h3⟩:=World.ownsMap.update h law Tryz.underlying498 hk (f_ Tryz.underlying3 (wf_i64 ha)) (plainElem_int Tryz.underlying22 (wf_u64 (uQ (RB hU a) hn)))
 exact⟨w',h1,by unfold Mp;rw[←XT hm hn];exact h2,h3⟩
theorem Mp.alloc{w:jC}{B k:Nat}{m:jX}(h:Mp w B k m)(o:Obj):Mp (w.alloc o) B k m:=World.ownsMap.alloc h o
theorem Mp.lt{w:jC}{B k:Nat}{m:jX}(h:Mp w B k m):B<w.heap.size:=World.ownsMap.lt h
variable{w':jC}
theorem Mp.later(h:Mp w B k m)(hb:Below w w w'):Mp w' B k m:=World.ownsMap.kept h (kH hb none) lV
variable{row:Option Nat}
theorem Mp.keep(h:Mp w B k m)(hg:w.grownBy w' row)(hne:some B≠row):Mp w' B k m:=World.ownsMap.kept h hg hne
theorem put_any(m:jX)(f a n:Int)(B k:Nat)(hm:ou m)(hU:UB m)(ha:I64 a)(hn:U n)(w:jC)(hM:Mp w B k m)(hk:k<maxLen):
 jE Tryz.prog 352 #[.agg (lI 55 B f),jJ a,jK n] w fun e w'=>e=.returned (.tuple #[])∧Mp w' B (k+1) (mY m a n)∧(bY w w' B):=by
 have X:=ah (jR.new w 500 (lI 55 B f))
 have M0:=ah (hM.alloc (bG B f))
 have G0:=ah (jP (jQ w) (bG B f))
 have hB:=hM.lt
 have hg:=RB hU a
 have HM:=ah hM
 clear hM
 go_in
 go_wp2_with fail
 generalize w.alloc (bG B f)=w0 at*
 have x0:=X.d0
 have zx:=X.lt
 refine kG (S:=fun w'=>w'.cell? ⟨w,0,none⟩=some (.map (some B))∧Mp w' B k m) (s:=10) (by kernel_rfl) ?_
 refine sU ⟨x0,M0⟩ ?_
 refine ye (i:=6) (v:=(.int .u64 (k8 m a))) rfl (by kernel_rfl) (by kernel_rfl) (by kernel_rfl) (by kernel_rfl) (by decide) (by kernel_rfl) (fun _ _ _ h=>h) (ge ⟨by rfl,?_⟩) ⟨x0,M0⟩ ?_
 ·(intro w hSw;obtain⟨s0,s1⟩:=hSw;have s2:=Mp.look s1 ha;go_simp)
 simp only[gL,bd,ak,am]
 refine sU ⟨x0,M0⟩ ?_
 refine oY 8 fun K hK=>?_
 go_simp
 have M1:=ah (M0.alloc (.cells #[jK (k8 m a),jK n] 22))
 have hb1:=jP (jQ w0) (.cells #[jK (k8 m a),jK n] 22)
 have X1:=ah (X.later hb1)
 have Y1:=ah (jR.new w0 22 #[jK (k8 m a),jK n])
 have G1:=ah (G0.trans (hb1.mono (by omega)))
 have G1:=ah (below_drewN G1 1)
 clear hb1
 have M1:Hid (Mp (w0.alloc (.cells #[jK (k8 m a),jK n] 22)).drew B k m):=M1
 have X1:Hid (jR (w0.alloc (.cells #[jK (k8 m a),jK n] 22)).drew w 500 (lI 55 B f)):=X1
 have Y1:Hid (jR (w0.alloc (.cells #[jK (k8 m a),jK n] 22)).drew w0 22 #[jK (k8 m a),jK n]):=Y1
 have G1:Hid (Below w w (w0.alloc (.cells #[jK (k8 m a),jK n] 22)).drew):=G1
 generalize(w0.alloc (.cells #[jK (k8 m a),jK n] 22)).drew=w1 at*
 have x1:=X1.d0
 have y0:=Y1.d0
 have y1:=Y1.d1
 clear x0
 refine hK.out _ _ (fun _=>⟨x1,M1⟩) ?_
 clear hK K
 refine az ?_
 refine oY 9 fun K hK=>?_
 go_simp
 refine(oa (k8 m a) n hg hn _ w0 0 2 y0 y1).mono ?_
 rintro e w2⟨rfl,rfl⟩
 refine hK.out _ _ (fun _=>⟨x1,M1⟩) ?_
 clear hK K
 refine az ?_
 refine oY 10 fun K hK=>?_
 obtain⟨w3,hrun,M3,G3⟩:=M1.update hk hm hU ha hn
 have Fk:=ah M3
 clear M3
 go_simp
 refine hK.out _ _ (fun h=>by cases h) ?_
 refine az ?_
 refine yi ?_
 go_wp2
 exact bl6 (v:=.tuple #[]) (by simp[results,Tryz.results352,go_sem]) rfl ⟨rfl,Fk,jW (kH G1 _) G3⟩
def ag2(w:jC)(f:Int)(m:jX)(k:Nat)(e:bi6)(w':jC):Prop:=
 ∃B,e=.returned (.tuple #[.agg (lI 55 B f),.nilIface])∧Mp w' B k m∧w.heap.size≤B∧Below w w w'
def ag3(w:jC)(e:bi6)(w':jC):Prop:=
 ∃s,e=.returned (.tuple #[.agg dJ,sC s])∧Below w w w'
theorem Bo(f:Int)(hf:ld f=true)(w:jC):jE Tryz.prog 356 #[jJ f] w (ag2 w f [] 0):=by
 have HF:=ah hf;have hmm:=@run_makeMap Tryz.prog;have Y:=ah (jR.new w 500 dJ);have T:=jP (jQ w) bK;go_in;go_wp2_with fail;refine(lK _ _).mono ?_;rintro e w'⟨rfl,rfl⟩;rw[HF];go_wp2;exact jF (v:=.tuple #[.agg #[.map (some (w.heap.size+1)),jJ f],.nilIface]) (by simp[results,Tryz.results356,go_sem]) rfl
  ⟨w.heap.size+1,rfl,by have:=World.ownsMap_made (H:=Unit) (w.alloc (.cells #[.map (some (w.heap.size+1)),jJ f] 500)) Tryz.prog 3 (plainElem Tryz.prog 22);simpa[Mp,dm]using this,jS,jP (jP (jQ _) _) _⟩
theorem OG(f:Int)(hf:ld f=false)(w:jC):jE Tryz.prog 356 #[jJ f] w (ag3 w):=by
 have HF:=ah hf;have hmm:=@run_makeMap Tryz.prog;have Y:=ah (jR.new w 500 dJ);have T:=jP (jQ w) bK;go_in;go_wp2_with fail;refine(lK _ _).mono ?_;rintro e w'⟨rfl,rfl⟩;rw[HF];go_wp2;exact jF (v:=.tuple #[.agg dJ,sC ⟨#[110,111,32,115,117,99,104,32,104,105,115,116,111,103,114,97,109]⟩]) (by simp[results,Tryz.results356,go_sem]) rfl ⟨_,rfl,T⟩
structure Rt(f:Int)(l:jX):Prop where
 fine:ld f=true
 rise:ou l
 nz:NZ l
 has:∀x∈l,(lx f x.1).2.2=true
theorem BY(h:∀k,k+1<l.length→(mC l k).1<(mC l (k+1)).1):ou l:=by
 induction l with
 |nil=>exact List.Pairwise.nil
 |cons x l ih=>
  have ih':=ih (fun k hk=>by have:=h (k+1) (by simpa using hk);simpa[mC]using this);refine b6.2 ⟨fun y hy=>?_,ih'⟩
  cases l with
  |nil=>simp at hy
  |cons z l=>
   have h0:=h 0 lV;simp[mC]at h0;rcases cw.1 hy with rfl|h'
   ·exact h0
   have:=(b6.1 ih').1 y h';omega
theorem EY(h:k<l.length):mC l k∈l:=by simp[mC,h]
theorem L5(h:x∈l):∃k,k<l.length∧mC l k=x:=by
 obtain⟨k,hk,e⟩:=ik.1 h;exact⟨k,hk,by simp[mC,hk,e]⟩
variable{f:Int}
theorem pS(h:kg f l=true):Rt f l:=by
 unfold kg at h;rw[ba]at h;obtain⟨h1,h2⟩:=h;have hk:∀k,k<l.length→okI f l k=true:=fun k hk=>dZ.1 h2 k (dh.2 hk);have hi:∀k,k<l.length→(mC l k).2≠0∧(lx f (mC l k).1).2.2=true∧S9 l k<(mC l k).1:=fun k h=>by
  have:=hk k h;unfold okI at this;simpa using this
 refine⟨h1,BY (fun k h=>?_),fun x hx=>?_,fun x hx=>?_⟩
 ·have:=(hi (k+1) h).2.2;rwa[IE]at this
 ·obtain⟨k,hk,rfl⟩:=L5 hx;exact(hi k hk).1
 obtain⟨k,hk,rfl⟩:=L5 hx;exact(hi k hk).2.1
theorem LN(h:ou l){i j:Nat}(hij:i<j)(hj:j<l.length):(mC l i).1<(mC l j).1:=by
 have:=cj.1 h i j jS hj hij;simpa[mC,hj,show i<l.length by omega]using this
theorem oT.ub(h:oT l):UB l:=fun x hx=>(h x hx).2
def YO(w:jC)(f:Int)(A:Option jG)(n cap g B:Nat)(m:jX)(k:Nat)(wr:jC):Prop:=
 jR wr w 134 #[jJ f,.slice A n cap]∧jR wr (w.heap.size+1) 500 dJ∧jR wr g 500 (lI 55 B f)∧Mp wr B k m∧Below w w wr
variable{g:Nat}{t:jH}{cs:Array jD}
theorem CX(h:Mp w B k m)(hx:jR w g t cs):g≠B:=by
 rintro rfl;obtain⟨es,clock,hb,_⟩:=h;unfold jR at hx;rw[hx]at hb
 cases hb
theorem sE(f:Int)(A:Option jG)(l:jX)(cap:Nat)(hU:oT l)(hl:l.length≤65536)(hr:kg f l=true)(w:jC)(hS:Sb w w A l):
 jE Tryz.prog 350 #[.agg #[jJ f,jN A l cap]] w (ag2 w f l l.length):=by
 have T:Below w w ((w.alloc (.cells #[jJ f,jN A l cap] 134)).alloc bK):=jP (jP (jQ _) _) _
 have X:=ah ((jR.new w 134 #[jJ f,jN A l cap]).alloc bK)
 have Y0:=jR.new (w.alloc (.cells #[jJ f,jN A l cap] 134)) 500 dJ
 have Y:Hid (jR ((w.alloc (.cells #[jJ f,jN A l cap] 134)).alloc bK) (w.heap.size+1) 500 dJ):=by
  have e:(w.alloc (.cells #[jJ f,jN A l cap] 134)).heap.size=w.heap.size+1:=by simp
  rw[e]at Y0;exact Y0
 clear Y0
 have HS:=ah (Sb.later hS T)
 have O7:=ah hS
 have R:=pS hr
 have HR:=ah hr
 have HF:=ah R.fine
 clear hS hr
 go_in
 go_wp2_with fail
 generalize(w.alloc (.cells #[jJ f,jN A l cap] 134)).alloc bK=w0 at*
 refine(j_ f A l cap hU (by omega) _ HS).mono ?_
 rintro e w1⟨rfl,hb1⟩
 rw[HR]
 replace X:=ah (X.later hb1)
 replace Y:=ah (Y.later hb1)
 replace T:=Below.two T hb1
 have x0:=X.d0
 have x1:=X.d1
 clear hb1
 go_wp2_with fail
 refine(Bo f HF _).mono ?_
 rintro e w2⟨B,rfl,hM,hB,hb2⟩
 clear x0 x1
 have hI:YO w f A l.length cap w2 B (ku [] (l.take 0)) 0 (w2.alloc (bG B f)):=
  ⟨(X.later hb2).alloc _,(Y.later hb2).alloc _,jR.new w2 _ _,hM.alloc _,jP (Below.two T hb2) _⟩
 have HI:=ah hI
 have hwB:w.heap.size≤B:=a_ T.size hB
 have zx:=(X.later hb2).lt
 have zy:=(Y.later hb2).lt
 have x1:=(X.later hb2).d1
 clear hI X Y T hM hB hb2
 go_wp2_with fail
 clear x1
 go_loopw[23] (fun i wr=>∃k:Nat,k≤l.length∧i=.int .i64 k∧YO w f A l.length cap w2 B (ku [] (l.take k)) k wr) (fun i _=>l.length-(av i).toNat)
 case atStart=>exact⟨0,be _,rfl,HI⟩
 obtain⟨k,hk,rfl,X,Y,Z,M,T⟩:=hrel
 clear HI
 have z0:=Z.d0
 have z1:=Z.d1
 have zz:=Z.lt
 have HX:=ah X
 have HY:=ah Y
 have HZ:=ah Z
 have HM:=ah M
 clear X Y M Z
 by_cases hlt:k<l.length
 ·obtain⟨b,off,rfl,hb,hcs⟩:=O7.at_ (by omega);obtain⟨h1,h2⟩:=hcs k hlt;have i1:=(T.cell (p:=(cP b off k)) hb).trans h1;have i2:=(T.cell (p:=(cE b off k)) hb).trans h2;have hbw:b<wr.heap.size:=by have:=T.size;omega
  have HN:Hid (ku [] (l.take (k+1))=mY (ku [] (l.take k)) (mC l k).1 (mC l k).2):=by show _=_;rw[mR hlt,tI]
  have hrs:ou (ku [] (l.take k)):=oF List.Pairwise.nil;have hub:UB (ku [] (l.take k)):=CM (fun _ h=>by simp at h) (hU.take k).ub;obtain⟨u1,u2⟩:=Iu hU k;generalize mC l k=it at*
  generalize ku [] (l.take k)=m at*
  have hi1:(0:Int)≤k:=jS;have hi2:(k:Int)<l.length:=jS;go_wp2_with fail;refine(put_any m f it.1 it.2 B k hrs hub u1 u2 _ (HM.alloc _) O0).mono ?_;rintro e w3⟨rfl,hM3,hG3⟩;have nx:=CX HM HX;have ny:=CX HM HY;have nz:=CX HM HZ;have hI:YO w f (bH b off) l.length cap w2 B (ku [] (l.take (k+1))) (k+1) w3:=
   ⟨(HX.alloc _).grown hG3 (fun e=>nx (by injection e)),(HY.alloc _).grown hG3 (fun e=>ny (by injection e)),(HZ.alloc _).grown hG3 (fun e=>nz (by injection e)),by rw[HN];exact hM3,
    (jP T _).grown hG3 (jP T _).size (fun j e=>by cases e;exact hwB)⟩
  have HI:=ah hI;go_wp2;go_roundw
  case rel=>exact⟨k+1,jS,CJ,HI⟩
  exact No
 obtain rfl:k=l.length:=jS
 have y0:=HY.d0
 have y1:=HY.d1
 have RE:=HY.frozen 0
 have RD:=HY.frozen 1
 have HE:Hid (ku [] (l.take l.length)=l):=by show _=_;rw[cl aa,Gj R.rise]
 rw[HE]at HM
 have zy2:=HY.lt
 have K:=(HY.kY 0 (.map (some B))).kY 1 (.int .i64 f)
 have k0:=K.d0
 have k1:=K.d1
 go_wp2
 refine jF (v:=.tuple #[.agg (lI 55 B f),.nilIface]) (by simp[results,Tryz.results350,go_sem,k0,k1]) rfl ⟨B,rfl,?_,hwB,?_⟩
 ·exact(HM.keep (k6 _ _ _ _) (fun e=>CX HM HY (by injection e with e;exact e.symm))).keep (k6 _ _ _ _) (fun e=>CX HM HY (by injection e with e;exact e.symm))
 exact(T.setCell (by show(aZ w);omega) _).setCell (by show(aZ w);omega) _
theorem Dy(f:Int)(A:Option jG)(l:jX)(cap:Nat)(hU:oT l)(hl:l.length≤65536)(hr:kg f l=false)(w:jC)(hS:Sb w w A l):
 jE Tryz.prog 350 #[.agg #[jJ f,jN A l cap]] w (ag3 w):=by
 have T:Below w w ((w.alloc (.cells #[jJ f,jN A l cap] 134)).alloc bK):=jP (jP (jQ _) _) _
 have Y0:=jR.new (w.alloc (.cells #[jJ f,jN A l cap] 134)) 500 dJ
 have Y:Hid (jR ((w.alloc (.cells #[jJ f,jN A l cap] 134)).alloc bK) (w.heap.size+1) 500 dJ):=by
  have e:(w.alloc (.cells #[jJ f,jN A l cap] 134)).heap.size=w.heap.size+1:=lV;rw[e]at Y0;exact Y0
 have HS:=ah (Sb.later hS T)
 have HR:=ah hr
 go_in
 go_wp2_with fail
 generalize(w.alloc (.cells #[jJ f,jN A l cap] 134)).alloc bK=w0 at*
 refine(j_ f A l cap hU jS _ HS).mono ?_
 rintro e w1⟨rfl,hb1⟩
 rw[HR]
 replace Y:=ah (Y.later hb1)
 replace T:=Below.two T hb1
 have y0:=Y.d0
 have y1:=Y.d1
 have RE:=Y.frozen 0
 have RD:=Y.frozen 1
 have zy:=Y.lt
 have K:=(Y.kY 0 (.map none)).kY 1 (.int .i64 0)
 have k0:=K.d0
 have k1:=K.d1
 go_wp2
 exact jF (v:=.tuple #[.agg dJ,sC ⟨#[110,111,32,104,105,115,116,111,103,114,97,109]⟩]) (by simp[results,Tryz.results350,go_sem,k0,k1]) rfl ⟨_,rfl,(T.setCell (by show(aZ w);omega) _).setCell (by show(aZ w);omega) _⟩
section
open Go.RowKit Go.Maps Go.Sort Go.Shelf
theorem sortsA(m:Nat):AnyZI.SortsIn Tryz.prog Tryz.sortedA_ren cz m:=
 ⟨fun blk off cap ss W hH hblk hsz=>jI.2 (AnyM.slices_Sort_int Tryz.sortA blk off cap ss W hH hblk hsz),
  fun p cap W=>jI.2 (AnyM.slices_Sort_int_none Tryz.sortA p cap W)⟩
theorem Kk(B:Nat)(w:jC):jE Tryz.prog 359 #[.map (some B)] w fun e w'=>e=.returned (.func (.func 363) #[] #[jO w])∧w.alloc (lz 60 B)=w':=
 (jI (n:=5)).1 ((AnyZI.keys_in Tryz.keysA cz 5 trivial rfl (some B) w).mono fun _ _⟨h1,h2⟩=>⟨h1,h2.symm⟩)
theorem DQ(B k:Nat)(m:jX)(hm:ou m)(w:jC)(hM:Mp w B k m)(hl:m.length≤65536):
 jE Tryz.prog 358 #[.func (.func 363) #[] #[jO w]] (w.alloc (lz 60 B)) fun e w'=>∃v,e=.returned v∧
  w'.ownsRow (w.heap.size+1) 3 1 v m.length ((m.map (·.1)).map encZ)∧Below (w.alloc (lz 60 B)).heap.size (w.alloc (lz 60 B)) w':=by
 refine(jI (n:=5)).1 ?_
 have hseq:SeqGives cz 2 Tryz.prog 363 #[jO w] encZ (fun ss=>ss.Perm (intKeys (dm m))) (gZ (dm m)) (w.alloc (lz 60 B)):=
  AnyZI.keys_gives (ρ:=Tryz.keysA_ren) {Tryz.keysA with} cz _ trivial rfl jS w B k (dm m) _ lV lV (World.ownsMap.alloc hM _)
 have cS:=AnyZI.sorted_in Tryz.sortedA cz 5 trivial trivial trivial trivial rfl jS (sortsA _) (enters_of Tryz.func362 oo rfl) 363 #[jO w] trivial (enters_of Tryz.func363 oo rfl) _ _ (by rw[Mu];unfold maxLen;omega) (by rw[Mu];omega) _ hseq
 change bj2 _ _ Tryz.prog 358 _ _ _ at cS
 refine cS.mono ?_
 rintro e w'⟨v,ss,rfl,hS,hrow,_,hb⟩
 have hlen:ss.length=m.length:=by have:=hS.length_eq;rw[Mv]at this;simpa using this
 rw[FO hm hS,hlen]at hrow
 have e1:(w.alloc (lz 60 B)).heap.size=w.heap.size+1:=lV
 rw[e1]at hrow
 exact⟨v,rfl,hrow,hb⟩
end
def ph(w:jC)(base:Nat)(v:jD)(l:jX):Prop:=
 ∃A c,v=.slice A l.length c∧l.length≤c∧(A=none→c=0)∧Sb w w A l∧oV w base A
theorem ph.from{w:jC}{base base':Nat}{v:jD}{l:jX}(h:ph w base v l)(hb:base'≤base):ph w base' v l:=by
 obtain⟨A,c,e,hc,hA,hS,hF⟩:=h;exact⟨A,c,e,hc,hA,hS,hF.from hb⟩
theorem po(w:jC)(base:Nat):ph w base aO []:=⟨none,0,rfl,ay _,fun _=>rfl,Rd.none_,fun _ e=>LS⟩
variable{n:Nat}{v:jD}
theorem N2{base:Nat}{e:jH}(hn:n=l.length)(h:w.ownsRow base e 2 v n (mD l)):ph w base v l:=by
 subst hn;have h':=h;rcases h.2 with⟨rfl,h0⟩|⟨g,cap,cur,rfl,hb,hh,hnc,_⟩
 ·have:=da h0;subst this;exact po w base
 exact⟨_,cap,rfl,hnc,(fun e=>LS),Rd.own h',fun _ ea=>by cases ea;exact⟨hb,cur,_,hh⟩⟩
theorem Jw{b off:Nat}(h:Sb w B (bH b off) l)(hx:jR w g t cs)(hu:∀v∈cs,∀n,v≠br .u64 n)(hl:l≠[]):b≠g:=by
 rintro rfl;have h0:0<l.length:=by cases l with|nil=>exact absurd rfl hl|cons x r=>simp
 obtain⟨b',off',e,hb,hc⟩:=h.at_ h0
 cases e
 have h2:=(hc 0 h0).2;rw[hx.cell]at h2;exact hu _ (h_ h2) _ rfl
variable{A:Option jG}
theorem Nh(h:Sb w w A l)(hx:jR w g t cs)(hu:∀v∈cs,∀n,v≠br .u64 n)(hg:(bY w w' g)):Sb w' w' A l:=fun hl=>by
 have hl':l≠[]:=by rintro rfl;exact hl rfl
 obtain⟨b,off,e,hb,hc⟩:=h hl;subst e;have hne:=Jw h hx hu hl';exact⟨b,off,rfl,cn hb hg.size,fun j v hj=>(co (hg.block b hb (fun e=>hne (by injection e)))).trans (hc j v hj)⟩
theorem wD{base b:Nat}{cs':Array jD}(h:ph w base v l)(hx:jR w b t cs)(hu:∀v∈cs,∀n,v≠br .u64 n)(hg:(bY w w' b))(hx':jR w' b t cs'):ph w' base v l:=by
 obtain⟨A,c,e,hc,hA,hS,hF⟩:=h;refine⟨A,c,e,hc,hA,Nh hS hx hu hg,fun ad ea=>?_⟩;obtain⟨h1,ds,t2,h2⟩:=hF ad ea;refine⟨h1,?_⟩;by_cases hb:ad.block=b
 ·rw[hb];exact⟨_,_,hx'⟩
 exact⟨ds,t2,(hg.block _ (oh h2) (fun e=>hb (by injection e))).trans h2⟩
def sS(w:jC)(x:Int×jX×Int)(e:bi6)(w':jC):Prop:=
 Below w w w'∧∃v,e=.returned (.tuple #[.agg #[jJ x.1,v],jJ x.2.2])∧ph w' w v x.2.1
variable{xs:List jD}
theorem CS{base:Nat}{e:jH}{size:Nat}(h:w.ownsRow base e size v n xs)(j:Nat)(hj:v.ownBlock=some j):base≤j:=by
 obtain⟨A,c,rfl,_,_,hb⟩:=lB h
 cases A with
 |none=>cases hj
 |some ad=>cases hj;exact(hb ad rfl).1
theorem Tryz.Ez:(Tryz.prog.info? 303).map (fun i=>(i.zero,i.size,i.bytes))=some (some (.agg #[jJ 0,jK 0]),2,16):=oo
theorem _root_.Go.Proofs.YtfcnedcahoifoaaGreatDoor.Rd.grown(h:Rd w B A xs)(hB:B≤w.heap.size)(hg:w.grownBy w' row)(hr:∀ad,A=some ad→some ad.block≠row):Rd w' B A xs:=fun hl=>by
 obtain⟨b,off,e,hb,hc⟩:=h hl;exact⟨b,off,e,hb,fun j u hj=>(co (hg.block b jS (hr _ e))).trans (hc j u hj)⟩
theorem Hd:∀{m:jX}{k:Nat},ou m→k<m.length→k8 m (mC m k).1=(mC m k).2
 |[],_,_,h=>by simp at h
 |x::m,0,_,_=>by simp[k8,mC]
 |x::m,k+1,hr,h=>by
  obtain⟨h1,h2⟩:=b6.1 hr;have hk:k<m.length:=by simpa using h
  have e:mC (x::m) (k+1)=mC m k:=by simp[mC]
  have:=h1 _ (EY hk);rw[e,k8,if_neg (by omega)];exact Hd h2 hk
theorem KD(l:jX)(x:Int×Int):mD (l++[x])=mD l++[.int .i64 x.1,.int .u64 x.2]:=by simp[mD]
theorem Ov(h:x∈pV m):x∈m:=(eN.1 h).1
def SwI(w:jC)(B:Nat)(f:Int)(wr:jC):Prop:=
 jR wr w 500 (lI 55 B f)∧jR wr (w.heap.size+1) 134 #[jJ 0,jM]∧(bY w wr B)∧w.heap.size+1<wr.heap.size
def GaI(w:jC)(B k gx base:Nat)(f:Int)(Ak:Option jG)(m:jX)(j:Nat)(wr:jC):Prop:=
 jR wr w 500 (lI 55 B f)∧jR wr (w.heap.size+1) 134 #[jJ 0,jM]∧(bY w wr B)∧
 Mp wr B k m∧Rd wr base Ak ((m.map (·.1)).map encZ)∧base≤wr.heap.size∧
 ∃A c,jR wr gx 134 #[jJ f,.slice A j c]∧wr.ownsRow base 303 2 (.slice A j c) j (mD (m.take j))
theorem lM(h:Mp w B k m)(hx:jR w g t cs):some g≠some B:=fun e=>CX h hx (by injection e)
theorem tV(m:jX)(f:Int)(B k:Nat)(hm:ou m)(hU:oT m)(hl:m.length≤65536)(w:jC)(hM:Mp w B k m):
 jE Tryz.prog 354 #[.agg (lI 55 B f)] w fun e w'=>(bY w w' B)∧∃v,e=.returned (.agg #[jJ f,v])∧ph w' w v (pV m):=by
 obtain⟨i0,hi0,hz0,hz1,hz2⟩:=bi5 Tryz.Ez
 have T:Below w w ((w.alloc (bG B f)).alloc aI):=jP (jP (jQ _) _) _
 have X:=ah ((jR.new w 500 (lI 55 B f)).alloc aI)
 have Y0:=jR.new (w.alloc (bG B f)) 134 #[jJ 0,jM]
 have Y:Hid (jR ((w.alloc (bG B f)).alloc aI) (w.heap.size+1) 134 #[jJ 0,jM]):=by
  have e:(w.alloc (bG B f)).heap.size=w.heap.size+1:=by simp
  rw[e]at Y0;exact Y0
 clear Y0
 have hBl:=hM.lt
 have hM0:Mp ((w.alloc (bG B f)).alloc aI) B k m:=(hM.alloc _).alloc _
 have hsz:((w.alloc (bG B f)).alloc aI).heap.size=w.heap.size+2:=by simp
 clear hM
 go_in
 go_wp2_with(first
  |(at_range;refine wpList_range_own _ rfl _ 498 rfl 3 22 law Tryz.underlying498 _ B k _ rfl hM0 ?_;intro w1 hrg0 hg0 hs0)
  |go_in)
 have hI:SwI w B f w1:=⟨X.grown hg0 (by simp),Y.grown hg0 (by simp),jW (kH T _) (hg0.but _),by omega⟩
 rw[hsz]at hrg0⊢
 have HI:=ah hI
 have HG:=ah hrg0
 clear hI X Y T hM0 hg0 hs0 hsz hrg0
 obtain⟨r,hr⟩:∃r,w.heap.size+2=r:=⟨_,rfl⟩
 rw[hr]at HG⊢
 have hr1:w.heap.size+1<r:=by omega
 clear hr
 go_frame
 go_loopw[3] (fun _ wr=>∃(left:Lit→Bool)(cnt:Nat),wr.ranges Tryz.prog 3 (plainElem Tryz.prog 22) B r k (dm (pR m left)) left cnt∧SwI w B f wr) (fun _ wr=>wr.rangeLeft B r)
 case atStart=>exact⟨_,_,by rw[FE (dm m) rfl];exact HG,HI⟩
 clear HI HG
 obtain⟨left,cnt,hrg,X,Y,G,hz⟩:=hrel
 have HX:=ah X
 have HY:=ah Y
 have HGr:=ah G
 clear X Y G
 go_wp2_with(first
  |(at_next;refine wpList_next_ranges_ii _ rfl _ rfl 3 22 .i64 .u64 law Tryz.underlying3 Tryz.underlying22 B r k _ _ _ rfl hrg ?_ ?_)
  |go_in)
 ·intro _ hl0;have hM:Mp wr B k (pV m):=by have:=hrg.owns;rw[M8 hl0]at this;exact this
  have hm':ou (pV m):=KT hm;have hU':oT (pV m):=fun x hx=>hU x (Ov hx);have hl':(pV m).length≤65536:=a_ (fe _ _) hl;clear hrg hl0 hm hU hl;obtain⟨m',hme⟩:∃x,pV m=x:=⟨_,rfl⟩;rw[hme]at hM hm' hU' hl';have HD:=ah hme;clear hme;have HM:=ah hM;clear hM;have x0:=HX.d0;have x1:=HX.d1;have zx:=HX.lt;go_wp2_with fail;have hbx:=jP (jQ wr) (.cells #[jJ f,jM] 134);have GX:=ah (jR.new wr 134 #[jJ f,jM]);have M1:=ah (HM.later hbx);have X1:=ah (HX.later hbx);have Y1:=ah (HY.later hbx);have G1:=ah (jW HGr (kH hbx _));have hzx:wr.heap.size<(wr.alloc (.cells #[jJ f,jM] 134)).heap.size:=GX.lt;clear hbx x0 x1 HM HX HY HGr;generalize wr.alloc (.cells #[jJ f,jM] 134)=w2 at*
  refine(Kk B w2).mono ?_;rintro e w'⟨rfl,rfl⟩;go_wp2_with fail;refine(DQ B k m' hm' w2 M1 hl').mono ?_;rintro e w3⟨v,rfl,hrow,hb3⟩;have Kt:Below w2 w2 w3:=Below.two (jP (jQ w2) _) hb3;obtain⟨Ak,ck,rfl,_,hRk,hFk⟩:=lB hrow;have NK:Hid (∀ad,Ak=some ad→wr.heap.size<ad.block):=fun ad e=>by have:=(hFk ad e).1;omega
  have hI:GaI w B k wr w3 f Ak m' 0 w3:=
   ⟨X1.later Kt,Y1.later Kt,jW G1 (kH Kt _),M1.later Kt,hRk,ay _,none,0,GX.later Kt,dY _ _ _ _⟩
  have HI:=ah hI;have hz3:wr.heap.size<w3.heap.size:=by have:=Kt.size;omega
  have nx:w.heap.size≠wr.heap.size:=by omega
  have ny:w.heap.size+1≠wr.heap.size:=by omega
  have nB:B≠wr.heap.size:=by omega
  clear hI hrow hRk hFk hb3 Kt X1 Y1 G1 M1 GX;go_wp2_with fail;generalize wr.heap.size=gx at*
  go_loopw[29] (fun i w4=>∃j:Nat,j≤m'.length∧i=.int .i64 j∧GaI w B k gx w3 f Ak m' j w4) (fun i _=>m'.length-(av i).toNat)
  case atStart=>exact⟨0,be _,rfl,HI⟩
  clear HI;obtain⟨j,hj,rfl,X,Y,G,M,RK,hbase,A,c,Z,hO⟩:=hrel;have x0:=X.d0;have z1:=Z.d1;have z0:=Z.d0;have zx':=X.lt;have zz:=Z.lt;have HX:=ah X;have HY:=ah Y;have HZ:=ah Z;have HG:=ah G;have HM:=ah M;have HR:=ah RK;have HO:=ah hO;clear X Y Z G M RK hO;by_cases hlt:j<m'.length
  ·obtain⟨b,off,rfl,hb,hcs⟩:=HR.at_ (by simp;omega);have i1:=hcs j (.int .i64 (mC m' j).1) (by simp[mC,hlt]);have hbn:=NK _ rfl;simp only at hbn;have lk:=HM.look (hU' _ (EY hlt)).1;rw[Hd hm' hlt]at lk;have HF:Hid (mD (m'.take (j+1))=mD (m'.take j)++[.int .i64 (mC m' j).1,.int .u64 (mC m' j).2]):=by show _=_;rw[mR hlt,KD]
   generalize mC m' j=it at*
   have hi1:(0:Int)≤j:=by omega
   have hi2:(j:Int)<m'.length:=by omega
   have hbw:b<wr.heap.size:=by omega
   have xe:=ah (HO.alloc (lz 39 it));have HR1:Hid (Rd (wr.alloc (lz 39 it)) (dE wr) (aM wr) [jJ it.1,jK it.2]):=fun _=>
    ⟨wr,0,rfl,by omega,fun i u hu=>by rw[au,(jR.new wr 303 #[jJ it.1,jK it.2]).cell];simpa using hu⟩
   have fz:=HZ.frozen 1;clear hcs;go_wp2_with(first
    |(
     at_builtin
     refine kr _ rfl (.tmp 34) (.tmp 41) 132 rfl w3 303 i0 (.agg #[jJ 0,jK 0]) 2 16 Tryz.underlying132 hi0 hz0 hz1 hz2 rfl (by decide) (.slice A j c) j _ rfl xe (dE wr) (aM wr) 1 1 [jJ it.1,jK it.2] rfl (by simp) HR1 (by intro u hu;simp at hu;rcases hu with rfl|rfl<;>rfl) (by unfold maxLen;omega) (by omega) (by simp;omega) ?_
     intro v5 w5 hown5 hg5 _
     rw[←HF]at hown5
     obtain⟨A5,c5,rfl,_,_,_⟩:=lB hown5
     have BC:=ah hown5
     have ob:∀q,(eo A j c).ownBlock=some q→w3.heap.size≤q:=fun q e=>CS xe q e
     have Wc:wr.grownBy w5 (eo A j c).ownBlock:=jW (World.grownBy_alloc wr _ _) hg5
     have Zv:=ah Wc
     have HOB:=ah ob
     have z5:=(HZ.grown Wc (fun e=>by have:=ob _ e.symm;omega))
     have yX:=ai z5
     have z51:=z5.d1
     have z50:=z5.d0
     have fz5:=z5.frozen 1
     have zl5:=z5.lt
     clear hown5 hg5 Wc ob z5 z1 z0 fz i1 lk x0)
    |go_in)
   have S5:=k6 w5 gx 1 (.slice A5 (j+1) c5);have X5:=HX.out.grown Zv.out (fun e=>by have:=HOB.out _ e.symm;omega);have Y5:=HY.grown Zv (fun e=>by have:=HOB _ e.symm;omega);have M5:=HM.keep Zv (fun e=>by have:=HOB _ e.symm;omega);have R5:=HR.grown hbase Zv (fun ad e=>by cases e;intro e;have:=HOB _ e.symm;simp at this;omega);have G5:(bY w w5 B):=HG.andThen Zv (fun q e=>ge (by have:=HOB _ e;omega));have z5s:wr.heap.size≤w5.heap.size:=Zv.size;have hI:GaI w B k gx w3 f (bH b off) m' (j+1) (w5.setCell ⟨gx,1,none⟩ (.slice A5 (j+1) c5)):=
    ⟨X5.grown S5 (fun e=>nx (by injection e)),Y5.grown S5 (fun e=>ny (by injection e)),G5.andThen S5 (fun q e=>ge (by cases e;omega)),M5.keep S5 (fun e=>nB (by injection e)),
     R5.grown (by omega) S5 (fun ad e=>by cases e;intro e;injection e with e;have e':b=gx:=e;omega),by have:=S5.size;omega,A5,c5,by have:=yX.kY 1 (.slice A5 (j+1) c5);simpa using this,BC.kept S5 (by
      cases ho:(eo A5 (j+1) c5).ownBlock with
      |none=>exact .inl rfl
      |some q=>right;intro e;injection e with e;have:=CS BC q ho;omega)⟩
   have HI:=ah hI;clear hI X5 Y5 M5 R5 G5 S5 BC z51 z50 fz5;go_wp2_with fail;go_roundw
   case rel=>exact⟨j+1,by omega,by go_num,HI⟩
   simp[av];omega
  obtain rfl:j=m'.length:=by omega
  have y0:=HY.d0;have y1:=HY.d1;have RE:=HY.frozen 0;have RD:=HY.frozen 1;have zy:=HY.lt;have HE:=HO;rw[cl aa]at HE;have HH:Hid (ph wr w (.slice A m'.length c) m'):=(N2 rfl HE).from (by omega);have K:=(HY.kY 0 (.int .i64 f)).kY 1 (.slice A m'.length c);have K2:jR ((wr.setCell (aE w) (.int .i64 f)).setCell (bS w) (.slice A m'.length c)) (w.heap.size+1) 134 #[jJ f,jN A m' c]:=by simpa using K
  have HK:=ah K2;have k0:=K2.d0;have k1:=K2.d1;have G5:=jW (k6 wr (w.heap.size+1) 0 (.int .i64 f)) (k6 _ (w.heap.size+1) 1 (.slice A m'.length c));clear HE K K2;go_wp2_with fail;refine jF (v:=.agg #[jJ f,jN A m' c]) (by simp[results,Tryz.results354,go_sem,k0,k1]) rfl ⟨HG.andThen G5 (fun q e=>ge (by cases e;omega)),_,rfl,?_⟩;rw[HD];exact wD HH HY (by intro v hv n e;simp at hv;rcases hv with rfl|rfl<;>cases e) G5 HK
 intro x c w1 cnt1 hwx hwc hlx hat hrg1 hlt hg1 hs1 hen
 have X1:=HX.grown hg1 (by intro e;injection e with e;omega)
 have Y1:=HY.grown hg1 (by intro e;injection e with e;omega)
 have G1:(bY w w1 B):=HGr.andThen hg1 (fun j hj=>by cases hj;exact ge (by omega))
 have x0:=X1.d0
 by_cases hc0:c=0
 ·subst hc0;have HI:Hid (∀w2,(bY w1 w2 B)→Mp w1 B k (pR m left)→SwI w B f w2):=fun w2 hg hM=>⟨X1.grown hg (lM hM X1),Y1.grown hg (lM hM Y1),jW G1 hg,by have:=hg.size;omega⟩;clear X1 Y1 G1;go_wp2_with(first
   |(at_delete;refine wpList_delete_ranges _ rfl _ _ 498 3 rfl 22 law Tryz.underlying498 _ B r k _ _ _ rfl hrg1 _ _ rfl (f_ Tryz.underlying3 hwx) ?_;intro w2 cnt2 hrg2 hle hturn;go_frame)
   |go_in)
  rw[Maps.strike_twice]at hrg2;have hI:=HI w2 hturn.grown hrg1.owns;go_roundw
  case rel=>exact⟨_,cnt2,by rw[←DO hm hat hlx];exact hrg2,hI⟩
  rw[hrg2.left_eq,hrg.left_eq];omega
 have dc:(c==0)=false:=by simp[hc0]
 have HI:Hid (SwI w B f w1):=⟨X1,Y1,G1,by omega⟩
 clear X1 Y1 G1
 go_wp2_with fail
 go_roundw
 case rel=>exact⟨_,cnt1,by rw[←FD hm hat hc0 hlx];exact hrg1,HI⟩
 rw[hrg1.left_eq,hrg.left_eq];exact hlt
def pc(f:Int)(l:jX)(v n:Int):Int×jX×Int:=if kg f l=true then(f,qa l (lj f v) n,0)else(0,[],90)
theorem Lf(f:Int){v:Int}(hv:U v):0≤lj f v∧lj f v≤512:=by
 unfold lj;split
 ·rename_i h;obtain⟨h1,h2⟩:=qZ h;obtain⟨u1,u2⟩:=hv;have:=Wh (f:=f.toNat) (v:=v.toNat) (by omega);have hp:2^f.toNat≤8:=ep (n:=2) (j:=3) (by decide) (by omega);omega
 omega
theorem q_(f:Int){v:Int}(hv:U v):I64 (lj f v):=by have:=Lf f hv;unfold I64;omega
theorem Ac{n:Int}(h:oT m)(ha:I64 a)(hn:U n):oT (mY m a n):=fun x hx=>by
 refine⟨?_,wg h.ub hn x hx⟩;rcases rF hx with e|⟨z,hz,e⟩
 ·rw[e];exact ha
 rw[←e];exact(h z hz).1
variable{c:Nat}
theorem JW:∀v∈(#[jJ a,.slice A n c]:Array jD),∀m,v≠br .u64 m:=by
 intro v hv m e;simp at hv;rcases hv with rfl|rfl<;>cases e
theorem Dj(w:jC)(g:Nat)(x y:jD):w.grownBy (rU 57 w g x y) (some g):=jW (k6 _ _ _ _) (k6 _ _ _ _)
theorem _root_.Go.Proofs.YtfcnedcahoifoaaGreatDoor.jR.set2{a b x y:jD}(h:jR w g t #[a,b]):jR (rU 57 w g x y) g t #[x,y]:=by
 have:=(h.kY 0 x).kY 1 y;simpa using this
theorem nA{a:jC}(h:Below a a w)(hg:a.heap.size≤g)(x y:jD):Below a a (rU 57 w g x y):=ly h (Dj _ _ _ _) hg
theorem nt{base:Nat}{x y:jD}(h:ph w base v l)(hx:jR w g t #[jJ a,.slice A n c]):ph (rU 57 w g x y) base v l:=
 wD h hx JW (Dj _ _ _ _) hx.set2
theorem Sv(f:Int)(A:Option jG)(l:jX)(cap:Nat)(v n:Int)(hv:U v)(hn:U n)(hU:oT l)(hl:l.length≤60000)(hr:kg f l=true)(w:jC)(hS:Sb w w A l):
 jE Tryz.prog 346 #[.agg #[jJ f,jN A l cap],jK v,jK n] w (sS w (f,qa l (lj f v) n,0)):=by
 have T:Below w w ((w.alloc (.cells #[jJ f,jN A l cap] 134)).alloc aI):=jP (jP (jQ _) _) _
 have Y:=ah (jR.new2 w (.cells #[jJ f,jN A l cap] 134) 134 #[jJ 0,jM])
 have HS:=ah (Sb.later hS T)
 have R:=pS hr
 have hb:=q_ f hv
 have HR:=ah hr
 go_in
 go_wp2_with fail
 generalize(w.alloc (.cells #[jJ f,jN A l cap] 134)).alloc aI=w0 at*
 refine(sE f A l cap hU jS HR _ HS).mono ?_
 rintro e w1⟨B,rfl,hM,hB,hb1⟩
 have X:=ah (jR.new w1 500 (lI 55 B f))
 have hba:=jP (jQ w1) (bG B f)
 replace Y:=ah ((Y.later hb1).later hba)
 have hwB:=a_ T.size hB
 have T1:=ah (Below.two (Below.two T hb1) hba)
 have M:=ah (hM.later hba)
 go_wp2_with fail
 generalize w1.alloc (bG B f)=w2 at*
 have x0:=X.d0
 have x1:=X.d1
 have zx:=X.lt
 obtain⟨bb,hbb⟩:∃b,lj f v=b:=⟨_,rfl⟩
 have Ct:=ah hbb
 rw[hbb]at hb
 refine bi1 (S:=fun w'=>w'.cell? ⟨w1,0,none⟩=some (.map (some B))∧w'.cell? ⟨w1,1,none⟩=some (.int .i64 f)) oo ⟨x0,x1⟩ (fun hHeld=>?_)
 refine re hHeld ?_
 refine pL 4 fun K hK=>?_
 go_simp
 refine(vK f v hv _).mono ?_
 rintro e w3⟨rfl,q,rfl⟩
 rw[Ct]
 refine hK.out _ _ ⟨x0,x1⟩ (fun hHeld=>?_)
 refine az ?_
 refine pL 6 fun K hK=>?_
 go_simp
 refine(put_any l f bb n B l.length R.rise hU.ub hb hn _ (by exact M) O0).mono ?_
 rintro e w4⟨rfl,hM4,hG4⟩
 have EJ:(bY w2 w4 B):=⟨hG4.os,hG4.tape,hG4.output,hG4.size,hG4.block⟩
 have X4:=ah (X.grown EJ (lM M X))
 have Y4:=ah (Y.grown EJ (lM M Y))
 have T4:=ah (ly T1 EJ hwB)
 have M4:=ah hM4
 refine hK.out _ _ ⟨X4.d0,X4.d1⟩ (fun hHeld=>?_)
 refine az ?_
 refine hdn ?_
 have x0:=X4.d0
 have x1:=X4.d1
 have y0:=Y4.d0
 have y1:=Y4.d1
 have zx4:=X4.lt
 go_wp2_with fail
 refine(tV (mY l bb n) f B (l.length+1) (ul R.rise) (Ac hU hb hn) (by have:=tH l bb n;omega) _ M4).mono ?_
 rintro e w5⟨EJ,v5,rfl,hh5⟩
 rw[Ow hU.ub R.nz hn]at hh5
 obtain⟨A5,c5,rfl,hc5,hA5,hS5,hF5⟩:=hh5
 have hh5:ph w5 w (.slice A5 (qa l bb n).length c5) (qa l bb n):=⟨A5,c5,rfl,hc5,hA5,hS5,hF5.from T4.size⟩
 have Y5:=ah (Y4.grown EJ (lM M4 Y4))
 have T5:=ah (ly T4 EJ hwB)
 have HH:=ah hh5
 have VI:=Y5.d0
 have VH:=Y5.d1
 have RE:=Y5.frozen 0
 have RD:=Y5.frozen 1
 have zy:=Y5.lt
 have K:=Y5.set2 (x:=.int .i64 f) (y:=.slice A5 (qa l bb n).length c5)
 have k0:=K.d0
 have k1:=K.d1
 go_wp2_with fail
 rw[Ct]
 exact jF (v:=.tuple #[.agg #[jJ f,.slice A5 (qa l bb n).length c5],jJ 0]) (by simp[results,Tryz.results346,go_sem,k0,k1]) rfl
  ⟨nA T5 jS _ _,_,rfl,nt HH Y5⟩
theorem add_bad(f:Int)(A:Option jG)(l:jX)(cap:Nat)(v n:Int)(hU:oT l)(hl:l.length≤60000)(hr:kg f l=false)(w:jC)(hS:Sb w w A l):
 jE Tryz.prog 346 #[.agg #[jJ f,jN A l cap],jK v,jK n] w (sS w (0,[],90)):=by
 have T:Below w w ((w.alloc (.cells #[jJ f,jN A l cap] 134)).alloc aI):=jP (jP (jQ _) _) _
 have Y:=ah (jR.new2 w (.cells #[jJ f,jN A l cap] 134) 134 #[jJ 0,jM])
 have HS:=ah (Sb.later hS T)
 have HR:=ah hr
 go_in
 go_wp2_with fail
 generalize(w.alloc (.cells #[jJ f,jN A l cap] 134)).alloc aI=w0 at*
 refine(Dy f A l cap hU jS HR _ HS).mono ?_
 rintro e w1⟨s,rfl,hb1⟩
 have hba:=jP (jQ w1) bK
 replace Y:=ah ((Y.later hb1).later hba)
 replace T:=Below.two (Below.two T hb1) hba
 go_wp2_with fail
 generalize w1.alloc bK=w2 at*
 refine(kR s _).mono ?_
 rintro e w3⟨rfl,rfl⟩
 have hba:=jP (jQ w2) (.cells #[jL s] 510)
 replace Y:=ah (Y.later hba)
 replace T:=Below.two T hba
 generalize w2.alloc (.cells #[jL s] 510)=w3 at*
 have VI:=Y.d0
 have VH:=Y.d1
 have RE:=Y.frozen 0
 have RD:=Y.frozen 1
 have zy:=Y.lt
 have K:=Y.set2 (x:=.int .i64 0) (y:=.slice none 0 0)
 have k0:=K.d0
 have k1:=K.d1
 go_wp2
 exact jF (v:=(rO 47)) (by simp[results,Tryz.results346,go_sem,k0,k1]) rfl
  ⟨nA T jS _ _,_,rfl,nt (po _ _) Y⟩
theorem add_any(f:Int)(A:Option jG)(l:jX)(cap:Nat)(v n:Int)(hv:U v)(hn:U n)(hU:oT l)(hl:l.length≤60000)(w:jC)(hS:Sb w w A l):
 jE Tryz.prog 346 #[.agg #[jJ f,jN A l cap],jK v,jK n] w (sS w (pc f l v n)):=by
 cases h:kg f l with
 |true=>rw[pc,if_pos h];exact Sv f A l cap v n hv hn hU hl h w hS
 |false=>rw[pc,if_neg (by simp[h])];exact add_bad f A l cap v n hU hl h w hS
def l8(f:Int)(l:jX)(g:Int)(m:jX):Int×jX×Int:=if kg f l=true∧kg g m=true∧g=f then(f,ku l m,0)else(0,[],90)
theorem _root_.Go.Proofs.YtfcnedcahoifoaaGreatDoor.jR.Ua(w:jC)(o o':Obj)(t:jH)(cs:Array jD):jR (((w.alloc o).alloc o').alloc (.cells cs t)) (aN w) t cs:=by
 have h:=jR.new ((w.alloc o).alloc o') t cs;have e:((w.alloc o).alloc o').heap.size=w.heap.size+1+1:=lV;rwa[e]at h
def Yn(w:jC)(f:Int)(gw B:Nat)(x:jX)(k:Nat)(wr:jC):Prop:=
 jR wr (aN w) 134 #[jJ 0,jM]∧jR wr gw 500 (lI 55 B f)∧Mp wr B k x∧Below w w wr
theorem qo:∀{m l:jX},oT l→oT m→oT (ku l m)
 |[],_,h,_=>h
 |x::m,l,h,hm=>qo (m:=m) (Ac h (hm x lV).1 (hm x lV).2) (fun y hy=>hm y (by simp[hy]))
theorem rh:∀(m l:jX),(ku l m).length≤l.length+m.length
 |[],l=>by simp[ku]
 |x::m,l=>by
  have h1:=rh m (mY l x.1 x.2);have h2:=tH l x.1 x.2;rw[yB];simp only[c_];omega
theorem vv(f:Int)(A C:Option jG)(l m:jX)(cap kC:Nat)(hU:oT l)(hV:oT m)(hl:l.length≤30000)(hm:m.length≤30000)(hr:kg f l=true)(hq:kg f m=true)(w:jC)(hS:Sb w w A l)(hT:Sb w w C m):
 jE Tryz.prog 349 #[.agg #[jJ f,jN A l cap],.agg #[jJ f,jN C m kC]] w (sS w (f,ku l m,0)):=by
 have T:Below w w (((w.alloc (.cells #[jJ f,jN A l cap] 134)).alloc (.cells #[jJ f,jN C m kC] 134)).alloc aI):=jP (jP (jP (jQ _) _) _) _
 have Y:=ah (jR.Ua w (.cells #[jJ f,jN A l cap] 134) (.cells #[jJ f,jN C m kC] 134) 134 #[jJ 0,jM])
 have P:=ah (((jR.new w 134 #[jJ f,jN A l cap]).alloc (.cells #[jJ f,jN C m kC] 134)).alloc aI)
 have Q:=ah ((jR.new2 w (.cells #[jJ f,jN A l cap] 134) 134 #[jJ f,jN C m kC]).alloc aI)
 have HS:=ah (Sb.later hS T)
 have HT:=ah (Sb.later hT T)
 have HT0:=ah hT
 have R:=pS hr
 have R2:=pS hq
 have HR:=ah hr
 have HQ:=ah hq
 clear hS hr hT hq
 go_in
 go_wp2_with fail
 generalize((w.alloc (.cells #[jJ f,jN A l cap] 134)).alloc (.cells #[jJ f,jN C m kC] 134)).alloc aI=w0 at*
 refine(sE f A l cap hU (by omega) HR _ HS).mono ?_
 rintro e w1⟨B,rfl,hM,hB,hb1⟩
 have X:=ah (jR.new w1 500 (lI 55 B f))
 have hba:=jP (jQ w1) (bG B f)
 replace Y:=ah ((Y.later hb1).later hba)
 replace P:=ah ((P.later hb1).later hba)
 replace Q:=ah ((Q.later hb1).later hba)
 have hwB:w.heap.size≤B:=a_ T.size hB
 have T1:=ah (Below.two (Below.two T hb1) hba)
 have M:=ah (hM.later hba)
 replace HT:=ah (Sb.later (Sb.later HT hb1) hba)
 have p0:=P.d0
 have q0:=Q.d0
 have q1:=Q.d1
 have zp:=P.lt
 have zq:=Q.lt
 have zy:=Y.lt
 clear T hb1 hba hM hB HS
 go_wp2_with fail
 generalize w1.alloc (bG B f)=w2 at*
 refine(j_ f C m kC hV (by omega) _ HT).mono ?_
 rintro e w3⟨rfl,hb3⟩
 rw[HQ]
 have hI:Yn w f w1 B (ku l (m.take 0)) l.length w3:=⟨Y.later hb3,X.later hb3,M.later hb3,Below.two T1 hb3⟩
 have HI:=ah hI
 replace P:=ah (P.later hb3)
 replace Q:=ah (Q.later hb3)
 clear p0 q0 q1
 have p0:=P.d0
 have q0:=Q.d0
 have q1:=Q.d1
 have zp:=P.lt
 have zq:=Q.lt
 clear hI hb3 X Y M T1 HT
 go_wp2_with fail
 clear p0 q0 q1 P Q
 go_loopw[39] (fun i wr=>∃k:Nat,k≤m.length∧i=.int .i64 k∧Yn w f w1 B (ku l (m.take k)) (l.length+k) wr) (fun i _=>m.length-(av i).toNat)
 case atStart=>exact⟨0,be _,rfl,HI⟩
 obtain⟨k,hk,rfl,Y,Z,M,T⟩:=hrel
 clear HI
 have z0:=Z.d0
 have z1:=Z.d1
 have zz:=Z.lt
 have HY:=ah Y
 have HZ:=ah Z
 have HM:=ah M
 have hrs:ou (ku l (m.take k)):=oF R.rise
 have hub:=qo hU (hV.take k)
 by_cases hlt:k<m.length
 ·obtain⟨b,off,rfl,hb,hcs⟩:=HT0.at_ jS;obtain⟨h1,h2⟩:=hcs k hlt;have i1:=(T.cell (p:=(cP b off k)) hb).trans h1;have i2:=(T.cell (p:=(cE b off k)) hb).trans h2;have hbw:b<wr.heap.size:=by have:=T.size;omega
  have HN:Hid (ku l (m.take (k+1))=mY (ku l (m.take k)) (mC m k).1 (mC m k).2):=by show _=_;rw[mR hlt,tI]
  obtain⟨u1,u2⟩:=Iu hV k;generalize mC m k=it at*
  generalize ku l (m.take k)=x at*
  have hi1:(0:Int)≤k:=jS;have hi2:(k:Int)<m.length:=jS;go_wp2_with fail;refine(put_any x f it.1 it.2 B (l.length+k) hrs hub.ub u1 u2 _ (HM.alloc _) O0).mono ?_;rintro e w4⟨rfl,hM3,hG3⟩;have hI:Yn w f w1 B (ku l (m.take (k+1))) (l.length+(k+1)) w4:=
   ⟨(HY.alloc _).grown hG3 (lM HM HY),(HZ.alloc _).grown hG3 (lM HM HZ),by rw[HN];exact hM3,ly (jP T _) hG3 hwB⟩
  have HI:=ah hI;go_wp2;go_roundw
  case rel=>exact⟨k+1,jS,CJ,HI⟩
  exact No
 obtain rfl:k=m.length:=jS
 rw[cl aa]at HM hrs hub
 have hle:(ku l m).length≤65536:=by have:=rh m l;omega
 have HZ2:=ah (tU (rG hU.ub hV.ub R.nz R2.nz))
 obtain⟨x,hx⟩:∃x,ku l m=x:=⟨_,rfl⟩
 rw[hx]at HM hrs hub hle HZ2
 have HX:=ah hx
 go_wp2_with fail
 refine(tV x f B (l.length+m.length) hrs hub hle _ HM).mono ?_
 rintro e w5⟨EJ,v5,rfl,hh5⟩
 rw[HZ2]at hh5
 obtain⟨A5,c5,rfl,hc5,hA5,hS5,hF5⟩:=hh5
 have hh5:ph w5 w (.slice A5 x.length c5) x:=⟨A5,c5,rfl,hc5,hA5,hS5,hF5.from T.size⟩
 have Y5:=ah (HY.grown EJ (lM HM HY))
 have T5:=ah (ly T EJ hwB)
 have HH:=ah hh5
 have VI:=Y5.d0
 have VH:=Y5.d1
 have RE:=Y5.frozen 0
 have RD:=Y5.frozen 1
 have zy:=Y5.lt
 have K:=Y5.set2 (x:=.int .i64 f) (y:=.slice A5 x.length c5)
 have k0:=K.d0
 have k1:=K.d1
 go_wp2_with fail
 rw[HX]
 exact jF (v:=.tuple #[.agg #[jJ f,jN A5 x c5],jJ 0]) (by simp[results,Tryz.results349,go_sem,k0,k1]) rfl
  ⟨nA T5 jS _ _,_,rfl,nt HH Y5⟩
theorem vx(f g:Int)(A C:Option jG)(l m:jX)(cap kC:Nat)(hU:oT l)(hV:oT m)(hl:l.length≤30000)(hm:m.length≤30000)(hr:kg f l=false)(w:jC)(hS:Sb w w A l)(hT:Sb w w C m):
 jE Tryz.prog 349 #[.agg #[jJ f,jN A l cap],.agg #[jJ g,jN C m kC]] w (sS w (0,[],90)):=by
 have T:Below w w (((w.alloc (.cells #[jJ f,jN A l cap] 134)).alloc (.cells #[jJ g,jN C m kC] 134)).alloc aI):=jP (jP (jP (jQ _) _) _) _
 have Y:=ah (jR.Ua w (.cells #[jJ f,jN A l cap] 134) (.cells #[jJ g,jN C m kC] 134) 134 #[jJ 0,jM])
 have P:=ah (((jR.new w 134 #[jJ f,jN A l cap]).alloc (.cells #[jJ g,jN C m kC] 134)).alloc aI)
 have Q:=ah ((jR.new2 w (.cells #[jJ f,jN A l cap] 134) 134 #[jJ g,jN C m kC]).alloc aI)
 have HS:=ah (Sb.later hS T)
 have HT:=ah (Sb.later hT T)
 have HR:=ah hr
 go_in
 go_wp2_with fail
 generalize((w.alloc (.cells #[jJ f,jN A l cap] 134)).alloc (.cells #[jJ g,jN C m kC] 134)).alloc aI=w0 at*
 refine(Dy f A l cap hU jS HR _ HS).mono ?_
 rintro e w1⟨s,rfl,hb1⟩
 have hba:=jP (jQ w1) bK
 replace Y:=ah ((Y.later hb1).later hba)
 replace T:=Below.two (Below.two T hb1) hba
 go_wp2_with fail
 generalize w1.alloc bK=w2 at*
 refine(kR _ _).mono ?_
 rintro e w9⟨rfl,rfl⟩
 have hba:=jP (jQ w2) (.cells #[jL s] 510)
 replace Y:=ah (Y.later hba)
 replace T:=Below.two T hba
 generalize w2.alloc (.cells #[jL s] 510)=w9 at*
 have VI:=Y.d0
 have VH:=Y.d1
 have RE:=Y.frozen 0
 have RD:=Y.frozen 1
 have zy:=Y.lt
 have K:=Y.set2 (x:=.int .i64 0) (y:=.slice none 0 0)
 have k0:=K.d0
 have k1:=K.d1
 go_wp2
 exact jF (v:=(rO 47)) (by simp[results,Tryz.results349,go_sem,k0,k1]) rfl
  ⟨nA T jS _ _,_,rfl,nt (po _ _) Y⟩
theorem vw(f g:Int)(A C:Option jG)(l m:jX)(cap kC:Nat)(hU:oT l)(hV:oT m)(hl:l.length≤30000)(hm:m.length≤30000)(hr:kg f l=true)(hq:kg g m=false)(w:jC)(hS:Sb w w A l)(hT:Sb w w C m):
 jE Tryz.prog 349 #[.agg #[jJ f,jN A l cap],.agg #[jJ g,jN C m kC]] w (sS w (0,[],90)):=by
 have T:Below w w (((w.alloc (.cells #[jJ f,jN A l cap] 134)).alloc (.cells #[jJ g,jN C m kC] 134)).alloc aI):=jP (jP (jP (jQ _) _) _) _
 have Y:=ah (jR.Ua w (.cells #[jJ f,jN A l cap] 134) (.cells #[jJ g,jN C m kC] 134) 134 #[jJ 0,jM])
 have P:=ah (((jR.new w 134 #[jJ f,jN A l cap]).alloc (.cells #[jJ g,jN C m kC] 134)).alloc aI)
 have Q:=ah ((jR.new2 w (.cells #[jJ f,jN A l cap] 134) 134 #[jJ g,jN C m kC]).alloc aI)
 have HS:=ah (Sb.later hS T)
 have HT:=ah (Sb.later hT T)
 have HR:=ah hr
 have HQ:=ah hq
 go_in
 go_wp2_with fail
 generalize((w.alloc (.cells #[jJ f,jN A l cap] 134)).alloc (.cells #[jJ g,jN C m kC] 134)).alloc aI=w0 at*
 refine(sE f A l cap hU jS HR _ HS).mono ?_
 rintro e w1⟨B,rfl,hM,hB,hb1⟩
 have hba:=jP (jQ w1) (bG B f)
 replace Y:=ah ((Y.later hb1).later hba)
 replace P:=ah ((P.later hb1).later hba)
 replace Q:=ah ((Q.later hb1).later hba)
 replace HT:=ah (Sb.later (Sb.later HT hb1) hba)
 replace T:=Below.two (Below.two T hb1) hba
 have q0:=Q.d0
 have q1:=Q.d1
 have zq:=Q.lt
 go_wp2_with fail
 generalize w1.alloc (bG B f)=w2 at*
 refine(j_ g C m kC hV jS _ HT).mono ?_
 rintro e w3⟨rfl,hb3⟩
 rw[HQ]
 replace Y:=ah (Y.later hb3)
 replace P:=ah (P.later hb3)
 replace Q:=ah (Q.later hb3)
 replace T:=Below.two T hb3
 have p0:=P.d0
 have q0:=Q.d0
 have zp:=P.lt
 have zq:=Q.lt
 go_wp2_with fail
 refine(kR _ _).mono ?_
 rintro e w9⟨rfl,rfl⟩
 have hba:=jP (jQ w3) (rO 12)
 replace Y:=ah (Y.later hba)
 replace T:=Below.two T hba
 generalize w3.alloc (rO 12)=w9 at*
 have VI:=Y.d0
 have VH:=Y.d1
 have RE:=Y.frozen 0
 have RD:=Y.frozen 1
 have zy:=Y.lt
 have K:=Y.set2 (x:=.int .i64 0) (y:=.slice none 0 0)
 have k0:=K.d0
 have k1:=K.d1
 go_wp2
 exact jF (v:=(rO 47)) (by simp[results,Tryz.results349,go_sem,k0,k1]) rfl
  ⟨nA T jS _ _,_,rfl,nt (po _ _) Y⟩
theorem J2(f g:Int)(A C:Option jG)(l m:jX)(cap kC:Nat)(hU:oT l)(hV:oT m)(hl:l.length≤30000)(hm:m.length≤30000)(hr:kg f l=true)(hq:kg g m=true)(hne:g≠f)(w:jC)(hS:Sb w w A l)(hT:Sb w w C m):
 jE Tryz.prog 349 #[.agg #[jJ f,jN A l cap],.agg #[jJ g,jN C m kC]] w (sS w (0,[],90)):=by
 have T:Below w w (((w.alloc (.cells #[jJ f,jN A l cap] 134)).alloc (.cells #[jJ g,jN C m kC] 134)).alloc aI):=jP (jP (jP (jQ _) _) _) _
 have Y:=ah (jR.Ua w (.cells #[jJ f,jN A l cap] 134) (.cells #[jJ g,jN C m kC] 134) 134 #[jJ 0,jM])
 have P:=ah (((jR.new w 134 #[jJ f,jN A l cap]).alloc (.cells #[jJ g,jN C m kC] 134)).alloc aI)
 have Q:=ah ((jR.new2 w (.cells #[jJ f,jN A l cap] 134) 134 #[jJ g,jN C m kC]).alloc aI)
 have HS:=ah (Sb.later hS T)
 have HT:=ah (Sb.later hT T)
 have HR:=ah hr
 have HQ:=ah hq
 have dne:(g !=f)=true:=by simp[hne]
 go_in
 go_wp2_with fail
 generalize((w.alloc (.cells #[jJ f,jN A l cap] 134)).alloc (.cells #[jJ g,jN C m kC] 134)).alloc aI=w0 at*
 refine(sE f A l cap hU jS HR _ HS).mono ?_
 rintro e w1⟨B,rfl,hM,hB,hb1⟩
 have hba:=jP (jQ w1) (bG B f)
 replace Y:=ah ((Y.later hb1).later hba)
 replace P:=ah ((P.later hb1).later hba)
 replace Q:=ah ((Q.later hb1).later hba)
 replace HT:=ah (Sb.later (Sb.later HT hb1) hba)
 replace T:=Below.two (Below.two T hb1) hba
 have q0:=Q.d0
 have q1:=Q.d1
 have zq:=Q.lt
 go_wp2_with fail
 generalize w1.alloc (bG B f)=w2 at*
 refine(j_ g C m kC hV jS _ HT).mono ?_
 rintro e w3⟨rfl,hb3⟩
 rw[HQ]
 replace Y:=ah (Y.later hb3)
 replace P:=ah (P.later hb3)
 replace Q:=ah (Q.later hb3)
 replace T:=Below.two T hb3
 have p0:=P.d0
 have q0:=Q.d0
 have zp:=P.lt
 have zq:=Q.lt
 go_wp2_with fail
 refine(kR _ _).mono ?_
 rintro e w9⟨rfl,rfl⟩
 have hba:=jP (jQ w3) (rO 12)
 replace Y:=ah (Y.later hba)
 replace T:=Below.two T hba
 generalize w3.alloc (rO 12)=w9 at*
 have VI:=Y.d0
 have VH:=Y.d1
 have RE:=Y.frozen 0
 have RD:=Y.frozen 1
 have zy:=Y.lt
 have K:=Y.set2 (x:=.int .i64 0) (y:=.slice none 0 0)
 have k0:=K.d0
 have k1:=K.d1
 go_wp2
 exact jF (v:=(rO 47)) (by simp[results,Tryz.results349,go_sem,k0,k1]) rfl
  ⟨nA T jS _ _,_,rfl,nt (po _ _) Y⟩
theorem merge_any(f g:Int)(A C:Option jG)(l m:jX)(cap kC:Nat)(hU:oT l)(hV:oT m)(hl:l.length≤30000)(hm:m.length≤30000)(w:jC)(hS:Sb w w A l)(hT:Sb w w C m):
 jE Tryz.prog 349 #[.agg #[jJ f,jN A l cap],.agg #[jJ g,jN C m kC]] w (sS w (l8 f l g m)):=by
 cases h1:kg f l with
 |false=>rw[l8,if_neg (by simp[h1])];exact vx f g A C l m cap kC hU hV hl hm h1 w hS hT
 |true=>
  cases h2:kg g m with
  |false=>rw[l8,if_neg (by simp[h2])];exact vw f g A C l m cap kC hU hV hl hm h1 h2 w hS hT
  |true=>
   by_cases h3:g=f
   ·subst h3;rw[l8,if_pos ⟨h1,h2,rfl⟩];exact vv g A C l m cap kC hU hV hl hm h1 h2 w hS hT
   rw[l8,if_neg (by simp[h3])];exact J2 f g A C l m cap kC hU hV hl hm h1 h2 h3 w hS hT
def uG(f:Int)(x:Int×Int):Int×Int:=(lj (f-1) (lx f x.1).1,x.2)
def lR(f:Int)(l:jX):Int×jX×Int:=if kg f l=true∧ld (f-1)=true then(f-1,ku [] (l.map (uG f)),0)else(0,[],90)
theorem xW(f a:Int):U (lx f a).1∧U (lx f a).2.1:=by
 unfold lx;split
 ·rename_i h;obtain⟨h1,h2⟩:=qZ h.1
  cases hb:bnd f.toNat a.toNat with
  |none=>simp[U]
  |some q=>
   have:=XZ (lo:=q.1) (hi:=q.2) jS hb;have h3:=this.lt;have h4:=this.le;simp only[U];omega
 simp[U]
theorem wq(h:oT l):oT (l.map (uG f)):=fun x hx=>by
 obtain⟨y,hy,rfl⟩:=dq.1 hx;exact⟨q_ _ (xW f y.1).1,(h y hy).2⟩
theorem L9(h:NZ l):NZ (l.map (uG f)):=fun x hx=>by
 obtain⟨y,hy,rfl⟩:=dq.1 hx;exact h y hy
def Zk(w:jC)(f:Int)(A:Option jG)(n cap gw B:Nat)(x:jX)(k:Nat)(wr:jC):Prop:=
 jR wr w 134 #[jJ f,.slice A n cap]∧jR wr (w.heap.size+1) 134 #[jJ 0,jM]∧jR wr gw 500 #[.map (some B),jJ (f-1)]∧Mp wr B k x∧Below w w wr
theorem qx(f:Int)(A:Option jG)(l:jX)(cap:Nat)(hU:oT l)(hl:l.length≤60000)(hr:kg f l=true)(hf:ld (f-1)=true)(w:jC)(hS:Sb w w A l):
 jE Tryz.prog 348 #[.agg #[jJ f,jN A l cap]] w (sS w (f-1,ku [] (l.map (uG f)),0)):=by
 have T:Below w w ((w.alloc (.cells #[jJ f,jN A l cap] 134)).alloc aI):=jP (jP (jQ _) _) _
 have X:=ah ((jR.new w 134 #[jJ f,jN A l cap]).alloc aI)
 have Y:=ah (jR.new2 w (.cells #[jJ f,jN A l cap] 134) 134 #[jJ 0,jM])
 have HS:=ah (Sb.later hS T)
 have O7:=ah hS
 have R:=pS hr
 have HR:=ah hr
 have HF:=ah hf
 obtain⟨f1,f2⟩:=qZ hf
 clear hS hr hf
 go_in
 go_wp2_with fail
 generalize(w.alloc (.cells #[jJ f,jN A l cap] 134)).alloc aI=w0 at*
 refine(j_ f A l cap hU (by omega) _ HS).mono ?_
 rintro e w1⟨rfl,hb1⟩
 rw[HR]
 replace X:=ah (X.later hb1)
 replace Y:=ah (Y.later hb1)
 replace T:=Below.two T hb1
 have x0:=X.d0
 clear hb1 HS
 go_wp2_with fail
 refine(Bo (f-1) HF _).mono ?_
 rintro e w2⟨B,rfl,hM,hB,hb2⟩
 clear x0
 have hI:Zk w f A l.length cap w2 B (ku [] ((l.take 0).map (uG f))) 0 (w2.alloc (.cells #[.map (some B),jJ (f-1)] 500)):=
  ⟨(X.later hb2).alloc _,(Y.later hb2).alloc _,jR.new w2 _ _,hM.alloc _,jP (Below.two T hb2) _⟩
 have HI:=ah hI
 have hwB:w.heap.size≤B:=a_ T.size hB
 have zx:=(X.later hb2).lt
 have x1:=(X.later hb2).d1
 clear hI X Y T hM hB hb2
 go_wp2_with fail
 clear x1
 go_loopw[30] (fun i wr=>∃k:Nat,k≤l.length∧i=.int .i64 k∧Zk w f A l.length cap w2 B (ku [] ((l.take k).map (uG f))) k wr) (fun i _=>l.length-(av i).toNat)
 case atStart=>exact⟨0,be _,rfl,HI⟩
 obtain⟨k,hk,rfl,X,Y,Z,M,T⟩:=hrel
 clear HI
 have x0:=X.d0
 have zx:=X.lt
 have z0:=Z.d0
 have z1:=Z.d1
 have zz:=Z.lt
 have HX:=ah X
 have HY:=ah Y
 have HZ:=ah Z
 have HM:=ah M
 have hrs:ou (ku [] ((l.take k).map (uG f))):=oF List.Pairwise.nil
 have hub:oT (ku [] ((l.take k).map (uG f))):=qo (fun _ h=>by simp at h) (wq (hU.take k))
 clear X Y M Z
 by_cases hlt:k<l.length
 ·obtain⟨b,off,rfl,hb,hcs⟩:=O7.at_ (by omega);obtain⟨h1,h2⟩:=hcs k hlt;have i1:=(T.cell (p:=(cP b off k)) hb).trans h1;have i2:=(T.cell (p:=(cE b off k)) hb).trans h2;have hbw:b<wr.heap.size:=by have:=T.size;omega
  have HN:Hid (ku [] ((l.take (k+1)).map (uG f))=mY (ku [] ((l.take k).map (uG f))) (lj (f-1) (lx f (mC l k).1).1) (mC l k).2):=by show _=_;rw[mR hlt,dH,List.map_singleton,tI];rfl
  obtain⟨u1,u2⟩:=Iu hU k;generalize mC l k=it at*
  generalize ku [] ((l.take k).map (uG f))=m at*
  have uq:=xW f it.1;obtain⟨q,hq⟩:∃q,lx f it.1=q:=⟨_,rfl⟩;rw[hq]at uq HN;have HQ:=ah hq;have hi1:(0:Int)≤k:=by omega
  have hi2:(k:Int)<l.length:=by omega
  clear hcs h1 h2 hq;go_wp2_with fail;refine(qH f it.1 u1 _).mono ?_;rintro e w3⟨rfl,n3,rfl⟩;rw[HQ];have N:=ah (jR.new wr 303 #[jJ it.1,jK it.2]);have hba:=below_drewN (jP (jQ wr) (lz 39 it)) n3;replace HX:=ah (HX.later hba);replace HY:=ah (HY.later hba);replace HZ:=ah (HZ.later hba);replace HM:=ah (HM.later hba);replace T:=Below.two T hba;have N:Hid (jR ((wr.alloc (lz 39 it)).drewN n3) wr 303 #[jJ it.1,jK it.2]):=N;clear hba x0 z0 z1 i1 i2;generalize(wr.alloc (lz 39 it)).drewN n3=w4 at*
  have z0:=HZ.d0;have z1:=HZ.d1;have n1:=N.d1;have zz4:=HZ.lt;have zn4:=N.lt;go_wp2_with fail;have hbb:=q_ (f-1) uq.1;obtain⟨bb,hbe⟩:∃b,lj (f-1) q.1=b:=⟨_,rfl⟩;rw[hbe]at hbb HN;have Ct:=ah hbe;clear hbe;refine bi1 (S:=fun w'=>w'.cell? ⟨w2,0,none⟩=some (.map (some B))∧w'.cell? ⟨w2,1,none⟩=some (.int .i64 (f-1))∧w'.cell? ⟨wr,1,none⟩=some (.int .u64 it.2)) (by kernel_rfl) ⟨z0,z1,n1⟩ (fun hHeld=>?_);refine re hHeld ?_;refine pL 4 fun K hK=>?_;go_simp;refine(vK (f-1) q.1 uq.1 _).mono ?_;rintro e w5⟨rfl,n5,rfl⟩;rw[Ct];refine hK.out _ _ ⟨z0,z1,n1⟩ (fun hHeld=>?_);clear hK K;refine az ?_;refine pL 7 fun K hK=>?_;go_simp;refine(put_any m (f-1) bb it.2 B k hrs hub.ub hbb u2 _ (by exact HM) (by unfold maxLen;omega)).mono ?_;rintro e w6⟨rfl,hM6,hG6⟩;have EJ:(bY w4 w6 B):=⟨hG6.os,hG6.tape,hG6.output,hG6.size,hG6.block⟩;have hI:Zk w f (bH b off) l.length cap w2 B (ku [] ((l.take (k+1)).map (uG f))) (k+1) w6:=
   ⟨HX.grown EJ (lM HM HX),HY.grown EJ (lM HM HY),HZ.grown EJ (lM HM HZ),by rw[HN];exact hM6,ly T EJ hwB⟩
  have HI:=ah hI;have N6:=ah (N.grown EJ (lM HM N));have Z6:=ah (HZ.grown EJ (lM HM HZ));clear hI hM6 hG6 EJ z0 z1 n1;refine hK.out _ _ ⟨Z6.d0,Z6.d1,N6.d1⟩ (fun hHeld=>?_);clear hK K;refine az ?_;refine hdn ?_;go_wp2_with fail;go_roundw
  case rel=>exact⟨k+1,by omega,by go_num,HI⟩
  simp[av];omega
 obtain rfl:k=l.length:=by omega
 rw[cl aa]at HM hrs hub
 have hle:(ku [] (l.map (uG f))).length≤65536:=by have:=rh (l.map (uG f)) [];simp at this;omega
 have HZ2:=ah (tU (rG (l:=[]) (fun _ h=>by simp at h) (wq hU).ub (fun _ h=>by simp at h) (L9 (f:=f) R.nz)))
 obtain⟨x,hx⟩:∃x,ku [] (l.map (uG f))=x:=⟨_,rfl⟩
 rw[hx]at HM hrs hub hle HZ2
 have HXX:=ah hx
 clear hx
 go_wp2_with fail
 refine(tV x (f-1) B l.length hrs hub hle _ HM).mono ?_
 rintro e w5⟨EJ,v5,rfl,hh5⟩
 rw[HZ2]at hh5
 obtain⟨A5,c5,rfl,hc5,hA5,hS5,hF5⟩:=hh5
 have hh5:ph w5 w (.slice A5 x.length c5) x:=⟨A5,c5,rfl,hc5,hA5,hS5,hF5.from T.size⟩
 have Y5:=ah (HY.grown EJ (lM HM HY))
 have T5:=ah (ly T EJ hwB)
 have HH:=ah hh5
 have VI:=Y5.d0
 have VH:=Y5.d1
 have RE:=Y5.frozen 0
 have RD:=Y5.frozen 1
 have zy:=Y5.lt
 clear hh5 hS5 hF5 hA5 EJ z0 z1 x0
 have K:=Y5.set2 (x:=.int .i64 (f-1)) (y:=.slice A5 x.length c5)
 have k0:=K.d0
 have k1:=K.d1
 go_wp2_with fail
 rw[HXX]
 exact jF (v:=.tuple #[.agg #[jJ (f-1),jN A5 x c5],jJ 0]) (by simp[results,Tryz.results348,go_sem,k0,k1]) rfl
  ⟨nA T5 (by omega) _ _,_,rfl,nt HH Y5⟩
theorem J9(f:Int)(A:Option jG)(l:jX)(cap:Nat)(hU:oT l)(hl:l.length≤60000)(hr:kg f l=false)(w:jC)(hS:Sb w w A l):
 jE Tryz.prog 348 #[.agg #[jJ f,jN A l cap]] w (sS w (0,[],90)):=by
 have T:Below w w ((w.alloc (.cells #[jJ f,jN A l cap] 134)).alloc aI):=jP (jP (jQ _) _) _
 have X:=ah ((jR.new w 134 #[jJ f,jN A l cap]).alloc aI)
 have Y:=ah (jR.new2 w (.cells #[jJ f,jN A l cap] 134) 134 #[jJ 0,jM])
 have HS:=ah (Sb.later hS T)
 have HR:=ah hr
 clear hr
 clear hS
 go_in
 go_wp2_with fail
 generalize(w.alloc (.cells #[jJ f,jN A l cap] 134)).alloc aI=w0 at*
 refine(j_ f A l cap hU (by omega) _ HS).mono ?_
 rintro e w1⟨rfl,hb1⟩
 rw[HR]
 replace X:=ah (X.later hb1)
 replace Y:=ah (Y.later hb1)
 replace T:=Below.two T hb1
 clear hb1 HS
 have VI:=Y.d0
 have VH:=Y.d1
 have RE:=Y.frozen 0
 have RD:=Y.frozen 1
 have zy:=Y.lt
 have K:=Y.set2 (x:=.int .i64 0) (y:=.slice none 0 0)
 have k0:=K.d0
 have k1:=K.d1
 go_wp2_with fail
 exact jF (v:=(rO 47)) (by simp[results,Tryz.results348,go_sem,k0,k1]) rfl
  ⟨nA T (by omega) _ _,_,rfl,nt (po _ _) Y⟩
theorem J8(f:Int)(A:Option jG)(l:jX)(cap:Nat)(hU:oT l)(hl:l.length≤60000)(hr:kg f l=true)(hf:ld (f-1)=false)(w:jC)(hS:Sb w w A l):
 jE Tryz.prog 348 #[.agg #[jJ f,jN A l cap]] w (sS w (0,[],90)):=by
 have T:Below w w ((w.alloc (.cells #[jJ f,jN A l cap] 134)).alloc aI):=jP (jP (jQ _) _) _
 have X:=ah ((jR.new w 134 #[jJ f,jN A l cap]).alloc aI)
 have Y:=ah (jR.new2 w (.cells #[jJ f,jN A l cap] 134) 134 #[jJ 0,jM])
 have HS:=ah (Sb.later hS T)
 have HR:=ah hr
 have HF:=ah hf
 obtain⟨f1,f2⟩:=qZ (pS hr).fine
 clear hr hf
 clear hS
 go_in
 go_wp2_with fail
 generalize(w.alloc (.cells #[jJ f,jN A l cap] 134)).alloc aI=w0 at*
 refine(j_ f A l cap hU (by omega) _ HS).mono ?_
 rintro e w1⟨rfl,hb1⟩
 rw[HR]
 replace X:=ah (X.later hb1)
 replace Y:=ah (Y.later hb1)
 replace T:=Below.two T hb1
 clear hb1 HS
 have x0:=X.d0
 go_wp2_with fail
 refine(OG (f-1) HF _).mono ?_
 rintro e w2⟨s,rfl,hb2⟩
 have hba:=jP (jQ w2) bK
 replace Y:=ah ((Y.later hb2).later hba)
 replace T:=Below.two (Below.two T hb2) hba
 clear hb2 hba X x0
 go_wp2_with fail
 generalize w2.alloc bK=w3 at*
 refine(kR _ _).mono ?_
 rintro e w9⟨rfl,rfl⟩
 have hba:=jP (jQ w3) (.cells #[jL s] 510)
 replace Y:=ah (Y.later hba)
 replace T:=Below.two T hba
 generalize w3.alloc (.cells #[jL s] 510)=w9 at*
 have VI:=Y.d0
 have VH:=Y.d1
 have RE:=Y.frozen 0
 have RD:=Y.frozen 1
 have zy:=Y.lt
 have K:=Y.set2 (x:=.int .i64 0) (y:=.slice none 0 0)
 have k0:=K.d0
 have k1:=K.d1
 go_wp2_with fail
 exact jF (v:=(rO 47)) (by simp[results,Tryz.results348,go_sem,k0,k1]) rfl
  ⟨nA T (by omega) _ _,_,rfl,nt (po _ _) Y⟩
theorem rL(f:Int)(A:Option jG)(l:jX)(cap:Nat)(hU:oT l)(hl:l.length≤60000)(w:jC)(hS:Sb w w A l):
 jE Tryz.prog 348 #[.agg #[jJ f,jN A l cap]] w (sS w (lR f l)):=by
 cases h1:kg f l with
 |false=>rw[lR,if_neg (by simp[h1])];exact J9 f A l cap hU hl h1 w hS
 |true=>
  cases h2:ld (f-1)with
  |false=>rw[lR,if_neg (by simp[h2])];exact J8 f A l cap hU hl h1 h2 w hS
  |true=>rw[lR,if_pos ⟨h1,h2⟩];exact qx f A l cap hU hl h1 h2 w hS
section
open Go.RowKit Go.Shelf
attribute [local go_sem] db
theorem Pt(A:Option jG)(n cap:Nat)(w:jC):
 jE Tryz.prog 355 #[.slice A n cap] w fun e w'=>e=.returned (.func (.func 360) #[] #[jO w])∧w.alloc (.cells #[.slice A n cap] 132)=w':=by
 go_in
 go_wp2
 go_ret
 exact⟨rfl,rfl⟩
abbrev WM(l:jX)(k:Nat):Array jD:=#[.agg #[jJ (mC l k).1,jK (mC l k).2],jK (ma (l.take (k+1)) 0)]
theorem Pu(n:Nat)(hn:1≤n)(ll Bs n₀ g cap b off:Nat)(l:jX)(hU:oT l)(zs:List (At l.length))(hzs:zs.map (·.1)=bu l.length)(hreach:l.length≤65536)(hBs:Bs<n₀)(hg:Bs≠g)(hb:b<n₀)(hbg:b≠g)(J Jx:List (At l.length)→jC→Prop)(W:jC)(hn0:n₀≤W.heap.size){nJ:Nat}(hJ:AbidesFrom nJ J)
 (hY:∀pre x W,J pre W→pre.length<l.length→bl4 cz (n-1) Tryz.prog ll (WM l x.1) W fun e W'=>
  (e=.returned (.bool true)∧J (pre++[x]) W'∧kZ n₀ g W W')∨(e=.returned (.bool false)∧Jx (pre++[x]) W'))
 (hB:jR W Bs 132 #[.slice (bH b off) l.length cap]) (hc:∀j,j<l.length→W.cell? (cP b off j)=some (.int .i64 (mC l j).1)∧W.cell? (cE b off j)=some (.int .u64 (mC l j).2)) (h0:J [] W):
 bj2 cz n Tryz.prog 360 #[cG ll,jO Bs] W fun e W'=>(∃v,e=.returned v)∧
  ((∃ys,ys=zs∧J ys W')∨(∃pre,pre <+: zs∧Jx pre W')):=by
 have hlen:zs.length=l.length:=by rw[←ax (f:=(·.1)),hzs,fo]
 have HL:=ah hlen
 have HZ:=ah hzs
 have HC:=ah hc
 have HB:=ah hB
 have hcb:=hB.one
 clear hzs hlen hc hB
 refine bj1 Tryz.func360 rfl trivial ?_ rfl
 simp only[Tryz.ntmps360,xb,ao,dk]
 gi_wp2
 clear hcb
 gi_loopw[3,8] (fun s i wr=>∃k:Nat,k≤l.length∧i=.int .i64 k∧s=.int .u64 (ma (l.take k) 0)∧J (zs.take k) wr∧kZ n₀ g W wr)
  (fun _ i _=>l.length-(av i).toNat)
 case atStart=>exact⟨0,be _,rfl,rfl,h0,og _ _ _⟩
 obtain⟨k,hk,rfl,rfl,hJs,hnx⟩:=hrel
 by_cases hlt:k<l.length
 ·have hlt':k<zs.length:=by rw[HL];exact hlt
  obtain⟨h1,h2⟩:=HC k hlt;have i1:wr.cell? (cP b off k)=_:=(co (hnx.2 b hb hbg)).trans h1;have i2:wr.cell? (cE b off k)=_:=(co (hnx.2 b hb hbg)).trans h2;have hx:(zs[k]).1=k:=by
   have:=congrArg (fun t=>t[k]?) HZ;simp[hlt',hlt]at this;exact this
  have ht:zs.take (k+1)=zs.take k++[zs[k]]:=aj hlt';have HT:=ah ht;have us:U (ma (l.take k) 0):=PO (hU.take k).ub (by simp[U]);obtain⟨u1,u2⟩:=Iu hU k;have HSS:Hid (ma (l.take (k+1)) 0=sat (ma (l.take k) 0) (mC l k).2):=by show _=_;rw[mR hlt,FX]
  have HY:Hid (∀W,J (zs.take k) W→bl4 cz (n-1) Tryz.prog ll #[.agg #[jJ (mC l k).1,jK (mC l k).2],jK (sat (ma (l.take k) 0) (mC l k).2)] W fun e W'=>
   (e=.returned (.bool true)∧J (zs.take (k+1)) W'∧kZ n₀ g W W')∨(e=.returned (.bool false)∧Jx (zs.take (k+1)) W')):=fun W hW=>by
   have:=hY (zs.take k) (zs[k]) W hW (by simp;omega)
   rw[hx,WM,HSS,←HT]at this
   exact this
  have hbw:b<wr.heap.size:=by have:=hnx.1;omega
  generalize mC l k=it at*
  generalize ma (l.take k) 0=s at*
  have hi1:(0:Int)≤k:=by omega
  have hi2:(k:Int)<l.length:=by omega
  clear h1 h2 hx ht HT hlt';gi_wp2_with fail;have N:=ah ((jR.new wr 303 #[jJ it.1,jK it.2]).alloc (.cells #[jK s,jK it.2] 22));have M:=ah (jR.new2 wr (lz 39 it) 22 #[jK s,jK it.2]);have hba:=jP (jP (jQ wr) (lz 39 it)) (.cells #[jK s,jK it.2] 22);have hJ1:=sF hJ hJs hba;have KB:=ah (pD (n₀:=n₀) (g:=g) (by have:=hnx.1;omega) hba);clear hba i1 i2 hJs;generalize(wr.alloc (lz 39 it)).alloc (.cells #[jK s,jK it.2] 22)=w2 at*
  obtain⟨fn,tmps,assign,body,hy,hR⟩:=HY w2 hJ1;refine⟨trivial,?_⟩;refine(jI.2 (oa s it.2 us u2 _ (dE wr) 0 2 M.d0 M.d1)).mono ?_;rintro e W2⟨rfl,rfl⟩;have n0:=N.d0;have n1:=N.d1;have nz:=N.lt;gi_wp2;refine hR.mono ?_;rintro e W3(⟨rfl,hJ3,hk3⟩|⟨rfl,hJx3⟩)
  ·clear n0 n1 hy hR;gi_wp2;go_roundw
   case rel=>exact⟨k+1,by omega,by simp,by rw[HSS],hJ3,l_ hnx (l_ KB hk3)⟩
   simp[av];omega
  clear n0 n1 hy hR;gi_wp2;refine jF (bj7 rfl _ _ _) rfl ?_;exact⟨⟨_,rfl⟩,.inr ⟨_,eS _ _,hJx3⟩⟩
 obtain rfl:k=l.length:=by omega
 gi_wp2
 go_end0
 exact⟨⟨_,rfl⟩,.inl ⟨_,cl (by rw[HL];exact ay _),hJs⟩⟩
theorem Pv(n:Nat)(hn:1≤n)(ll Bs cap:Nat)(A:Option jG){N:Nat}(zs:List (At N))(hz:zs=[])(J Jx:List (At N)→jC→Prop)(W:jC)(hB:jR W Bs 132 #[.slice A 0 cap])(h0:J [] W):
 bj2 cz n Tryz.prog 360 #[cG ll,jO Bs] W fun e W'=>(∃v,e=.returned v)∧
  ((∃ys,ys=zs∧J ys W')∨(∃pre,pre <+: zs∧Jx pre W')):=by
 have hcb:=hB.one
 have HZ:=ah hz
 refine bj1 Tryz.func360 rfl trivial ?_ rfl
 simp only[Tryz.ntmps360,xb,ao,dk]
 gi_wp2
 gi_loopw[8] (fun i wr=>i=.int .i64 0∧wr=W) (fun _ _=>0)
 case atStart=>exact⟨rfl,rfl⟩
 obtain⟨rfl,rfl⟩:=hrel
 gi_wp2
 go_end0
 exact⟨⟨_,rfl⟩,.inl ⟨_,rfl,by rw[HZ];exact h0⟩⟩
theorem Jj(n:Nat)(hn:1≤n)(Bs g cap:Nat)(A:Option jG)(l:jX)(hU:oT l)(zs:List (At l.length))(hzs:zs.map (·.1)=bu l.length)(hreach:l.length≤65536)(w:jC)(hg:Bs≠g)(hne:l.length≠0→∀ad,A=some ad→ad.block≠g)
 (hB:jR w Bs 132 #[jN A l cap]) (hS:Sb w w A l):
 bl1 cz n Tryz.prog 360 #[jO Bs] (fun x:At l.length=>WM l x.1) (kZ w g) (fun ys=>ys=zs) (fun pre=>pre <+: zs) l.length w:=fun ll J Jx W hW hJ _ hY h0=>by
 by_cases h:l.length=0
 ·have hz:zs=[]:=by
   have:(zs.map (·.1)).length=0:=by rw[hzs];simp[h]
   exact da (by simpa using this)
  have hB':=hB.later hW
  rw[h]at hB'
  exact Pv n hn ll Bs cap A zs hz J Jx W hB' h0
 obtain⟨b,off,rfl,hb,hc⟩:=hS.at_ jS
 exact Pu n hn ll Bs w g cap b off l hU zs hzs hreach hB.lt hg hb (hne h _ rfl) J Jx W hW.size hJ hY (hB.later hW) (fun j hj=>⟨(hW.cell (p:=(cP b off j)) hb).trans (hc j hj).1,(hW.cell (p:=(cE b off j)) hb).trans (hc j hj).2⟩) h0
end
section
attribute [local go_sem] db
theorem GR(n₀ g:Nat)(w:jC)(o:Nat)(u:jD):kZ n₀ g w (w.setCell ⟨g,o,none⟩ u):=⟨by simp[bj],fun i _ hne=>Below.heap_setCell w ⟨g,o,none⟩ u i hne⟩
def wu(l:jX)(pre:List (At l.length)):Int:=(pre.getLast?).elim 0 fun p=>ma (l.take (p.1+1)) 0
theorem AB(l:jX)(pre:List (At l.length))(x:At l.length):wu l (pre++[x])=ma (l.take (x.1+1)) 0:=by simp[wu]
theorem AA(l:jX):∀(pre:List (At l.length)),pre.map (·.1)=bu pre.length→wu l pre=ma (l.take pre.length) 0:=fun pre h=>by
 rcases List.eq_nil_or_concat pre with rfl|⟨p,x,rfl⟩
 ·simp[wu,ma]
 rw[List.concat_eq_append]at h⊢;rw[AB];have:x.1=p.length:=by
  have:=congrArg (fun t=>t[p.length]?) h;simp at this;exact this
 rw[this];simp
theorem CN{N:Nat}{zs pre:List (At N)}(hz:zs.map (·.1)=bu N)(hp:pre <+: zs):pre.map (·.1)=bu pre.length:=by
 have h1:zs.length=N:=by rw[←ax (f:=(·.1)),hz,fo]
 have h2:=List.prefix_iff_eq_take.1 hp;have h3:=a_ hp.length_le (Nat.le_of_eq h1);have h4:pre.map (·.1)=(bu N).take pre.length:=by rw[←hz,←iR,←h2]
 rw[h4,List.take_range,Nat.min_eq_left h3]
end
section
variable{F:Fence}{n:Nat}{P:bi3}
end
section
attribute [local go_sem] db
def pF(f:Int)(l:jX)(v:Int):Int:=if kg f l=true then ma (l.filter fun x=>decide (x.1≤lj f v)) 0 else 0
theorem yJ(hr:ou l)(hk:k≤l.length)(h1:∀i,i<k→(mC l i).1≤b)(h2:k<l.length→b<(mC l k).1):l.filter (fun x=>decide (x.1≤b))=l.take k:=by
 conv=>lhs;rw[←fQ k l]
 rw[gQ];have e1:(l.take k).filter (fun x=>decide (x.1≤b))=l.take k:=eY.2 fun x hx=>by
  obtain⟨i,hi,e⟩:=ik.1 hx;have hi':i<k:=by simp at hi;omega
  have:=h1 i hi';have e2:mC l i=x:=by rw[←e];simp[mC,show i<l.length by omega]
  rw[e2]at this;simpa using this
 have e2:(l.drop k).filter (fun x=>decide (x.1≤b))=[]:=List.filter_eq_nil_iff.2 fun x hx=>by
  obtain⟨i,hi,e⟩:=ik.1 hx;simp at hi;have hk':k<l.length:=jS;have h3:=h2 hk';have e2:mC l (k+i)=x:=by rw[←e];simp[mC,show k+i<l.length by omega]
  have:(mC l k).1≤(mC l (k+i)).1:=by
   rcases fM i with h|h
   ·subst h;exact Int.le_refl _
   exact Int.le_of_lt (LN hr jS jS)
  rw[e2]at this;simp;omega
 rw[e1,e2,eB]
def RkI(w:jC)(g6:Nat)(l:jX)(b:Int)(pre:List (At l.length))(W:jC):Prop:=
 jR W (w.heap.size+1) 22 #[jK (wu l pre)]∧jR W g6 3 #[jJ b]∧(∀p∈pre,(mC l p.1).1≤b)∧Below w w W
def RkX(w:jC)(l:jX)(b:Int)(c:bk9)(pre:List (At l.length))(W:jC):Prop:=
 c=.exit 0∧∃p0 x,pre=p0++[x]∧jR W (w.heap.size+1) 22 #[jK (wu l p0)]∧(∀p∈p0,(mC l p.1).1≤b)∧b<(mC l x.1).1∧Below w w W
theorem Vb{g6:Nat}{Bd:Nat}(hB:w.heap.size≤Bd):bj3 Bd (RkI w g6 l b):=by
 rintro s W W' row⟨h1,h2,h3,h4⟩ hg hr;exact⟨h1.kept hg (fun r e=>(hr r e).2),h2.kept hg (fun r e=>(hr r e).2),h3,h4.grown hg h4.size (fun k e=>a_ hB (hr k e).1)⟩
theorem Va{c:bk9}{Bd:Nat}(hB:w.heap.size≤Bd):bj3 Bd (RkX w l b c):=by
 rintro s W W' row⟨h0,p0,x,e,h1,h2,h3,h4⟩ hg hr;exact⟨h0,p0,x,e,h1.kept hg (fun r e=>(hr r e).2),h2,h3,h4.grown hg h4.size (fun k e=>a_ hB (hr k e).1)⟩
theorem P3(f:Int)(A:Option jG)(l:jX)(cap:Nat)(v:Int)(hU:oT l)(hl:l.length≤65536)(hr:kg f l=false)(w:jC)(hS:Sb w w A l):
 jE Tryz.prog 347 #[.agg #[jJ f,jN A l cap],jK v] w fun e w'=>e=.returned (.int .u64 0)∧Below w w w':=by
 have T:Below w w ((w.alloc (.cells #[jJ f,jN A l cap] 134)).alloc dK):=jP (jP (jQ _) _) _
 have Y:=ah (jR.new2 w (.cells #[jJ f,jN A l cap] 134) 22 #[jK 0])
 have HS:=ah (Sb.later hS T)
 have HR:=ah hr
 clear hS hr
 go_in
 go_wp2_with fail
 go_step3
 go_wp2_with fail
 generalize(w.alloc (.cells #[jJ f,jN A l cap] 134)).alloc dK=w0 at*
 refine(j_ f A l cap hU (by omega) _ HS).mono ?_
 rintro e w1⟨rfl,hb1⟩
 rw[HR]
 have y0:=(Y.later hb1).one
 go_wp2_with fail
 rw[cf]
 go_ret
 exact⟨rfl,Below.two T hb1⟩
theorem TI(f:Int)(A:Option jG)(l:jX)(cap:Nat)(v:Int)(hv:U v)(hU:oT l)(hl:l.length≤65536)(hr:kg f l=true)(w:jC)(hS:Sb w w A l):
 bj2 cz 6 Tryz.prog 347 #[.agg #[jJ f,jN A l cap],jK v] w fun e w'=>e=.returned (.int .u64 (ma (l.filter fun x=>decide (x.1≤lj f v)) 0))∧Below w w w':=by
 have T:Below w w ((w.alloc (.cells #[jJ f,jN A l cap] 134)).alloc dK):=jP (jP (jQ _) _) _
 have X:=ah ((jR.new w 134 #[jJ f,jN A l cap]).alloc dK)
 have Y:=ah (jR.new2 w (.cells #[jJ f,jN A l cap] 134) 22 #[jK 0])
 have HS:=ah (Sb.later hS T)
 have NE:Hid (l.length≠0→∀ad,A=some ad→ad.block<w.heap.size):=fun h ad e=>by
  obtain⟨b,off,e',hb,_⟩:=hS.at_ (by omega);rw[e']at e;cases e;exact hb
 have HR:=ah hr
 have R:=pS hr
 obtain⟨bb,hbb⟩:∃b,lj f v=b:=⟨_,rfl⟩
 have Ct:=ah hbb
 clear hS hr
 rw[hbb]
 clear hbb
 refine bi7 Tryz.func347 rfl trivial ?_ rfl
 simp only[Tryz.ntmps347,xb,ao,dk]
 refine bi4.2 ?_
 go_wp2_with fail
 go_step3
 go_wp2_with fail
 generalize(w.alloc (.cells #[jJ f,jN A l cap] 134)).alloc dK=w0 at*
 refine(j_ f A l cap hU (by omega) _ HS).mono ?_
 rintro e w1⟨rfl,hb1⟩
 rw[HR]
 replace X:=ah (X.later hb1)
 replace Y:=ah (Y.later hb1)
 replace HS:=ah (Sb.later HS hb1)
 replace T:=Below.two T hb1
 have WZ:=ah Y.lt
 have x0:=X.d0
 have x1:=X.d1
 have zx:=X.lt
 clear hb1
 go_wp2_with fail
 refine(vK f v hv _).mono ?_
 rintro e w2⟨rfl,q,rfl⟩
 rw[Ct]
 have hbq:=below_drewN (jQ w1) q
 replace X:=ah (X.later hbq)
 replace Y:=ah (Y.later hbq)
 replace HS:=ah (Sb.later HS hbq)
 replace T:=Below.two T hbq
 have WZ2:Hid (w.heap.size+1<(w1.drewN q).heap.size):=ah Y.lt
 clear hbq x0 x1 zx WZ
 generalize w1.drewN q=w2 at*
 have x1:=X.d1
 have zx:=X.lt
 go_wp2_with fail
 try go_step3
 have hba:=jP (jQ w2) (.cells #[jJ bb] 3)
 have L:=ah (jR.new w2 3 #[jJ bb])
 replace X:=ah (X.later hba)
 replace Y:=ah (Y.later hba)
 replace HS:=ah (Sb.later HS hba)
 replace T:=Below.two T hba
 clear hba x1 zx
 generalize w2.alloc (.cells #[jJ bb] 3)=w3 at*
 have x1:=X.d1
 have zx:=X.lt
 have zl:=L.lt
 go_wp2_with fail
 refine(Pt _ _ _ _).mono ?_
 rintro e w'⟨rfl,rfl⟩
 have hba:=jP (jQ w3) (.cells #[jN A l cap] 132)
 have Z:=ah (jR.new w3 132 #[jN A l cap])
 replace Y:=ah (Y.later hba)
 replace L:=ah (L.later hba)
 replace HS:=ah (Sb.later HS hba)
 replace T:=Below.two T hba
 clear hba x1 X zx
 go_wp2_with fail
 generalize w3.alloc (.cells #[jN A l cap] 132)=V at*
 have yz:=Y.out.lt
 have wz:=WZ2.out
 have vz:=Z.out.lt
 obtain⟨zs,hzs⟩:=mH (N:=l.length) (bu l.length) (fun p hp=>dh.1 hp)
 have HZ:=ai hzs
 have hst:RkI w w2.heap.size l bb [] V:=⟨by simpa[wu]using Y.out,L.out,(fun p hp=>by cases hp),T⟩
 clear hzs
 refine(bi4 (n:=6)).1 ?_
 refine pB rfl (by omega) (gf:=360) (lb:=#[aV w3]) rfl trivial (enters_of Tryz.func360 (by kernel_rfl) rfl)
  (Jj 5 (by omega) w3.heap.size (w.heap.size+1) cap A l hU zs HZ.out hl V (by omega) (fun h ad e=>by have:=NE.out h ad e;omega) Z.out HS.out)
  (fun h k=>l_ h k) (qf (by omega)) (fun W o h=>pD (by omega) (jP (jQ W) o)) (Below.refl _ _) (fun _=>rfl)
  (RkI w w2 l bb) (RkX w l bb) (Vb (by omega)) (fun c=>Va (by omega)) hst
  (fun x b=>{tmps:=#[.agg #[jJ f,jN A l cap],jK v,jO w,undef,jK 0,.pointer (some (aE w)),jO w2,jO b,jK (ma (l.take (x.1+1)) 0),.agg #[jJ f,jN A l cap],.bool true,.bool false,undef,jO w,jJ f,jK v,jJ bb,.pointer (some ⟨w,1,none⟩),jN A l cap,
   .func (.func 360) #[] #[jO w3],.agg #[jJ (mC l x.1).1,jK (mC l x.1).2],jK (ma (l.take (x.1+1)) 0),undef,undef,undef,undef,undef,undef],defers:=[]})
  (fun x=>.cells #[jJ (mC l x.1).1,jK (mC l x.1).2] 303) ?assign ?body ?done ?stop
 case assign=>
  intro l x W K hK;gi_wp2;exact hK
 case body=>
  rintro l' pre x W b⟨hG,hL,hall,hb⟩ hbz hN hlt;have HG:=ah hG;have HL:=ah hL;have HN:Hid (jR W b 303 #[.int .i64 (mC l x.1).1,.int .u64 (mC l x.1).2]):=hN;have n0:=HN.out.d0;have l0:=hL.one;have cg:=hG.one;have fg:=hG.frozen 0;have z3:=hG.lt;have z4:=hL.lt;have z5:=HN.out.lt;have HS2:=ai (AB l pre x);clear hG hL hN;by_cases h0:bb<(mC l x.1).1
  ·have d0:decide (bb<(mC l x.1).1)=true:=by simp[h0]
   gi_wp2_with fail;exact⟨gq _,rfl,pre,x,rfl,HG.out,hall,h0,hb⟩
  have d0:decide (bb<(mC l x.1).1)=false:=by simp;omega
  gi_wp2_with fail;exact⟨b7 _ _ _,GR _ _ _ _ _,by rw[HS2.out];exact HG.out.kY 0 _,HL.out.far (by show w2.heap.size≠w.heap.size+1;omega) _,fun p hp=>by
   rcases ed.1 hp with h|h
   ·exact hall p h
   rw[eM.1 h];omega,hb.setCell (by show(aZ w);omega) _⟩
 case done=>
  rintro D ys W hD rfl⟨hG,_,hall,hb⟩ hK;have h1:ys.length=l.length:=by rw[←ax (f:=(·.1)),HZ,fo]
  have HE:Hid (wu l ys=ma (l.filter fun x=>decide (x.1≤bb)) 0):=by
   show _=_;rw[AA l ys (by rw[HZ,h1]),h1,yJ (k:=l.length) R.rise aa (fun i hi=>?_) (fun h=>by omega)];have hm:i∈ys.map (·.1):=by rw[HZ];exact dh.2 hi
   obtain⟨q,hq,rfl⟩:=dq.1 hm;exact hall q hq
  rw[HE]at hG;have cg:=hG.one;clear hG h1 hall;go_wp2_with fail;try rw[cf]
  refine⟨by simp,.inl ⟨_,_,rfl,bi2 hK,?_⟩⟩;exact⟨.int .u64 (ma (l.filter fun x=>decide (x.1≤bb)) 0),by simp[results,Tryz.results347,go_sem],rfl,hb.trans (bj6 (w:=w) aa _ D _ _ (by omega) hK rfl rfl)⟩
 rintro D c' pre W hD hpre⟨rfl,p0,x,rfl,hG,hall,hx,hb⟩ hK
 have hp:=CN HZ hpre
 have hp0:=CN HZ (List.IsPrefix.trans (List.prefix_append p0 [x]) hpre)
 have hx1:x.1=p0.length:=by
  have:=congrArg (fun t=>t[p0.length]?) hp;simp at this;exact this
 have HE:Hid (wu l p0=ma (l.filter fun x=>decide (x.1≤bb)) 0):=by
  show _=_;rw[AA l p0 hp0,yJ (k:=p0.length) R.rise (by have:=x.2;omega) (fun i hi=>?_) (fun h=>by rw[←hx1];exact hx)];have hm:i∈p0.map (·.1):=by rw[hp0];exact dh.2 hi
  obtain⟨q,hq,rfl⟩:=dq.1 hm;exact hall q hq
 rw[HE]at hG
 have cg:=hG.one
 clear hG hp hp0 hx1 hall hx
 refine bi4.2 ?_
 go_wp2_with fail
 try rw[cf]
 refine⟨by simp,.inl ⟨_,_,rfl,bi2 hK,?_⟩⟩
 exact⟨.int .u64 (ma (l.filter fun x=>decide (x.1≤bb)) 0),by simp[results,Tryz.results347,go_sem],rfl,hb.trans (bj6 (w:=w) aa _ D _ _ (by omega) hK rfl rfl)⟩
theorem P4(f:Int)(A:Option jG)(l:jX)(cap:Nat)(v:Int)(hv:U v)(hU:oT l)(hl:l.length≤65536)(w:jC)(hS:Sb w w A l):
 jE Tryz.prog 347 #[.agg #[jJ f,jN A l cap],jK v] w fun e w'=>e=.returned (.int .u64 (pF f l v))∧Below w w w':=by
 cases h:kg f l with
 |false=>rw[pF,if_neg (by simp[h])];exact P3 f A l cap v hU hl h w hS
 |true=>rw[pF,if_pos h];exact jI.1 (TI f A l cap v hv hU hl h w hS)
end
end Hi
structure SaL(x0:UInt8) where
def aL(x0:UInt8):SaL x0:=⟨⟩
instance aV7(x0:UInt8):CoeOut (SaL x0) jD:=⟨fun _=>.int .u8 (x0.toNat:Int)⟩
structure SbV where
def bV:SbV:=⟨⟩
instance aU8:CoeOut SbV Prop:=⟨fun _=>∃i0,Tryz.prog.info? 5=some i0∧i0.zero=some (.int .u8 0)∧i0.size=1∧i0.bytes=1⟩
instance aH4:CoeSort SbV Prop:=⟨fun _=>∃i0,Tryz.prog.info? 5=some i0∧i0.zero=some (.int .u8 0)∧i0.size=1∧i0.bytes=1⟩
def rT(n:Int)(s:ByteArray):Prop:=s.size≤9∧∀w,jE Tryz.prog 52 #[jK n] w fun e w'=>e=.returned (.string s)∧Below w w w'
theorem lP(x:Int):∃b:UInt8,x%256=(b.toNat:Int):=by
 refine⟨gH (x%256).toNat,?_⟩;have h:(gH (x%256).toNat).toNat=(x%256).toNat:=by
  rw[ji];omega
 rw[h];omega
theorem UN(l:List UInt8)(A:jG)(cap:Nat)(w:jC)(h:∀j(hj:j<l.length),w.cell? (A.add j)=some (.int .u8 (l[j].toNat:Int))):(convert 151 9 (.slice (some A) l.length cap)).run Tryz.prog w=.ok (.string ⟨l.toArray⟩) w:=
 run_convert_bytes_back (P:=Tryz.prog) w _ _ 5 A cap l Tryz.underlying151 Tryz.underlying5 Tryz.underlying9 h
theorem oR(l:List UInt8)(v:jD)(n B:Nat)(w:jC)(h:w.ownsRow B 5 1 v n (l.map fun b=>(aL b)))(h0:0<n):(convert 151 9 v).run Tryz.prog w=.ok (.string ⟨l.toArray⟩) w:=by
 obtain⟨h1,⟨_,h2⟩|⟨g,cap,cur,rfl,hb,hg,hn,hm,hs,ht⟩⟩:=h
 ·omega
 have hl:n=l.length:=by simpa using h1.symm
 subst hl;refine UN l ⟨g,0,none⟩ cap w fun j hj=>?_;have hj2:(l.map fun b:UInt8=>br .u8 (b.toNat:Int))[j]? =some (.int .u8 (l[j].toNat:Int)):=by simp[hj]
 rw[←ht,gJ]at hj2;split at hj2
 ·rw[addr_add,au];simpa[fJ,hg]using hj2
 cases hj2
theorem ZR(n:Int)(h:n≤240):∃s,rT n s:=by
 obtain⟨b,hb⟩:=lP n;have b1:decide (n≤240)=true:=decide_eq_true h;clear h;refine⟨⟨#[b]⟩,by show 1≤9;omega,fun w=>?_⟩;have kc:=oR [b] (.slice (aM w) 1 1) 1 w (w.alloc (.cells #[aL b] 5)) (fa w _ 1 aa B8 rfl) B8;go_in;go_wp2;go_ret;exact⟨rfl,jP (jQ w) _⟩
theorem ZQ(n:Int)(h:¬n≤240)(h2:n≤2287):∃s,rT n s:=by
 have b1:decide (n≤240)=false:=decide_eq_false h;have b2:decide (n≤2287)=true:=decide_eq_true h2;clear h h2;obtain⟨c0,hc0⟩:=lP (IntKind.u64.wrap (241+IntKind.u64.wrap (n-240)/256));obtain⟨c1,hc1⟩:=lP (IntKind.u64.wrap (n-240));refine⟨⟨#[c0,c1]⟩,by show 2≤9;omega,fun w=>?_⟩;have kc:=oR [c0,c1] (.slice (aM w) 2 2) 2 w (w.alloc (.cells #[aL c0,aL c1] 5)) (fa w _ 2 aa B8 rfl) B8;go_in;go_wp2;go_ret;exact⟨rfl,jP (jQ w) _⟩
theorem ZP(n:Int)(h:¬n≤240)(h2:¬n≤2287)(h3:n≤67823):∃s,rT n s:=by
 have b1:decide (n≤240)=false:=decide_eq_false h;have b2:decide (n≤2287)=false:=decide_eq_false h2;have b3:decide (n≤67823)=true:=decide_eq_true h3;clear h h2 h3;obtain⟨c0,hc0⟩:=lP (IntKind.u64.wrap (n-2288)/256);obtain⟨c1,hc1⟩:=lP (IntKind.u64.wrap (n-2288));refine⟨⟨#[249,c0,c1]⟩,by show 3≤9;omega,fun w=>?_⟩;have kc:=oR [(249:UInt8),c0,c1] (.slice (aM w) 3 3) 3 w (w.alloc (.cells #[.int .u8 ((249:UInt8).toNat:Int),aL c0,aL c1] 5)) (fa w _ 3 aa B8 rfl) B8;have e249:(((249:UInt8).toNat:Nat):Int)=249:=rfl;rw[e249]at kc;go_in;go_wp2;go_ret;exact⟨rfl,jP (jQ w) _⟩
theorem rQ(w:jC)(a b c:jD)(t:jH)(g:Nat)(hb:g=w.heap.size):∀j u,[a,b,c][j]? =some u→(w.alloc (.cells #[a,b,c] t)).cell? ((⟨g,0,none⟩:jG).add j)=some u:=by
 subst hb;intro j u hj;rw[addr_add,au,(jR.new w t #[a,b,c]).cell];simpa using hj
variable{w:jC}{v:jD}{n c:Nat}
theorem St{ops:Array bk0}{rest:List bk0}{o:bk0}{a:Act}{Q:bk7→Act→jC→Prop}{w0:jC}{m:Nat}{row news:List jD}{s x:bl7}{obj:Obj}{ad:jG}(hg:o.guard=none)(ho:o.op=.call {callee:=.builtin .append,args:=#[s,x],argTypes:=#[151,151]})(hs:a.eval s=v)(hx:a.eval x=.slice (some ad) m c)(OW:w.ownsRow w0.heap.size 5 1 v n row)(HB:Below w0.heap.size w0 w)(hl:news.length=m*1)(hn:∀j u,news[j]? =some u→(w.alloc obj).cell? (ad.add j)=some u)(h1:∀u∈news,u.oneCell'=true)(h0:0<n)(hm:n+m≤9)
 (h:∀g p w2,Hid (w2.ownsRow w0.heap.size 5 1 (.slice (aC g) (n+m) p) (n+m) (row++news))→Hid (Below w0.heap.size w0 w2)→wpList Tryz.prog ops Q rest (a.put o.dst (.slice (aC g) (n+m) p)) w2):wpList Tryz.prog ops Q (o::rest) a (w.alloc obj):=by
 obtain⟨i0,hi0,hz0,hz1,hz2⟩: bV:=⟨_,rfl,rfl,rfl,rfl⟩
 refine bk3 _ hg s x 151 ho w0 5 i0 (.int .u8 0) 1 1 Tryz.underlying151 hi0 hz0 hz1 hz2 rfl B8 v n _ hs (OW.alloc _) ad m c news hx hl hn h1 O0 jS qhs ?_
 intro v' W ho' hg' _
 have hB:=(HB.alloc HB.size obj).grown hg' qhs (fun j e=>qp OW j e)
 obtain⟨g,p,rfl,-,-,-⟩:=Qh ho' jS
 exact h g p W ho' hB
theorem Xd(n:Nat)(h:67823<n)(hn:n<18446744073709551616)(hk:(n.log2+8)/8=3):∃s,rT n s:=by
 have b1:decide ((n:Int)≤240)=false:=ag;have b2:decide ((n:Int)≤2287)=false:=ag;have b3:decide ((n:Int)≤67823)=false:=ag;have QL:=ah (Hi.pj n jS hn);generalize n.log2=m at*
 have hm:((m:Int)+1+7)/8=3:=jS;clear hk;obtain⟨c16,hc16⟩:=lP (n/65536);obtain⟨c8,hc8⟩:=lP (n/256);obtain⟨c0,hc0⟩:=lP (n);refine⟨⟨#[(250:UInt8),c16,c8,c0]⟩,by show 4≤9;omega,fun w=>?_⟩;have e0:(((250:UInt8).toNat:Nat):Int)=250:=rfl;have OW:=ah (fa (size:=1) (base:=w.heap.size) (e:=5) w #[.int .u8 250] 1 aa B8 rfl);have HB:=ah (jP (jQ w) (.cells #[.int .u8 250] 5));go_in;go_wp2_with fail;refine(QL w).mono ?_;rintro e w1⟨rfl,rfl⟩;clear QL;go_wp2_with(first
  |(at_builtin;refine St rfl rfl rfl rfl OW HB (news:=[_,_,_]) rfl (rQ _ _ _ _ _ _ lV) ZO B8 B8 ?_;intro g p W OW HB;have kc:=oR [(250:UInt8),c16,c8,c0] _ 4 _ W OW B8)
  |fail)
 go_ret;exact⟨rfl,HB⟩
theorem Xc(n:Nat)(h:67823<n)(hn:n<18446744073709551616)(hk:(n.log2+8)/8=4):∃s,rT n s:=by
 have b1:decide ((n:Int)≤240)=false:=ag;have b2:decide ((n:Int)≤2287)=false:=ag;have b3:decide ((n:Int)≤67823)=false:=ag;have QL:=ah (Hi.pj n jS hn);generalize n.log2=m at*
 have hm:((m:Int)+1+7)/8=4:=jS;clear hk;obtain⟨c24,hc24⟩:=lP (n/16777216);obtain⟨c16,hc16⟩:=lP (n/65536);obtain⟨c8,hc8⟩:=lP (n/256);obtain⟨c0,hc0⟩:=lP (n);refine⟨⟨#[(251:UInt8),c24,c16,c8,c0]⟩,by show 5≤9;omega,fun w=>?_⟩;have e0:(((251:UInt8).toNat:Nat):Int)=251:=rfl;have OW:=ah (fa (size:=1) (base:=w.heap.size) (e:=5) w #[.int .u8 251] 1 aa B8 rfl);have HB:=ah (jP (jQ w) (.cells #[.int .u8 251] 5));go_in;go_wp2_with fail;refine(QL w).mono ?_;rintro e w1⟨rfl,rfl⟩;clear QL;go_wp2_with(first
  |(at_builtin;refine St rfl rfl rfl rfl OW HB (news:=[_]) rfl (m7 _ _ _ _ lV) ZO B8 B8 ?_;intro g p W OW HB)
  |(at_builtin;refine St rfl rfl rfl rfl OW HB (news:=[_,_,_]) rfl (rQ _ _ _ _ _ _ lV) ZO B8 B8 ?_;intro g p W OW HB;have kc:=oR [(251:UInt8),c24,c16,c8,c0] _ 5 _ W OW B8)
  |fail)
 go_ret;exact⟨rfl,HB⟩
theorem Xb(n:Nat)(h:67823<n)(hn:n<18446744073709551616)(hk:(n.log2+8)/8=5):∃s,rT n s:=by
 have b1:decide ((n:Int)≤240)=false:=ag;have b2:decide ((n:Int)≤2287)=false:=ag;have b3:decide ((n:Int)≤67823)=false:=ag;have QL:=ah (Hi.pj n jS hn);generalize n.log2=m at*
 have hm:((m:Int)+1+7)/8=5:=jS;clear hk;obtain⟨c32,hc32⟩:=lP (n/4294967296);obtain⟨c24,hc24⟩:=lP (n/16777216);obtain⟨c16,hc16⟩:=lP (n/65536);obtain⟨c8,hc8⟩:=lP (n/256);obtain⟨c0,hc0⟩:=lP (n);refine⟨⟨#[(252:UInt8),c32,c24,c16,c8,c0]⟩,by show 6≤9;omega,fun w=>?_⟩;have e0:(((252:UInt8).toNat:Nat):Int)=252:=rfl;have OW:=ah (fa (size:=1) (base:=w.heap.size) (e:=5) w #[.int .u8 252] 1 aa B8 rfl);have HB:=ah (jP (jQ w) (.cells #[.int .u8 252] 5));go_in;go_wp2_with fail;refine(QL w).mono ?_;rintro e w1⟨rfl,rfl⟩;clear QL;go_wp2_with(first
  |(at_builtin;refine St rfl rfl rfl rfl OW HB (news:=[_]) rfl (m7 _ _ _ _ lV) ZO B8 B8 ?_;intro g p W OW HB)
  |(at_builtin;refine St rfl rfl rfl rfl OW HB (news:=[_,_,_]) rfl (rQ _ _ _ _ _ _ lV) ZO B8 B8 ?_;intro g p W OW HB;have kc:=oR [(252:UInt8),c32,c24,c16,c8,c0] _ 6 _ W OW B8)
  |fail)
 go_ret;exact⟨rfl,HB⟩
theorem Xa(n:Nat)(h:67823<n)(hn:n<18446744073709551616)(hk:(n.log2+8)/8=6):∃s,rT n s:=by
 have b1:decide ((n:Int)≤240)=false:=ag;have b2:decide ((n:Int)≤2287)=false:=ag;have b3:decide ((n:Int)≤67823)=false:=ag;have QL:=ah (Hi.pj n jS hn);generalize n.log2=m at*
 have hm:((m:Int)+1+7)/8=6:=jS;clear hk;obtain⟨c40,ab5⟩:=lP (n/1099511627776);obtain⟨c32,hc32⟩:=lP (n/4294967296);obtain⟨c24,hc24⟩:=lP (n/16777216);obtain⟨c16,hc16⟩:=lP (n/65536);obtain⟨c8,hc8⟩:=lP (n/256);obtain⟨c0,hc0⟩:=lP (n);refine⟨⟨#[(253:UInt8),c40,c32,c24,c16,c8,c0]⟩,by show 7≤9;omega,fun w=>?_⟩;have e0:(((253:UInt8).toNat:Nat):Int)=253:=rfl;have OW:=ah (fa (size:=1) (base:=w.heap.size) (e:=5) w #[.int .u8 253] 1 aa B8 rfl);have HB:=ah (jP (jQ w) (.cells #[.int .u8 253] 5));go_in;go_wp2_with fail;refine(QL w).mono ?_;rintro e w1⟨rfl,rfl⟩;clear QL;go_wp2_with(first
  |(at_builtin;refine St rfl rfl rfl rfl OW HB (news:=[_]) rfl (m7 _ _ _ _ lV) ZO B8 B8 ?_;intro g p W OW HB)
  |(at_builtin;refine St rfl rfl rfl rfl OW HB (news:=[_,_,_]) rfl (rQ _ _ _ _ _ _ lV) ZO B8 B8 ?_;intro g p W OW HB;have kc:=oR [(253:UInt8),c40,c32,c24,c16,c8,c0] _ 7 _ W OW B8)
  |fail)
 go_ret;exact⟨rfl,HB⟩
theorem W_(n:Nat)(h:67823<n)(hn:n<18446744073709551616)(hk:(n.log2+8)/8=7):∃s,rT n s:=by
 have b1:decide ((n:Int)≤240)=false:=ag;have b2:decide ((n:Int)≤2287)=false:=ag;have b3:decide ((n:Int)≤67823)=false:=ag;have QL:=ah (Hi.pj n jS hn);generalize n.log2=m at*
 have hm:((m:Int)+1+7)/8=7:=jS;clear hk;obtain⟨c48,au8⟩:=lP (n/281474976710656);obtain⟨c40,ab5⟩:=lP (n/1099511627776);obtain⟨c32,hc32⟩:=lP (n/4294967296);obtain⟨c24,hc24⟩:=lP (n/16777216);obtain⟨c16,hc16⟩:=lP (n/65536);obtain⟨c8,hc8⟩:=lP (n/256);obtain⟨c0,hc0⟩:=lP (n);refine⟨⟨#[(254:UInt8),c48,c40,c32,c24,c16,c8,c0]⟩,by show 8≤9;omega,fun w=>?_⟩;have e0:(((254:UInt8).toNat:Nat):Int)=254:=rfl;have OW:=ah (fa (size:=1) (base:=w.heap.size) (e:=5) w #[.int .u8 254] 1 aa B8 rfl);have HB:=ah (jP (jQ w) (.cells #[.int .u8 254] 5));go_in;go_wp2_with fail;refine(QL w).mono ?_;rintro e w1⟨rfl,rfl⟩;clear QL;go_wp2_with(first
  |(at_builtin;refine St rfl rfl rfl rfl OW HB (news:=[_]) rfl (m7 _ _ _ _ lV) ZO B8 B8 ?_;intro g p W OW HB)
  |(at_builtin;refine St rfl rfl rfl rfl OW HB (news:=[_,_,_]) rfl (rQ _ _ _ _ _ _ lV) ZO B8 B8 ?_;intro g p W OW HB;have kc:=oR [(254:UInt8),c48,c40,c32,c24,c16,c8,c0] _ 8 _ W OW B8)
  |fail)
 go_ret;exact⟨rfl,HB⟩
theorem W8(n:Nat)(h:67823<n)(hn:n<18446744073709551616)(hk:(n.log2+8)/8=8):∃s,rT n s:=by
 have b1:decide ((n:Int)≤240)=false:=ag;have b2:decide ((n:Int)≤2287)=false:=ag;have b3:decide ((n:Int)≤67823)=false:=ag;have QL:=ah (Hi.pj n jS hn);generalize n.log2=m at*
 have hm:((m:Int)+1+7)/8=8:=jS;clear hk;obtain⟨c56,ad1⟩:=lP (n/72057594037927936);have aT6:(n:Int)/72057594037927936=(c56.toNat:Int):=jS;clear ad1;obtain⟨c48,au8⟩:=lP (n/281474976710656);obtain⟨c40,ab5⟩:=lP (n/1099511627776);obtain⟨c32,hc32⟩:=lP (n/4294967296);obtain⟨c24,hc24⟩:=lP (n/16777216);obtain⟨c16,hc16⟩:=lP (n/65536);obtain⟨c8,hc8⟩:=lP (n/256);obtain⟨c0,hc0⟩:=lP (n);refine⟨⟨#[(255:UInt8),c56,c48,c40,c32,c24,c16,c8,c0]⟩,by show 9≤9;omega,fun w=>?_⟩;have e0:(((255:UInt8).toNat:Nat):Int)=255:=rfl;have OW:=ah (fa (size:=1) (base:=w.heap.size) (e:=5) w #[.int .u8 255] 1 aa B8 rfl);have HB:=ah (jP (jQ w) (.cells #[.int .u8 255] 5));go_in;go_wp2_with fail;refine(QL w).mono ?_;rintro e w1⟨rfl,rfl⟩;clear QL;go_wp2_with(first
  |(at_builtin;refine St rfl rfl rfl rfl OW HB (news:=[_]) rfl (m7 _ _ _ _ lV) ZO B8 B8 ?_;intro g p W OW HB)
  |(at_builtin;refine St rfl rfl rfl rfl OW HB (news:=[_,_,_]) rfl (rQ _ _ _ _ _ _ lV) ZO B8 B8 ?_;intro g p W OW HB;have kc:=oR [(255:UInt8),c56,c48,c40,c32,c24,c16,c8,c0] _ 9 _ W OW B8)
  |fail)
 go_ret;exact⟨rfl,HB⟩
theorem Xk(n:Nat)(h:67823<n)(hn:n<18446744073709551616):16≤n.log2∧n.log2≤63:=by
 have h1:=(Nat.le_log2 (n:=n) (k:=16) jS).2 jS;have h2:=(Nat.log2_lt (n:=n) (k:=64) jS).2 jS;omega
theorem P6(n:Int)(h:U n):∃s,rT n s:=by
 obtain⟨n,rfl⟩:∃k:Nat,n=k:=⟨n.toNat,by have:=h.1;omega⟩;have hn:=h.2;by_cases h1:(n:Int)≤240
 ·exact ZR n h1
 by_cases h2:(n:Int)≤2287
 ·exact ZQ n h1 h2
 by_cases h3:(n:Int)≤67823
 ·exact ZP n h1 h2 h3
 have hl:=Xk n jS jS;rcases(by omega:(n.log2+8)/8=3∨(n.log2+8)/8=4∨(n.log2+8)/8=5∨(n.log2+8)/8=6∨(n.log2+8)/8=7∨(n.log2+8)/8=8)with e|e|e|e|e|e
 ·exact Xd n jS jS e
 ·exact Xc n jS jS e
 ·exact Xb n jS jS e
 ·exact Xa n jS jS e
 ·exact W_ n jS jS e
 exact W8 n jS jS e
open Classical in
noncomputable def r8(n:Int):ByteArray:=if h:∃s,rT n s then h.choose else⟨#[]⟩
theorem TR(n:Int)(h:U n):rT n (r8 n):=by
 unfold r8;rw[dif_pos (P6 n h)];exact(P6 n h).choose_spec
theorem put_any(n:Int)(h:U n)(w:jC):jE Tryz.prog 52 #[jK n] w fun e w'=>e=.returned (.string (r8 n))∧Below w w w':=(TR n h).2 w
theorem xA(n:Int):(r8 n).size≤9:=by
 by_cases h:∃s,rT n s
 ·unfold r8;rw[dif_pos h];exact h.choose_spec.1
 unfold r8;rw[dif_neg h];decide
end Go.Proofs.YtfcnedcahoifoaaGreatDoor

import Derived.Test.YtfcnedcahoifoaaGreatDoorOC
namespace Go.Proofs.YtfcnedcahoifoaaGreatDoor
open Go.RowKit
open _root_.Array renaming getElem?_eq_none→fH,getElem?_eq_some_iff→aw,replicate→fF
open _root_.Bool renaming and_eq_true→ba,eq_iff_iff→gU,or_eq_true→ft
open _root_.ByteArray renaming size→iG
open _root_.Go renaming Addr→jG,Boxed→bl3,CallsIn→bj2,Calls→jE,Code→bk9,Ending→bi6,KeepsOthers→bj4,OwnFrom→bj3,Program→bi3,SeqStopsK→bl1,TypeId→jH,Value→jD,World→jC,YieldAt→bl4,belowK_b→bj6,bodyPost_ret→jF,callsIn_of_wp_marks→bi7,callsIn_of_wp→bj1,callsIn_wide→jI,grownBy_putObj'→bj5,info_parts→bi5,results_none→bj7,run_takeDeferred→bi2,wpIn_rangeFunc_ownF→bj9,wpIn_wide→bi4,wp_region_held_drew→bi1
open _root_.Go.Boxed renaming new→jx
open _root_.Go.CallsIn renaming inRound→d_
open _root_.Go.Ending renaming returned→ff
open _root_.Go.Exit renaming noGoto_ret→cf
open _root_.Go.Fence renaming wide→cz
open _root_.Go.Instr renaming typeAssert→dd
open _root_.Go.IntKind renaming wrap_u64→iw
open _root_.Go.KeepsOthers renaming setCell→b7
open _root_.Go.Lib renaming bitLenAux→gY
open _root_.Go.Oper renaming semAt_some→db
open _root_.Go.Value renaming int→br,oneCell'→eu
open _root_.Go.World renaming alloc_heap_new→du,cell?_of_block→co,cell?_setCell_other→eX,cell?→fJ,frozen?→ju,setCell→bj,size_alloc→b_
open _root_.Int renaming toNat_natCast→dM
open _root_.List renaming all_eq_true→dZ,drop_eq_nil_of_le→ei,eq_of_mem_replicate→gh,getElem?_set→jq,getElem_map→gD,getElem_of_mem→dR,length_cons→c_,length_map→ax,length_range→fo,length_replicate→ey,length_set→eq,map_append→dH,map_cons→df,mem_cons_of_mem→dS,mem_cons→cw,mem_map→dq,mem_of_getElem?→cm,mem_of_mem_drop→eJ,mem_or_eq_of_mem_set→dO,mem_range→dh,mem_singleton→eM,pairwise_append→il,pairwise_cons→b6,pairwise_iff_getElem→cj,range_succ→fV,range→bu,replicate→de,take_length→dP,take_prefix→eS,take_sublist→js,take_succ_eq_append_getElem→aj
open _root_.Nat renaming div_lt_of_lt_mul→iZ,eq_zero_or_pos→fM,le_refl→ay,le_succ→dU,le_trans→a_,lt_of_lt_of_le→cn,lt_or_ge→fB,lt_succ_self→fA,mod_lt→jj,mul_le_mul_right→fZ,mul_le_mul→io,mul_lt_mul_of_pos_right→ig,pow_add→im,pow_le_pow_right→ep,pow_succ→iI,reduceAdd→ao,reduceSub→dk,two_pow_pos→ee,zero_add→au,zero_le→be,zero_mul→fh
open _root_.UInt8 renaming ofNat→gH,toNat_ofNat'→ji
set_option maxRecDepth 100000
set_option maxHeartbeats 16000000
set_option linter.unusedVariables false
set_option linter.unusedSimpArgs false
instance aX1(x0:Option jG)(x1:List Int)(x2:Nat):CoeOut (IP 48 x0 x1 x2) Obj:=⟨fun _=>(.cells #[jN x0 x1 x2] 33)⟩
structure SdC where
def dC:SdC:=⟨⟩
instance aU2:CoeOut SdC Obj:=⟨fun _=>(.cells #[.nilIface] 171)⟩
namespace Ex
def mN(l:List Int):Prop:=∀i j,i<j→j<l.length→nth l i<nth l j
variable{l:List Int}
theorem PT(h:mz l l.length=true):mN l:=by
 simp only[mz,dZ,dh,ft,decide_eq_true_eq]at h;intro i j hij hj;induction j with
 |zero=>omega
 |succ j ih=>
  have h1:nth l j<nth l (j+1):=by
   rcases h (j+1) hj with h|h
   ·omega
   simpa using h
  by_cases hji:i=j
  ·subst hji;exact h1
  have:=ih jS jS;omega
theorem JA(h:mN l):mz l l.length=true:=by
 simp only[mz,dZ,dh,ft,decide_eq_true_eq];intro i hi;by_cases h0:i=0
 ·exact .inl h0
 exact .inr (h (i-1) i jS hi)
theorem mS:kg l=true↔l.length≤64∧mN l:=by
 simp only[kg,ba,decide_eq_true_eq];exact⟨fun h=>⟨h.1,PT h.2⟩,fun h=>⟨h.1,JA h.2⟩⟩
def lb(l:List Int)(n:Int):Nat:=l.countP fun x=>decide (x<n)
theorem C_(l:List Int)(n:Int):lb l n≤l.length:=List.countP_le_length
theorem pC(x:Int)(l:List Int)(k:Nat):nth (x::l) (k+1)=nth l k:=by simp[nth]
theorem rj(x:Int)(l:List Int):nth (x::l) 0=x:=by simp[nth]
variable{x:Int}
theorem mN.tail(h:mN (x::l)):mN l:=fun i j hij hj=>by
 have:=h (i+1) (j+1) jS mO;simpa[pC]using this
variable{k:Nat}
theorem LW(h:k<l.length):nth l k∈l:=by simp[nth,h]
theorem zj(h:x∈l):∃k,k<l.length∧nth l k=x:=by
 obtain⟨k,hk,e⟩:=dR h;exact⟨k,hk,by simp[nth,hk,e]⟩
theorem mN.Mi(h:mN (x::l)){y:Int}(hy:y∈l):x<y:=by
 obtain⟨k,hk,rfl⟩:=zj hy;have:=h 0 (k+1) jS mO;simpa[pC,rj]using this
theorem qr(h:mN l)(n:Int):∀k,k<l.length→(nth l k<n↔k<lb l n):=by
 induction l with
 |nil=>intro k hk;simp at hk
 |cons x l ih=>
  intro k hk;by_cases hx:x<n
  ·have e:lb (x::l) n=lb l n+1:=by simp[lb,hx]
   rw[e]
   cases k with
   |zero=>rw[rj];exact⟨fun _=>jS,fun _=>hx⟩
   |succ k=>rw[pC,ih h.tail k (by simpa using hk)];omega
  have hz:lb l n=0:=by
   rw[lb,List.countP_eq_zero];intro y hy;have:=h.Mi hy;simp;omega
  have e:lb (x::l) n=0:=by
   have e1:lb (x::l) n=lb l n:=by simp[lb,hx]
   rw[e1,hz]
  rw[e]
  cases k with
  |zero=>rw[rj];omega
  |succ k=>
   rw[pC];have:=h.Mi (LW (l:=l) (k:=k) (by simpa using hk));omega
def Ll(l:List Int)(k:Nat)(n:Int):Bool:=decide (k<l.length∧nth l k=n)
def ins(l:List Int)(n:Int):List Int:=if Ll l (lb l n) n=true then l else l.take (lb l n)++n::l.drop (lb l n)
variable{n:Int}
theorem UX(h:Ll l k n=true):n∈l:=by
 simp only[Ll,decide_eq_true_eq]at h;rw[←h.2];exact LW h.1
theorem L6(hR:mN l)(h:n∈l):Ll l (lb l n) n=true:=by
 obtain⟨k,hk,rfl⟩:=zj h;have h1:=qr hR (nth l k) k hk;have hle:lb l (nth l k)≤k:=jS;have hlt:lb l (nth l k)<l.length:=jS;have h2:=qr hR (nth l k) (lb l (nth l k)) hlt;simp only[Ll,decide_eq_true_eq];refine⟨hlt,?_⟩;rcases fB (lb l (nth l k)) k with h3|h3
 ·have:=hR _ k h3 hk;omega
 have:lb l (nth l k)=k:=jS;rw[this]
theorem UY(hR:mN l):Ll l (lb l n) n=decide (n∈l):=by
 by_cases h:n∈l
 ·simp[h,L6 hR h]
 cases e:Ll l (lb l n) n with
 |false=>simp[h]
 |true=>exact absurd (UX e) h
theorem Ke(hR:mN l):(ins l n).length=if n∈l then l.length else l.length+1:=by
 have hlb:=C_ l n;unfold ins;rw[UY hR];by_cases h:n∈l
 ·simp[h]
 simp[h];omega
theorem tw:mN l↔l.Pairwise (·< ·):=by
 rw[cj];constructor
 ·intro h i j hi hj hij;have:=h i j hij hj;simpa[nth,hi,hj]using this
 intro h i j hij hj;have:=h i j jS hj hij;have hi:i<l.length:=jS;simpa[nth,hi,hj]using this
theorem J5(hR:mN l)(h:x∈l.take (lb l n)):x<n:=by
 obtain⟨k,hk,rfl⟩:=zj h;have hk':k<l.length∧k<lb l n:=by simp at hk;omega
 have e:nth (l.take (lb l n)) k=nth l k:=by simp[nth,hk'.2]
 rw[e];exact(qr hR n k hk'.1).2 hk'.2
theorem Az(hR:mN l)(h:x∈l.drop (lb l n)):n≤x:=by
 obtain⟨k,hk,rfl⟩:=zj h;have hk':lb l n+k<l.length:=by simp at hk;omega
 have e:nth (l.drop (lb l n)) k=nth l (lb l n+k):=by simp[nth]
 rw[e];have:=qr hR n (lb l n+k) hk';omega
theorem CH(hR:mN l):mN (ins l n):=by
 unfold ins;split
 ·exact hR
 rename_i h;have hnm:n∉l:=fun hm=>h (L6 hR hm);have hp:=tw.1 hR;rw[tw,il];refine⟨hp.sublist (js _ _),?_,?_⟩
 ·rw[b6];refine⟨fun x hx=>?_,hp.sublist (List.drop_sublist _ _)⟩;have h1:=Az hR hx;have h2:x≠n:=fun e=>hnm (e▸eJ hx);omega
 intro x hx y hy;have h1:=J5 hR hx;rcases cw.1 hy with rfl|hy
 ·exact h1
 have:=Az hR hy;omega
def kp(l m:List Int):List Int:=m.foldl ins l
theorem GW(l m:List Int)(x:Int):kp l (m++[x])=ins (kp l m) x:=by simp[kp]
theorem Cf(l m k:List Int):kp l (m++k)=kp (kp l m) k:=by simp[kp]
theorem pY(hR:mN l)(m:List Int):mN (kp l m):=by
 induction m generalizing l with
 |nil=>exact hR
 |cons x m ih=>exact ih (CH hR)
theorem Ce(hR:mN l):l.length≤(ins l n).length∧(ins l n).length≤l.length+1:=by
 rw[Ke hR];split<;>omega
theorem xK(hR:mN l)(m:List Int):l.length≤(kp l m).length:=by
 induction m generalizing l with
 |nil=>exact ay _
 |cons x m ih=>exact a_ (Ce hR).1 (ih (CH hR))
theorem tN{p m:List Int}(hR:mN l)(h:p <+: m):(kp l p).length≤(kp l m).length:=by
 obtain⟨k,rfl⟩:=h;rw[Cf];exact xK (pY hR p) k
theorem Ml(w:jC)(x:Int)(i:Nat)(hx:x=(i:Int))(p q b off c:Nat)(l:List Int)(n:Int)(hi:i<l.length)
 (hp:w.cell? ⟨p,0,none⟩=some (.slice (bH b off) l.length c)) (hq:(bI w q n))
 (hc:w.cell? ⟨b,off+i,none⟩=some (.int .u64 (nth l i))) (hn:l.length≤9223372036854775807) (r:Bool) (hr:decide (n≤nth l i)=r):
 jE Tryz.prog 310 #[jJ x,jO p,jO q] w fun e w'=>e=.returned (.bool r)∧∃k,w'=w.drewN k:=by
 subst hx
 have H:=ah hr
 clear hr
 have hi':(i:Int)<l.length:=by omega
 go_in
 go_wp2
 go_quiet(fail)
 go_wp2
 go_ret
 exact⟨jU H,_,rfl⟩
theorem Jv(w:jC)(p q c B:Nat)(A:Option jG)(l:List Int)(n:Int)(hR:mN l)
 (hp:w.cell? ⟨p,0,none⟩=some (cZ A l c)) (hq:(bI w q n)) (hS:Sl w B A l) (hn:l.length≤1152921504606846976):
 jE Tryz.prog 309 #[jJ l.length,.func (.func 310) #[] #[jO p,jO q]] w fun e w'=>e=.returned (.int .i64 (lb l n:Nat))∧∃k,w'=w.drewN k:=by
 have hlb:=C_ l n
 go_in
 go_wp2_with fail
 go_loopw[5,6] (fun i j wr=>∃a d m:Nat,i=.int .i64 a∧j=.int .i64 d∧a≤lb l n∧lb l n≤d∧d≤l.length∧wr=w.drewN m) (fun i j _=>(intOf j).toNat-(intOf i).toNat)
 case atStart=>exact⟨0,l.length,0,rfl,rfl,be _,hlb,ay _,rfl⟩
 obtain⟨a,d,m,rfl,rfl,h1,h2,h3,rfl⟩:=hrel
 by_cases hlt:a<d
 ·obtain⟨b,off,rfl,_,hc⟩:=hS.at_ jS;have HC:=ah hc;go_wp2_with fail;have hh:(a+d)/2<l.length:=jS;have hcc:=HC ((a+d)/2) hh;have hiff:=qr hR n ((a+d)/2) hh
  cases hr:decide (n≤nth l ((a+d)/2))with
  |true=>
   refine(Ml (w.drewN m) (((a:Int)+(d:Int))/2) ((a+d)/2) jS p q b off c l n hh hp hq hcc jS true hr).mono ?_;rintro e w'⟨rfl,k,rfl⟩;have h4:lb l n≤(a+d)/2:=by simp at hr;omega
   go_wp2;go_roundw
   case rel=>exact⟨a,(a+d)/2,_,rfl,CJ,h1,h4,jS,rfl⟩
   simp[intOf];omega
  |false=>
   refine(Ml (w.drewN m) (((a:Int)+(d:Int))/2) ((a+d)/2) jS p q b off c l n hh hp hq hcc jS false hr).mono ?_;rintro e w'⟨rfl,k,rfl⟩;have h4:(a+d)/2<lb l n:=by simp at hr;omega
   go_wp2;go_roundw
   case rel=>exact⟨(a+d)/2+1,d,_,CJ,rfl,h4,h2,h3,rfl⟩
   simp[intOf];omega
 obtain rfl:a=d:=jS
 have h4:a=lb l n:=jS
 have H4:=ah h4
 go_wp2
 go_ret
 exact⟨mL (by rw[H4]),_,rfl⟩
theorem xD(w:jC)(c:Nat)(A:Option jG)(l:List Int)(n:Int)(hR:mN l)(hS:Sl w w A l)(hn:l.length≤1152921504606846976):
 jE Tryz.prog 305 #[jN A l c,jK n] w fun e w'=>e=.returned (.int .i64 (lb l n:Nat))∧∃k,w'=((w.alloc (oZ 48 A l c)).alloc (cD n)).drewN k:=by
 have hS2:=ah ((hS.alloc aa (oZ 48 A l c)).alloc lV (cD n))
 go_in
 go_wp2_with fail
 refine(Jv _ _ _ c w A l n hR lV lV hS2.out hn).mono ?_
 rintro e w'⟨rfl,k,rfl⟩
 go_wp2
 go_ret
 exact⟨rfl,_,rfl⟩
theorem AK(w:jC)(c k:Nat)(A:Option jG)(l:List Int)(n:Int)(r:Bool)(hr:Ll l k n=r)(hS:Sl w w A l)(hk:k≤l.length)(hn:l.length≤1152921504606846976):
 jE Tryz.prog 306 #[jN A l c,jJ k,jK n] w fun e w'=>e=.returned (.bool r)∧w=w':=by
 have H:=ah hr
 by_cases hlt:k<l.length
 ·obtain⟨b,off,rfl,_,hc⟩:=hS.at_ jS;have hc1:=hc k hlt;have hlt':(k:Int)<l.length:=jS;by_cases he:nth l k=n
  ·have he':(nth l k==n)=true:=by simpa using he
   go_in;go_wp2;go_ret;refine⟨jU ?_,rfl⟩;rw[←H];simp[Ll,hlt,he]
  have he':(nth l k==n)=false:=by simpa using he
  go_in;go_wp2;go_ret;refine⟨jU ?_,rfl⟩;rw[←H];simp[Ll,he]
 have hlt':decide ((k:Int)<l.length)=false:=mO
 go_in
 go_wp2
 go_ret
 refine⟨jU ?_,rfl⟩
 rw[←H];simp[Ll];omega
theorem Tryz.p_:(Tryz.prog.info? 22).map (fun i=>(i.zero,i.size,i.bytes))=some (some (.int .u64 0),1,8):=oo
theorem Tl(w:jC)(c:Nat)(A:Option jG)(l:List Int)(n:Int)(hR:mN l)(hS:Sl w w A l)(hn:l.length≤65536)(hi:Ll l (lb l n) n=true):
 jE Tryz.prog 300 #[jN A l c,jK n] w fun e w'=>e=.returned (cZ A l c)∧Below w w w':=by
 have hlb:=C_ l n
 have hS2:∀k,Sl (((w.alloc (oZ 48 A l c)).alloc (cD n)).drewN k) w A l:=fun k=>(hS.alloc aa (oZ 48 A l c)).alloc lV (cD n)
 have HS:=ah hS2
 have HI:=ah hi
 go_in
 go_wp2_with fail
 refine(xD _ c A l n hR hS jS).mono ?_
 rintro e w'⟨rfl,k,rfl⟩
 go_wp2_with fail
 refine(AK _ c (lb l n) A l n true HI ((HS k).more mO) hlb jS).mono ?_
 rintro e w'⟨rfl,rfl⟩
 go_wp2
 go_ret
 exact⟨rfl,below_drewN (((Below.refl _ _).alloc aa _).alloc lV _) _⟩
def rB(w:jC)(A:Option jG)(m c k:Nat)(n:Int):jC:=(((w.alloc (.cells #[.slice A m c] 33)).alloc (cD n)).drewN k).alloc (cD n)
variable{w:jC}{A:Option jG}
theorem Pe(hS:Sl w w A l)(m c k:Nat)(n:Int):Sl (rB w A m c k n) w A l:=
 Sl.alloc (w:=((w.alloc (.cells #[.slice A m c] 33)).alloc (cD n)).drewN k) ((hS.alloc aa (.cells #[.slice A m c] 33)).alloc lV (cD n)) mO _
theorem yf(w:jC)(A:Option jG)(m c k:Nat)(n:Int):Below w w (rB w A m c k n):=
 (below_drewN (((Below.refl _ _).alloc aa _).alloc lV _) _).alloc mO _
theorem zI(w:jC)(A:Option jG)(m c k:Nat)(n:Int):∀j u,[br .u64 n][j]? =some u→(rB w A m c k n).cell? (((aG w):jG).add j)=some u:=m7 _ _ _ _ lV
theorem zH(w:jC)(A:Option jG)(m c k:Nat)(n:Int):(rB w A m c k n).heap.size=w.heap.size+3:=by simp[rB]
def IL(w:jC)(l:List Int)(n:Int)(e:bi6)(w':jC):Prop:=
 ∃A' c',e=.returned (.slice A' (l.length+1) c')∧l.length+1≤c'∧Sl w' w' A' (l.take (lb l n)++n::l.drop (lb l n))∧Below w w w'∧oV w' w A'
variable{W:jC}{m:Nat}
theorem yh{w1 w2:jC}{v1 v2:jD}(hb:Below w w W)(hg1:W.grownBy w1 none)
 (hown1:w1.ownsRow W.heap.size 22 1 v1 (lb l n+1) ((l.take (lb l n)).map (br .u64)++[.int .u64 n]))
 (hm:m=lb l n+1+(l.length-lb l n))
 (hown2:w2.ownsRow W.heap.size 22 1 v2 m (((l.take (lb l n)).map (br .u64)++[.int .u64 n])++(l.drop (lb l n)).map (br .u64)))
 (hg2:w1.grownBy w2 v1.ownBlock):IL w l n (.returned v2) w2:=by
 have hlb:=C_ l n
 obtain rfl:m=l.length+1:=jS
 obtain⟨A2,c2,rfl,hc2,hr2,ha2⟩:=lB hown2
 obtain⟨A1,c1,rfl,hc1,hr1,ha1⟩:=lB hown1
 refine⟨A2,c2,rfl,hc2,?_,?_,ha2.from hb.size⟩
 ·unfold Sl;simpa using hr2
 have h1:=hb.grown hg1 hb.size (fun k e=>LS)
 refine h1.grown hg2 h1.size (fun k e=>?_)
 cases A1 with
 |none=>cases e
 |some ad=>cases e;exact a_ hb.size (ha1 ad rfl).1
theorem Pd(w:jC)(c:Nat)(A:Option jG)(l:List Int)(n:Int)(hR:mN l)(hS:Sl w w A l)(hc:l.length≤c)(hA:A=none→c=0)(hn:l.length≤65536)(hi:Ll l (lb l n) n=false):
 jE Tryz.prog 300 #[jN A l c,jK n] w (IL w l n):=by
 obtain⟨i0,hi0,hz0,hz1,hz2⟩:=bi5 Tryz.p_
 have hlb:=C_ l n
 have HS:=ah hS
 have HI:=ah hi
 have HA:=ah (fun h:A=none=>show lb l n=0∧lb l n=0 by have:=hA h;omega)
 have HA2:=ah hA
 have hw3:=fun k=>Pe hS l.length c k n
 have HT:=ah (fun k=>(hw3 k).take (lb l n))
 have HX:=ah (fun k w1(hb:Below w (rB w A l.length c k n) w1)=>((hw3 k).below hb).cut (lb l n) c hc)
 have HS2:Hid (∀k,Sl (((w.alloc (oZ 48 A l c)).alloc (cD n)).drewN k) w A l):=fun k=>(hS.alloc aa (oZ 48 A l c)).alloc (by simp) (cD n)
 clear hw3 hS
 by_cases hcap:c=lb l n
 ·have hd:Hid (l.drop (lb l n)=[]):=ei jS;subst hcap;go_in;go_wp2_with fail;refine(xD _ _ A l n hR HS (by omega)).mono ?_;rintro e w'⟨rfl,k,rfl⟩;go_wp2_with fail;refine(AK _ _ (lb l n) A l n false HI (by exact(HS2 k).more (by simp;omega)) hlb (by omega)).mono ?_;rintro e w'⟨rfl,rfl⟩;go_wp2_with(first|(at_builtin;have _t:=tok;refine kr _ rfl (.tmp 22) (.tmp 25) 33 rfl (rB w A l.length (lb l n) k n).heap.size 22 i0 (.int .u64 0) 1 8 Tryz.underlying33 hi0 hz0 hz1 hz2 rfl (by decide) _ _ _ rfl hown1 w A 0 0 [] rfl (by simp) Rd.none_ (by simp[eu]) (by unfold maxLen;omega) (by omega) hs1 ?_;intro v2 w2 hown2 hg2 _)|(at_builtin;refine wpList_append_grows _ rfl (.tmp 18) (.tmp 20) 33 rfl 22 i0 (.int .u64 0) 1 8 Tryz.underlying33 hi0 hz0 hz1 hz2 rfl (by decide) A (lb l n) (lb l n) ((l.take (lb l n)).map (br .u64)) rfl HA (by simp;omega) (Rd.adds (HT k)) (aG w) 1 1 [jK n] rfl rfl (zI w A l.length (lb l n) k n) (by simp[eu]) (by omega) (by unfold maxLen;omega) (by omega) ?_;intro v1 w1 hown1 hg1;obtain⟨A1,c1,rfl,hc1,hr1,ha1⟩:=lB hown1;have hx1:=HX k w1 ((Below.refl _ (rB w A l.length (lb l n) k n)).grown hg1 (by rw[zH];omega) (fun k e=>by cases e));have hs1:(rB w A l.length (lb l n) k n).heap.size≤w1.heap.size:=hg1.size;have tok:True:=trivial));go_ret;exact yh (m:=lb l n+1+0) (yf w A l.length (lb l n) k n) hg1 hown1 (by omega) (by rw[hd.out];exact hown2) hg2
 have hne:A≠none:=fun e=>by have:=HA2 e;omega
 obtain⟨ad,rfl⟩:∃ad,A=some ad:=by cases A with|none=>exact absurd rfl hne|some ad=>exact⟨ad,rfl⟩
 have HX1:Hid (∀k w1,Below w (rB w (some ad) l.length c k n) w1→Sl w1 w (some (ad.add (lb l n))) (l.drop (lb l n))):=fun k w1 hb=>by have:=HX k w1 hb;rwa[if_neg hcap]at this
 have hcap':lb l n<c:=jS
 go_in
 go_wp2_with fail
 refine(xD _ _ (some ad) l n hR HS jS).mono ?_
 rintro e w'⟨rfl,k,rfl⟩
 go_wp2_with fail
 refine(AK _ _ (lb l n) (some ad) l n false HI (by exact(HS2 k).more mO) hlb jS).mono ?_
 rintro e w'⟨rfl,rfl⟩
 go_wp2_with(first|(at_builtin;have _t:=tok;refine kr _ rfl (.tmp 22) (.tmp 25) 33 rfl (rB w (some ad) l.length c k n).heap.size 22 i0 (.int .u64 0) 1 8 Tryz.underlying33 hi0 hz0 hz1 hz2 rfl B8 _ _ _ rfl hown1 w (some (ad.add (lb l n))) (l.length-lb l n) (c-lb l n) ((l.drop (lb l n)).map (br .u64)) rfl lV hx1 Ed O0 jS hs1 ?_;intro v2 w2 hown2 hg2 _)|(at_builtin;refine wpList_append_grows _ rfl (.tmp 18) (.tmp 20) 33 rfl 22 i0 (.int .u64 0) 1 8 Tryz.underlying33 hi0 hz0 hz1 hz2 rfl B8 (some ad) (lb l n) (lb l n) ((l.take (lb l n)).map (br .u64)) rfl (fun h=>qch) mO (Rd.adds (HT k)) (aG w) 1 1 [jK n] rfl rfl (zI w (some ad) l.length c k n) ZO jS O0 jS ?_;intro v1 w1 hown1 hg1;obtain⟨A1,c1,rfl,hc1,hr1,ha1⟩:=lB hown1;have hx1:=HX1 k w1 ((Below.refl _ (rB w (some ad) l.length c k n)).grown hg1 (by rw[zH];omega) (fun k e=>LS));have hs1:(rB w (some ad) l.length c k n).heap.size≤w1.heap.size:=hg1.size;have tok:True:=trivial))
 go_ret
 exact yh (yf w (some ad) l.length c k n) hg1 hown1 rfl hown2 hg2
theorem zG(w:jC)(base c:Nat)(A:Option jG)(l:List Int)(n:Int)(hR:mN l)(hS:Sl w w A l)(hc:l.length≤c)(hA:A=none→c=0)(hF:oV w base A)(hb:base≤w.heap.size)(hn:l.length≤65536):
 jE Tryz.prog 300 #[jN A l c,jK n] w fun e w'=>∃v,e=.returned v∧Held w' base v (ins l n)∧Below w w w':=by
 cases hi:Ll l (lb l n) n with
 |true=>
  refine(Tl w c A l n hR hS hn hi).mono ?_;rintro e w'⟨rfl,hb'⟩;refine⟨_,rfl,?_,hb'⟩;rw[ins,if_pos hi];exact⟨A,c,rfl,hc,hA,hS.later hb',hF.later hb'⟩
 |false=>
  refine(Pd w c A l n hR hS hc hA hn hi).mono ?_;rintro e w'⟨A',c',rfl,hc',hS',hb',hF'⟩;have hi':¬Ll l (lb l n) n=true:=by rw[hi];simp
  have hlb:=C_ l n;refine⟨_,rfl,?_,hb'⟩;rw[ins,if_neg hi'];refine⟨A',c',?_,?_,?_,hS',hF'.from hb⟩
  ·congr 1;simp;omega
  ·simp;omega
  rintro rfl;obtain⟨_,_,h,_⟩:=hS'.at_ mO
  cases h
section
open Go.RowKit Go.Shelf
attribute [local go_sem] db
variable{W':jC}
theorem ky(h:Below W W W'):bj4 W W':=
 ⟨h.size,fun k o hk _=>(h.block k (aw.1 hk).1).trans hk⟩
theorem uN(h:k<l.length):l.take (k+1)=l.take k++[nth l k]:=by
 rw[aj h];simp[nth,h]
theorem values1_in(F:Fence)(n:Nat)(h7:F.fn 307)(hro:F.round=none)(hn:1≤n)(l Bs n₀ cap:Nat)(A:Option jG)(zs:List Int)(hreach:zs.length≤1152921504606846976)(J Jx:List Int→jC→Prop)
 (hY:∀pre x W,J pre W→pre.length<zs.length→bl4 F (n-1) Tryz.prog l #[jK x] W fun e W'=>
  (e=.returned (.bool true)∧J (pre++[x]) W'∧Below n₀ W W')∨(e=.returned (.bool false)∧Jx (pre++[x]) W'))
 (W:jC) (hBs:W.cell? ⟨Bs,0,none⟩=some (cZ A zs cap)) (hS:Sl W n₀ A zs) (h0:J [] W):
 bj2 F n Tryz.prog 307 #[cG l,jO Bs] W fun e W'=>(∃v,e=.returned v)∧
  ((∃ys,ys=zs∧J ys W')∨(∃pre,pre <+: zs∧Jx pre W')):=by
 refine bj1 Tryz.func307 rfl h7 ?_ hro
 simp only[Tryz.ntmps307,xb,ao,dk]
 gi_wp2
 gi_loopw[7] (fun i wr=>∃k:Nat,k≤zs.length∧i=.int .i64 k∧J (zs.take k) wr∧Below n₀ W wr)
  (fun i _=>zs.length-(intOf i).toNat)
 case atStart=>exact⟨0,be _,rfl,h0,Below.refl _ _⟩
 obtain⟨k,hk,rfl,hJs,hnx⟩:=hrel
 by_cases hlt:k<zs.length
 ·obtain⟨b,off,rfl,hb,hc⟩:=hS.at_ jS;have hcx':=(hnx.cell (p:=⟨b,off+k,none⟩) hb).trans (hc k hlt);have HC:=ah hc;obtain⟨fn,tmps,assign,body,hy,hR⟩:=hY _ (nth zs k) wr hJs mO;gi_wp2;refine hR.mono ?_;rintro e W3(⟨rfl,hJ3,hk3⟩|⟨rfl,hJx3⟩)
  ·gi_wp2;go_roundw
   case rel=>exact⟨k+1,jS,lV,by rw[uN hlt];exact hJ3,hnx.trans hk3⟩
   simp[intOf];omega
  gi_wp2;refine jF (bj7 rfl _ _ _) rfl ?_;refine⟨⟨_,rfl⟩,.inr ⟨_,?_,hJx3⟩⟩;rw[←uN hlt];exact eS _ _
 obtain rfl:k=zs.length:=jS
 gi_wp2
 go_end0
 exact⟨⟨_,rfl⟩,.inl ⟨_,dP,hJs⟩⟩
theorem values_in(F:Fence)(n:Nat)(h5:F.fn 302)(hro:F.round=none)(a:Option jG)(len cap:Nat)(w:jC):
 bj2 F n Tryz.prog 302 #[.slice a len cap] w fun e w'=>e=.returned (.func (.func 307) #[] #[jO w])∧w'=w.alloc (.cells #[.slice a len cap] 33):=by
 refine bj1 Tryz.func302 rfl h5 ?_ hro
 simp only[Tryz.ntmps302,xb,ao,dk]
 gi_wp2
 go_ret
 exact⟨rfl,rfl⟩
theorem values_stops(F:Fence)(n:Nat)(h7:F.fn 307)(hro:F.round=none)(hn:1≤n)(Bs n₀ cap:Nat)(A:Option jG)(zs:List Int)(hreach:zs.length≤1152921504606846976)(w:jC)(hBs:Bs<w.heap.size)(hn₀:n₀≤w.heap.size)
 (hc:w.cell? ⟨Bs,0,none⟩=some (cZ A zs cap)) (hS:Sl w n₀ A zs):
 bl1 F n Tryz.prog 307 #[jO Bs] (fun x:Int=>#[br .u64 x]) (Below n₀) (fun ys=>ys=zs) (fun pre=>pre <+: zs) zs.length w:=fun l J Jx W hW _ _ hY h0=>
 values1_in F n h7 hro hn l Bs n₀ cap A zs hreach J Jx hY W ((hW.cell (p:=⟨Bs,0,none⟩) hBs).trans hc) (hS.below (hW.mono hn₀)) h0
end
section
open Go.RowKit Go.Shelf
attribute [local go_sem] db
theorem tT(a:Option jG)(len cap:Nat)(w:jC):
 jE Tryz.prog 299 #[.slice a len cap] w fun e w'=>e=.returned (.func (.func 307) #[] #[jO w])∧w'=w.alloc (.cells #[.slice a len cap] 33):=by
 go_in
 go_wp2_with fail
 refine(jI.1 (values_in cz 3 trivial rfl a len cap w)).mono ?_
 rintro e w'⟨rfl,rfl⟩
 go_wp2
 go_ret
 exact⟨rfl,rfl⟩
def sB:jD:=.iface 467 (.agg #[.string ⟨#[116,111,111,32,109,97,110,121,32,110,117,109,98,101,114,115]⟩])
def GI(w:jC)(bA bE:Nat)(l:List Int)(pre:List Int)(W:jC):Prop:=
 (∃v,bl3 W bA 33 v∧Held W w v (kp l pre))∧bl3 W bE 171 .nilIface∧bl3 W w 127 aO∧(kp l pre).length≤64∧Below w w W
def GX(w:jC)(bE:Nat)(l:List Int)(c:bk9)(pre:List Int)(W:jC):Prop:=
 c=.exit 0∧bl3 W bE 171 sB∧bl3 W w 127 aO∧64<(kp l pre).length∧Below w w W
variable{W':jC}{row:Option Nat}{B:Nat}{t:jH}{v:jD}
theorem oD(h:bl3 W B t v)(hg:W.grownBy W' row)(hr:∀r,row=some r→(aH W r)):bl3 W' B t v:=
 h.kept hg (fun e=>by obtain⟨o,ho,hc⟩:=hr _ e.symm;rw[show W.heap[B]? =_ from h]at ho;cases ho;cases hc)
theorem Dh{base:Nat}(h:Held W base v l)(hg:W.grownBy W' row)(hr:∀r,row=some r→(aH W r)):Held W' base v l:=by
 obtain⟨A,c,e,hc,hA,hS,hF⟩:=h;exact⟨A,c,e,hc,hA,hS.to hg.size (fun b o v hv=>cell_kept hv hg hr),hF.kept hg hr⟩
theorem YL(w:jC)(bA bE:Nat)(l:List Int)(B:Nat)(hB:w.heap.size≤B):bj3 B (GI w bA bE l):=by
 rintro s W W' row⟨⟨v,hv,hh⟩,he,hx,hl,hb⟩ hg hr;have hr':∀r,row=some r→(aH W r):=fun r e=>(hr r e).2;exact⟨⟨v,oD hv hg hr',Dh hh hg hr'⟩,oD he hg hr',oD hx hg hr',hl,hb.grown hg hb.size (fun k e=>a_ hB (hr k e).1)⟩
theorem YK(w:jC)(bE:Nat)(l:List Int)(c:bk9)(B:Nat)(hB:w.heap.size≤B):bj3 B (GX w bE l c):=by
 rintro s W W' row⟨hc,he,hx,hl,hb⟩ hg hr;have hr':∀r,row=some r→(aH W r):=fun r e=>(hr r e).2;exact⟨hc,oD he hg hr',oD hx hg hr',hl,hb.grown hg hb.size (fun k e=>a_ hB (hr k e).1)⟩
variable{u:jD}
theorem Jq{bA:Nat}(h:Sl w B A l)(hx:bl3 w bA t u)(hu:∀n,u≠.int .u64 n)(v:jD):Sl (w.setCell ⟨bA,0,none⟩ v) B A l:=fun hl=>by
 obtain⟨b,off,e,hb,hc⟩:=h hl;refine⟨b,off,e,hb,fun j x hj=>?_⟩;have h1:=hc j x hj;have hne:b≠bA:=by
  rintro rfl;obtain⟨n,_,rfl⟩:∃n,n∈l∧br .u64 n=x:=dq.1 (cm hj);rw[fJ,show w.heap[b]? =_ from hx]at h1;simp only[Option.isSome_none]at h1;rcases fM (off+j)with h0|h0
  ·rw[h0]at h1;simp at h1;exact hu n h1
  rw[if_neg lV]at h1;rw[fH mO]at h1
  cases h1
 rw[eX _ _ _ _ (fun e=>hne (by injection e with h1 h2;exact h1.symm))];exact h1
theorem _root_.Go.Proofs.YtfcnedcahoifoaaGreatDoor.Held.PK{base bA:Nat}(h:Held w base v l)(hx:bl3 w bA t u)(hu:∀n,u≠.int .u64 n)(x:jD):Held (w.setCell ⟨bA,0,none⟩ x) base v l:=by
 obtain⟨A,c,e,hc,hA,hS,hF⟩:=h;exact⟨A,c,e,hc,hA,by have:=Jq hS hx hu x;simpa[bj]using this,hF.set _ _⟩
theorem _root_.Go.Proofs.YtfcnedcahoifoaaGreatDoor.Held.alloc{w:jC}{base:Nat}{v:jD}{l:List Int}(h:Held w base v l)(o:Obj):Held (w.alloc o) base v l:=h.later ((Below.refl _ _).alloc aa _)
theorem _root_.Go.Proofs.YtfcnedcahoifoaaGreatDoor.Held.drew{w:jC}{base:Nat}{v:jD}{l:List Int}(h:Held w base v l):Held w.drew base v l:=h
variable{b:Nat}
theorem rR(h:bl3 W B t u)(hne:B≠b)(v:jD):bl3 (W.setCell ⟨b,0,none⟩ v) B t u:=
 h.kept (grownBy_setCell' W b v) (fun e=>hne (by injection e))
theorem xL(h:bj4 W W'):bj4 W (W'.setCell ⟨b,0,none⟩ v):=h.trans (b7 _ _ _)
def qX(w:jC)(n:Nat):jC:=((w.alloc (.cells #[jM] 127)).alloc (.cells (madeCells (br .u64 0).cells n) 22)).alloc (.cells #[.slice (some (aE w)) n n] 33)
theorem EK(w:jC)(n:Nat):(qX w n).heap.size=w.heap.size+3:=by simp[qX]
theorem u4(w:jC)(n:Nat):Below w w (qX w n):=(((Below.refl _ _).alloc aa _).alloc lV _).alloc mO _
theorem Hf(w:jC)(n:Nat):(qX w n).heap[w.heap.size+1]? =some (.cells (madeCells (br .u64 0).cells n) 22 (0,0)):=by
 have h:=du (w.alloc (.cells #[jM] 127)) (.cells (madeCells (br .u64 0).cells n) 22);rw[b_]at h;exact(Below.heap_alloc _ _ _ lV).trans h
theorem Hg(w:jC)(n:Nat):bl3 (qX w n) w 127 aO:=((jx w 127 aO).alloc _).alloc _
theorem Hh(w:jC)(n:Nat):bl3 (qX w n) (w.heap.size+2) 33 (.slice (some (aE w)) n n):=by
 have h:=jx ((w.alloc (.cells #[jM] 127)).alloc (.cells (madeCells (br .u64 0).cells n) 22)) 33 (.slice (some (aE w)) n n);rw[b_,b_]at h;exact h
theorem wF{w1:jC}{A2:Option jG}{n2 c2:Nat}(hl:l.length≤64)(hg:w1.heap[w.heap.size+1]? =some (.cells (l.map (br .u64)).toArray 22 (0,0)))(hw:(qX w l.length).grownBy w1 (some (w.heap.size+1))):
 GI w (w.heap.size+2) w1 l [] ((w1.alloc dC).alloc (.cells #[.slice A2 n2 c2] 33)):=by
 have hb:=(u4 w l.length).grown hw (by rw[EK];omega) (fun k e=>TP)
 refine⟨⟨_,(((Hh w l.length).kept hw lV).alloc _).alloc _,?_⟩,(jx w1 171 .nilIface).alloc _,(((Hg w l.length).kept hw lV).alloc _).alloc _,hl,(hb.alloc hb.size _).alloc (by have:=hb.size;simp;omega) _⟩
 have hlt:=(aw.1 hg).1
 refine⟨some (aE w),l.length,rfl,ay _,(fun h=>qch),?_,(fun ad e=>by cases e;exact⟨dU _,_,_,(Below.heap_alloc _ _ _ mO).trans ((Below.heap_alloc _ _ _ hlt).trans hg)⟩)⟩
 have h1:Sl w1 w1 (some (aE w)) l:=fun _=>⟨_,_,rfl,hlt,fun j u hj=>by
  rw[au];simpa[fJ,hg]using hj⟩
 exact((h1.alloc aa _).alloc lV _).more mO
theorem Kx(w:jC)(c c2:Nat)(A A2:Option jG)(l m:List Int)(hR:mN l)(hl:l.length≤64)(hS:Sl w w A l)(hS2:Sl w w A2 m)(hm:m.length≤1152921504606846976):
 bj2 cz 6 Tryz.prog 293 #[jN A l c,jN A2 m c2] w fun e w'=>Below w w w'∧
  (((kp l m).length≤64∧∃v,e=.returned (.tuple #[.agg #[v],.nilIface])∧Held w' w v (kp l m))∨
   (64<(kp l m).length∧e=.returned (.tuple #[.agg #[jM],sB]))):=by
 obtain⟨i0,hi0,hz0,hz1,hz2⟩:=bi5 Tryz.p_
 have hmk:=fun W=>vo (P:=Tryz.prog) 33 22 i0 (.int .u64 0) Tryz.underlying33 hi0 hz0 hz1 .i64 .i64 l.length l.length aa (by rw[hz2];omega) (by omega) W
 have HW:=ah (Hf w l.length)
 have Vm:Hid (Sl (qX w l.length) w A l):=hS.below (u4 w l.length)
 refine bi7 Tryz.func293 rfl trivial ?_ rfl
 simp only[Tryz.ntmps293,xb,ao,dk]
 refine bi4.2 ?_
 go_wp2_with fail
 go_step3
 go_wp2_with(refine sM rfl (.tmp 12) (.tmp 13) 33 33 rfl 22 Tryz.underlying33 (by rw[hi0];simp[hz1]) (w.heap.size+1) l.length l.length c A rfl rfl _ 22 HW (size_madeCells _ _) (l.map (br .u64)) (by simp) w Vm Ed ?_;intro w1 hg1 hw1 hs1)
 go_step3
 go_wp2_with fail
 refine(tT _ _ _ _).mono ?_
 rintro e w'⟨rfl,rfl⟩
 go_wp2_with fail
 have hb0:Below w w ((w1.alloc dC).alloc (oZ 48 A2 m c2)):=(wF (A2:=A2) (n2:=m.length) (c2:=c2) hl hg1 hw1).2.2.2.2
 have hst:=wF (A2:=A2) (n2:=m.length) (c2:=c2) hl hg1 hw1
 simp only[hs1,b_]at hst
 have hst':GI w (aN w) (cC w) l [] ((w1.alloc dC).alloc (oZ 48 A2 m c2)):=hst
 have hsz:((w1.alloc dC).alloc (oZ 48 A2 m c2)).heap.size=w.heap.size+5:=by simp[hs1]
 have hbx:=(jx (w1.alloc dC) 33 (cZ A2 m c2)).cell
 have hbe:(w1.alloc dC).heap.size=w.heap.size+1+1+1+1:=by simp[hs1]
 rw[hbe]at hbx
 generalize((w1.alloc dC).alloc (oZ 48 A2 m c2))=W0 at*
 clear hbe hst hg1 hw1 hs1 HW Vm hmk
 refine(bi4 (n:=6)).1 ?_
 refine bj9 rfl (by omega) (gf:=307) (lb:=#[.pointer (some (lz 46 w))]) rfl trivial (enters_of Tryz.func307 (by kernel_rfl) rfl)
  (values_stops cz (6-1) trivial rfl (by omega) (w.heap.size+1+1+1+1) w c2 A2 m hm W0 (by omega) (by omega) hbx (hS2.below hb0)) belowK_t (bj6 (by omega)) (Below.refl _ _) (fun _=>rfl)
  (GI w (aN w) (cC w) l) (GX w (cC w) l) (YL w _ _ l _ (by omega)) (fun c=>YK w _ l c _ (by omega)) hst'
  (fun x=>{tmps:=#[jN A l c,jN A2 m c2,undef,undef,jO w,.nilIface,.pointer (some (aG w)),.pointer (some ⟨cC w,0,none⟩),jK x,jN A l c,jJ l.length,.slice (some (aE w)) l.length l.length,.slice (some (aE w)) l.length l.length,jN A l c,jJ l.length,jN A2 m c2,.func (.func 307) #[] #[.pointer (some (lz 46 w))],jK x,undef,undef,undef,undef,undef,undef,undef,undef,undef,undef,undef,undef,undef,undef],defers:=[]}) ?assign ?body ?done ?stop
 case assign=>
  intro l x W K hK;gi_wp2;exact hK
 case body=>
  rintro l' pre x W⟨⟨v,hv,hh⟩,he,hx,hlen,hb⟩ hlt;obtain⟨A',c',rfl,hc',hA',hS',hF'⟩:=hh;have hc:=hv.cell;gi_wp2_with fail;refine⟨trivial,?_⟩;refine(d_ l' (jI.2 (zG W w c' A' (kp l pre) x (pY hR pre) hS' hc' hA' hF' hb.size (by omega)))).mono ?_;rintro e w2⟨v2,rfl,hh2,hb2⟩;rw[←GW]at hh2;obtain⟨A2',c2',rfl,hc2',ad4,ac5,ad2⟩:=hh2;have hv2:bl3 w2 (aN w) 33 (.slice A' (kp l pre).length c'):=(hb2.block _ hv.lt).trans hv;have he2:bl3 w2 (cC w) 171 .nilIface:=(hb2.block _ he.lt).trans he;have hx2:bl3 w2 w 127 aO:=(hb2.block _ hx.lt).trans hx;have hcv2:=hv2.cell;have aT2:=hv2.frozen;have aT5:=he2.cell;have aT3:=he2.frozen;have hK2:=ky hb2;have hB2:Below w w w2:=hb.trans (hb2.mono hb.size);have HS2:=ah ac5;have HA2:=ah ad4;have HF2:=ah ad2;clear ac5 ad4 ad2 hA' hF' hS' hc hv hx he hK2;by_cases hbig:64<(kp l (pre++[x])).length
  ·have hd:decide (64<((kp l (pre++[x])).length:Int))=true:=by simp;omega
   gi_wp2;refine⟨xL (xL (ky hb2)),rfl,(rR he2 (by omega) _).set _,rR (rR hx2 (by omega) _) (by omega) _,hbig,(hB2.setCell (by show _≤w.heap.size+1+1;omega) _).setCell (by show _≤w.heap.size+1+1+1;omega) _⟩
  have hd:decide (64<((kp l (pre++[x])).length:Int))=false:=by simp;omega
  gi_wp2;refine⟨xL (ky hb2),(hb2.mono hb.size).setCell (by show _≤w.heap.size+1+1;omega) _,⟨_,hv2.set _,A2',c2',rfl,hc2',HA2,?_,HF2.set _ _⟩,rR he2 (by omega) _,rR hx2 (by omega) _,by omega,hB2.setCell (by show _≤w.heap.size+1+1;omega) _⟩;have:=Jq HS2 hv2 (fun n e=>by cases e) (.slice A2' (kp l (pre++[x])).length c2');simpa[bj]using this
 case done=>
  rintro D ys W hD rfl⟨⟨v,hv,hh⟩,he,hx,hlen,hb⟩ hK;obtain⟨A',c',rfl,hc',hA',hS',hF'⟩:=hh;have hcv:=hv.cell;have hce:=he.cell;have hcx:=hx.cell;have hfx:=hx.frozen;have HF:=ah hF';have HA:=ah hA';clear hF' hA';go_wp2_with fail;try rw[cf]
  have hK':(W.setCell ⟨w,0,none⟩ (.slice A' (kp l ys).length c')).heap[D]? =some (aY):=(b7 _ _ _).same D _ hK rfl;have hr':∀r,some D=some r→∃o:Obj,(W.setCell ⟨w,0,none⟩ (.slice A' (kp l ys).length c')).heap[r]? =some o∧o.isCells=false:=fun r e=>by cases e;exact⟨_,hK',rfl⟩
  have Xz:=oD (hx.set (.slice A' (kp l ys).length c')) (bj5 _ D cJ) hr';have hcc:=Xz.cell;have hh':Held (W.setCell ⟨w,0,none⟩ (.slice A' (kp l ys).length c')) w (.slice A' (kp l ys).length c') (kp l ys):=
   ⟨A',c',rfl,hc',HA,by have:=Jq hS' hx (fun n e=>by cases e) (.slice A' (kp l ys).length c');simpa[bj]using this,HF.set _ _⟩
  refine⟨by simp,.inl ⟨_,_,rfl,bi2 hK',?_⟩⟩;exact⟨.tuple #[.agg #[.slice A' (kp l ys).length c'],.nilIface],by simp[results,Tryz.results293,go_sem,hcc],(hb.setCell aa _).trans (bj6 (w:=w) aa _ D _ _ (by omega) hK' rfl rfl),.inl ⟨hlen,_,rfl,Dh hh' (bj5 _ D cJ) hr'⟩⟩
 rintro D c' pre W hD hpre⟨rfl,he,hx,hbig,hb⟩ hK
 have hce:=he.cell
 unfold sB at hce
 have hcx:=hx.cell
 have hfx:=hx.frozen
 have hbig':Hid (64<(kp l m).length):=cn hbig (tN hR hpre)
 refine bi4.2 ?_
 go_wp2_with fail
 go_region
 all_goals go_wp2_with fail
 all_goals try rw[cf]
 have hK':(W.setCell ⟨w,0,none⟩ aO).drew.heap[D]? =some (aY):=(b7 _ _ _).same D _ hK rfl
 have hr':∀r,some D=some r→∃o:Obj,(W.setCell ⟨w,0,none⟩ aO).drew.heap[r]? =some o∧o.isCells=false:=fun r e=>by cases e;exact⟨_,hK',rfl⟩
 have Xz:bl3 (W.setCell ⟨w,0,none⟩ aO).drew w 127 aO:=hx.set aO
 have hcc:=(oD Xz (bj5 _ D cJ) hr').cell
 have hb1:Below w w (W.setCell ⟨w,0,none⟩ aO).drew:=(hb.setCell aa _).drew
 refine⟨by simp,.inl ⟨_,_,rfl,bi2 hK',?_⟩⟩
 exact⟨.tuple #[.agg #[jM],sB],by simp[results,Tryz.results293,go_sem,hcc,sB],hb1.trans (bj6 (w:=w) aa _ D _ _ (by omega) hK' rfl rfl),.inr ⟨hbig'.out,rfl⟩⟩
theorem wG(w:jC)(c c2:Nat)(A A2:Option jG)(l m:List Int)(hR:mN l)(hl:l.length≤64)(hS:Sl w w A l)(hS2:Sl w w A2 m)(hm:m.length≤1152921504606846976):
 jE Tryz.prog 293 #[jN A l c,jN A2 m c2] w fun e w'=>Below w w w'∧
  (((kp l m).length≤64∧∃v,e=.returned (.tuple #[.agg #[v],.nilIface])∧Held w' w v (kp l m))∨
   (64<(kp l m).length∧e=.returned (.tuple #[.agg #[jM],sB]))):=
 jI.1 (Kx w c c2 A A2 l m hR hl hS hS2 hm)
theorem wK(w:jC):jE Tryz.prog 294 #[.nilIface] w fun e w'=>e=.returned (.int .i64 0)∧w.alloc (.cells #[aF] 467)=w':=by
 have ta:∀w,(dd .nilIface 171 467 true).run Tryz.prog w=.ok (.tuple #[.agg #[aF],.bool false]) w:=fun _=>oo;go_in;go_wp2;go_ret;exact⟨rfl,rfl⟩
def RU:ByteArray:=⟨#[116,111,111,32,109,97,110,121,32,110,117,109,98,101,114,115]⟩
theorem kR(w:jC):jE Tryz.prog 294 #[sB] w fun e w'=>e=.returned (.int .i64 60)∧w.alloc (.cells #[jL RU] 467)=w':=by
 have ta:∀w,(dd sB 171 467 true).run Tryz.prog w=.ok (.tuple #[.agg #[jL RU],.bool true]) w:=fun _=>oo;unfold sB at ta⊢;go_in;go_wp2;go_ret;exact⟨rfl,rfl⟩
end
section
open Go.RowKit Go.Shelf
def Fe(w:jC)(r:List Int)(e:bi6)(w':jC):Prop:=
 Below w w w'∧((r.length≤64∧∃v,e=.returned (.tuple #[.agg #[v],jJ 0])∧Held w' w v r)∨(64<r.length∧e=.returned (.tuple #[.agg #[jM],jJ 60])))
theorem add_any(w:jC)(c:Nat)(A:Option jG)(l:List Int)(n:Int)(hS:Sl w w A l)(hr:kg l=true):
 jE Tryz.prog 288 #[dD A l c,jK n] w (Fe w (kp l [n])):=by
 obtain⟨h64,hR⟩:=mS.1 hr
 have HR:=ah hr
 have HU:=ah hS
 go_in
 go_wp2_with fail
 refine(j_ _ w A c l (by exact(HU.alloc aa _).alloc lV _) mO jS).mono ?_
 rintro e w1⟨rfl,rfl⟩
 rw[HR]
 go_wp2_with fail
 refine(wG _ c 1 A (some ⟨cC w,0,none⟩) l [n] hR h64 (by exact(HU.al (jP (jP (jP (jP (jQ _) _) _) _) _)).more (by simp;omega)) (by exact PG _ _ _ _ (by simp)) (by simp)).mono ?_
 have HB:Hid (bl3 ((((w.alloc (.cells #[jN A l c] 127)).alloc (.cells #[jM] 127)).alloc (.cells #[jN A l c] 127)).alloc (cD n)) (w.heap.size+1) 127 aO):=by have h:=jx (w.alloc (.cells #[jN A l c] 127)) 127 aO;rw[b_]at h;exact(h.alloc _).alloc _
 rintro e w1⟨hb,(⟨hlen,v,rfl,hh⟩|⟨hlen,rfl⟩)⟩
 ·obtain⟨A',c',rfl,hc',hA',hS',hF'⟩:=hh;have hx:bl3 w1 (w.heap.size+1) 127 aO:=(hb.block _ lV).trans HB;have hcx:=hx.cell;have hfx:=hx.frozen;have hz:=hx.lt;have hz':w.heap.size<w1.heap.size:=jS;have hcs:=(hx.set (.slice A' (kp l [n]).length c')).cell;have HH:Hid (Held w1 w (.slice A' (kp l [n]).length c') (kp l [n])):=⟨A',c',rfl,hc',hA',hS',hF'.from mO⟩;have XA:=Below.two (jP (jP (jP (jP (jQ _) _) _) _) _) hb;go_wp2;go_region_with(go_at_call 294;refine(wK _).mono ?_;rintro e w'⟨rfl,rfl⟩)
  all_goals go_wp2_with fail
  all_goals exact jF (v:=.tuple #[.agg #[.slice A' (kp l [n]).length c'],jJ 0]) (by simp[results,Tryz.results288,go_sem,hz,hz',hcs]) rfl ⟨(jP (jP (XA.setCell (by show(aZ w);omega) _) _) _).drew,.inl ⟨hlen,_,rfl,(((HH.PK hx (fun n e=>by cases e) _).alloc _).alloc _).drew⟩⟩
 have hx:bl3 w1 (w.heap.size+1) 127 aO:=(hb.block _ lV).trans HB
 have hcx:=hx.cell
 have hfx:=hx.frozen
 have hz:=hx.lt
 have hz':w.heap.size<w1.heap.size:=jS
 have hcs:=(hx.set aO).cell
 have XA:=Below.two (jP (jP (jP (jP (jQ _) _) _) _) _) hb
 go_wp2
 go_region_with(go_at_call 294;refine(kR _).mono ?_;rintro e w'⟨rfl,rfl⟩)
 all_goals go_wp2_with fail
 all_goals exact jF (v:=.tuple #[.agg #[jM],jJ 60]) (by simp[results,Tryz.results288,go_sem,hz,hz',hcs]) rfl ⟨(jP (jP (XA.setCell (by show(aZ w);omega) _) _) _).drew,.inr ⟨hlen,rfl⟩⟩
theorem merge_any(w:jC)(c c2:Nat)(A A2:Option jG)(l m:List Int)(hS:Sl w w A l)(hS2:Sl w w A2 m)(hr:kg l=true)(hr2:kg m=true):
 jE Tryz.prog 292 #[dD A l c,dD A2 m c2] w (Fe w (kp l m)):=by
 obtain⟨h64,hR⟩:=mS.1 hr
 obtain⟨aV5,hR2⟩:=mS.1 hr2
 have HR:=ah hr
 have HR2:=ah hr2
 have HU:=ah hS
 have HU2:=ah hS2
 go_in
 go_wp2_with fail
 refine(j_ _ w A c l (by exact HU.al (jP (jP (jP (jQ _) _) _) _)) mO jS).mono ?_
 rintro e w1⟨rfl,rfl⟩
 rw[HR]
 go_wp2_with fail
 refine(j_ _ w A2 c2 m (by exact HU2.al (jP (jP (jP (jP (jQ _) _) _) _) _)) mO jS).mono ?_
 rintro e w1⟨rfl,rfl⟩
 rw[HR2]
 go_wp2_with fail
 refine(wG _ c c2 A A2 l m hR h64 (by exact(HU.al (jP (jP (jP (jP (jP (jQ _) _) _) _) _) _)).more (by simp;omega)) (by exact(HU2.al (jP (jP (jP (jP (jP (jQ _) _) _) _) _) _)).more (by simp;omega)) (by omega)).mono ?_
 have HB:Hid (bl3 (((((w.alloc (.cells #[jN A l c] 127)).alloc (.cells #[jN A2 m c2] 127)).alloc (.cells #[jM] 127)).alloc (.cells #[jN A l c] 127)).alloc (.cells #[jN A2 m c2] 127)) (aN w) 127 aO):=by have h:=jx ((w.alloc (.cells #[jN A l c] 127)).alloc (.cells #[jN A2 m c2] 127)) 127 aO;rw[b_,b_]at h;exact(h.alloc _).alloc _
 rintro e w1⟨hb,(⟨hlen,v,rfl,hh⟩|⟨hlen,rfl⟩)⟩
 ·obtain⟨A',c',rfl,hc',hA',hS',hF'⟩:=hh;have hx:bl3 w1 (aN w) 127 aO:=(hb.block _ lV).trans HB;have hcx:=hx.cell;have hfx:=hx.frozen;have hz:=hx.lt;have hz':w.heap.size+1<w1.heap.size:=jS;have at7:w.heap.size<w1.heap.size:=jS;have hcs:=(hx.set (.slice A' (kp l m).length c')).cell;have HH:Hid (Held w1 w (.slice A' (kp l m).length c') (kp l m)):=⟨A',c',rfl,hc',hA',hS',hF'.from mO⟩;have XA:=Below.two (jP (jP (jP (jP (jP (jQ _) _) _) _) _) _) hb;go_wp2;go_region_with(go_at_call 294;refine(wK _).mono ?_;rintro e w'⟨rfl,rfl⟩)
  all_goals go_wp2_with fail
  all_goals exact jF (v:=.tuple #[.agg #[.slice A' (kp l m).length c'],jJ 0]) (by simp[results,Tryz.results292,go_sem,hz,hz',hcs]) rfl ⟨(jP (jP (XA.setCell (by show(aU w);omega) _) _) _).drew,.inl ⟨hlen,_,rfl,(((HH.PK hx (fun n e=>by cases e) _).alloc _).alloc _).drew⟩⟩
 have hx:bl3 w1 (aN w) 127 aO:=(hb.block _ lV).trans HB
 have hcx:=hx.cell
 have hfx:=hx.frozen
 have hz:=hx.lt
 have hz':w.heap.size+1<w1.heap.size:=jS
 have at7:w.heap.size<w1.heap.size:=jS
 have hcs:=(hx.set aO).cell
 have XA:=Below.two (jP (jP (jP (jP (jP (jQ _) _) _) _) _) _) hb
 go_wp2
 go_region_with(go_at_call 294;refine(kR _).mono ?_;rintro e w'⟨rfl,rfl⟩)
 all_goals go_wp2_with fail
 all_goals exact jF (v:=.tuple #[.agg #[jM],jJ 60]) (by simp[results,Tryz.results292,go_sem,hz,hz',hcs]) rfl ⟨(jP (jP (XA.setCell (by show(aU w);omega) _) _) _).drew,.inr ⟨hlen,rfl⟩⟩
end
def cnt(l:List Int):Int:=if kg l=true then(l.length:Int)else 0
theorem count_any(w:jC)(c:Nat)(A:Option jG)(l:List Int)(hS:Sl w w A l)(hl:l.length≤1152921504606846976):
 jE Tryz.prog 290 #[dD A l c] w fun e w'=>e=.returned (.int .u64 (cnt l))∧Below w w w':=by
 cases hr:kg l with
 |true=>
  have HC:Hid (cnt l=(l.length:Int)):=by show cnt l=_;simp[cnt,hr]
  have HR:=ah hr;go_in;go_wp2_with fail;refine(j_ _ w A c l (by exact hS.al (jP (jQ _) _)) lV jS).mono ?_;rintro e w1⟨rfl,rfl⟩;rw[HR];go_wp2;go_ret;exact⟨mL HC.symm,jP (jP (jQ _) _) _⟩
 |false=>
  have HC:Hid (cnt l=0):=by show cnt l=_;simp[cnt,hr]
  have HR:=ah hr;go_in;go_wp2_with fail;refine(j_ _ w A c l (by exact hS.al (jP (jQ _) _)) lV jS).mono ?_;rintro e w1⟨rfl,rfl⟩;rw[HR];go_wp2;go_ret;exact⟨mL HC.symm,jP (jP (jQ _) _) _⟩
end Ex
structure ScK(x0:List Nat) where
def cK(x0:List Nat):ScK x0:=⟨⟩
instance aU5(x0:List Nat):CoeOut (ScK x0) (List Nat):=⟨fun _=>(bu x0.length)⟩
instance aW1(x0:Nat):CoeOut (sH 63 x0) (List Nat):=⟨fun _=>(de (2^x0) 0)⟩
namespace Hl
def bl(m:Nat):Nat:=if m=0 then 0 else Nat.log2 m+1
theorem UU:bl 0=0:=rfl
variable{m k:Nat}
theorem ID(h:m<2^k):bl m≤k:=by
 unfold bl;split
 ·omega
 rename_i h0;have:=(Nat.log2_lt h0).2 h;omega
theorem VY(m:Nat):m<2^bl m:=by
 unfold bl;split
 ·rename_i h;rw[h];decide
 rename_i h0;exact(Nat.log2_lt h0).1 (fA _)
theorem af5(h:2^k≤m):k+1≤bl m:=by
 have h1:=VY m;have:=Nat.lt_of_le_of_lt h h1;exact(Nat.pow_lt_pow_iff_right B8).1 this
theorem af6(h1:2^k≤m)(h2:m<2^(k+1)):bl m=k+1:=Nat.le_antisymm (ID h2) (af5 h1)
theorem X_(m b:Nat)(h:m≠0):bl (m*2^b)=bl m+b:=by
 have hp:0<bl m:=by unfold bl;rw[if_neg h];omega
 obtain⟨k,hk⟩:∃k,bl m=k+1:=⟨bl m-1,jS⟩;have h1:2^k≤m:=by
  rcases fB m (2^k)with hlt|hge
  ·have:=ID hlt;omega
  exact hge
 have h2:m<2^(k+1):=by rw[←hk];exact VY m
 have e:k+b+1=k+1+b:=jS;rw[hk,af6 (k:=k+b) (by rw[im];exact fZ _ h1) (by rw[e,im];exact ig h2 (ee b))];omega
def o_(B n:Nat):Nat:=n/2^(64-B)
def tE(B n:Nat):Nat:=n%2^(64-B)
def pF(B n:Nat):Nat:=65-B-bl (tE B n)
theorem D5(B n:Nat):tE B n<2^(64-B):=jj _ (ee _)
variable{B n:Nat}
theorem Wi(hB:B≤64)(hn:n<2^64):o_ B n<2^B:=by
 unfold o_;refine iZ ?_;rw[←im,show 64-B+B=64 by omega];exact hn
theorem LQ(hB:3≤B)(Uv:B≤8)(n:Nat):1≤pF B n∧pF B n≤65-B:=by
 have:=ID (D5 B n);unfold pF;omega
section
open Go.RowKit Go.Shelf
def GM:Go.Shelf.Ren:=⟨fun|134=>311|129=>67|n=>n,fun|53=>22|3=>3|4=>4|46=>152|5=>5|9=>9|n=>n,fun|n=>n⟩
theorem Ui:Go.Proofs.Lays.n134 Tryz.prog GM:={
 mixed:=oo
 f129:=Tryz.func67.trans (congrArg some oo)
 f134:=Tryz.func311.trans (congrArg some oo)
 t3:=Tryz.underlying3
 a3:=Tryz.isAgg3
 z3:=Tryz.sizeOf3
 v3:=Tryz.zeroValue3
 t4:=Tryz.underlying4
 a4:=Tryz.isAgg4
 z4:=Tryz.sizeOf4
 v4:=Tryz.zeroValue4
 t5:=Tryz.underlying5
 a5:=Tryz.isAgg5
 z5:=Tryz.sizeOf5
 v5:=Tryz.zeroValue5
 t9:=Tryz.underlying9
 a9:=Tryz.isAgg9
 z9:=Tryz.sizeOf9
 v9:=Tryz.zeroValue9
 t46:=Tryz.underlying152
 a46:=Tryz.isAgg152
 z46:=Tryz.sizeOf152
 v46:=Tryz.zeroValue152
 t53:=Tryz.underlying22
 a53:=Tryz.isAgg22
 z53:=Tryz.sizeOf22
 v53:=Tryz.zeroValue22}
theorem Dx:∀(f x:Nat),x<2^f→gY f x=bl x
 |0,x,h=>by
  have:x=0:=by simpa using h
  subst this;rfl
 |f+1,x,h=>by
  rw[gY];split
  ·rename_i e;rw[e];rfl
  rename_i e;have hx:x/2<2^f:=by rw[iI]at h;omega
  rw[Dx f (x/2) hx];by_cases h2:x/2=0
  ·have:x=1:=by omega
   subst this;decide
  unfold bl;rw[if_neg h2,if_neg e];have:=Nat.log2_def x;rw[if_pos (by omega)]at this;omega
theorem Xi(x:Nat)(hx:x<18446744073709551616)(w:jC):jE Tryz.prog 311 #[jK x] w fun e w'=>e=.returned (.int .i64 (64-(bl x:Int)))∧w=w':=
 (Go.Proofs.Any.bits_LeadingZeros64 Ui x w jS jS).mono fun _ _⟨he,hw⟩=>⟨by rw[he,dM];show ff (.int .i64 (64-(gY 64 x:Int)))=_;rw[Dx 64 x hx],hw.symm⟩
end
abbrev sC(s:ByteArray):jD:=.iface 470 (.agg #[jL s])
theorem kR(s:ByteArray)(w:jC):jE Tryz.prog 296 #[sC s] w fun e w'=>e=.returned (.int .i64 70)∧w.alloc (.cells #[jL s] 470)=w':=by
 have ta:∀w,(dd (sC s) 171 470 true).run Tryz.prog w=.ok (.tuple #[.agg #[jL s],.bool true]) w:=fun _=>oo;go_in;go_wp2;go_ret;exact⟨rfl,rfl⟩
theorem OK(x:Nat)(hx:x<18446744073709551616)(w:jC):jE Tryz.prog 308 #[jK x] w fun e w'=>e=.returned (.int .i64 (64-(bl x:Int)))∧w=w':=by
 go_in;go_wp2_with fail;refine(Xi x hx _).mono ?_;rintro e w'⟨rfl,rfl⟩;go_wp2;go_ret;exact⟨rfl,rfl⟩
theorem PH(hB:B≤8):IntKind.u64.wrap ((n:Int)*2^B)=((tE B n*2^B:Nat):Int):=by
 have e:(2:Nat)^(64-B)*2^B=18446744073709551616:=by rw[←im,show 64-B+B=64 by omega]
 have h:n*2^B%18446744073709551616=tE B n*2^B:=by rw[←e,Nat.mul_mod_mul_right];rfl
 rw[←h,iw];simp
theorem JM(B n:Nat)(hB:3≤B)(Uv:B≤8)(hn:n<18446744073709551616)(w:jC):
 jE Tryz.prog 303 #[jJ B,jK n] w fun e w'=>e=.returned (.tuple #[jJ (o_ B n),jJ (pF B n)])∧w=w':=by
 have hb:nO B=true:=by simp[nO];omega
 have HB:=ah hb
 have hat:o_ B n<256:=cn (Wi (B:=B) (by omega) hn) (a_ (ep (by decide) Uv) (by decide))
 have hdv:(n:Int)/2^(64-B)=((o_ B n:Nat):Int):=by simp[o_]
 have hsh:=PH (B:=B) (n:=n) Uv
 have hbl:=ID (D5 B n)
 have hrl:=D5 B n
 by_cases h0:tE B n=0
 ·have HRK:Hid (((pF B n:Nat):Int)=65-(B:Int)):=by show _=_;rw[pF,h0,UU];omega
  rw[h0,fh]at hsh;generalize o_ B n=a at*
  go_in;go_wp2_with fail;refine(pl _ _).mono ?_;rintro e w'⟨rfl,rfl⟩;rw[HB];go_wp2;go_ret2;exact⟨by rw[HRK];rfl,rfl⟩
 have hbs:=X_ (tE B n) B h0
 have Z4:tE B n*2^B<18446744073709551616:=by
  have e:(2:Nat)^(64-B)*2^B=18446744073709551616:=by rw[←im,show 64-B+B=64 by omega]
  rw[←e];exact ig hrl (ee B)
 have hs0:tE B n*2^B≠0:=Nat.mul_ne_zero h0 (Nat.ne_of_gt (ee B))
 have HRK:Hid (((pF B n:Nat):Int)=64-((bl (tE B n*2^B):Nat):Int)+1):=by show _=_;rw[pF,hbs];omega
 have hbb:bl (tE B n*2^B)≤64:=ID (k:=64) Z4
 clear hb hbs h0 hbl hrl
 generalize tE B n*2^B=s at*
 generalize o_ B n=a at*
 have hs1:((s:Int)!=0)=true:=by simp;omega
 go_in
 go_wp2_with fail
 refine(pl _ _).mono ?_
 rintro e w'⟨rfl,rfl⟩
 rw[HB]
 go_wp2_with fail
 refine(OK s Z4 _).mono ?_
 rintro e w'⟨rfl,rfl⟩
 go_wp2_with fail
 go_ret2
 exact⟨by rw[HRK];rfl,rfl⟩
variable{l:List Nat}
theorem UT{p:Nat}(hp:p<l.length)(v i:Nat):mJ (l.set p v) i=if i=p then v else mJ l i:=by
 unfold mJ;rw[jq];by_cases h:p=i
 ·subst h;simp[hp]
 rw[if_neg h,if_neg (fun e=>h e.symm)]
section
variable{w w':jC}{g:Nat}{l:List Nat}
theorem By.drew(h:By w g l):By w.drew g l:=h.keep aa rfl
theorem By.set(h:By w g l){p:Nat}(hp:p<l.length)(v:Nat):By (w.setCell ⟨g,p,none⟩ (.int .u8 (v:Int))) g (l.set p v):=by
 refine⟨by simpa[bj]using h.lt,fun j hj=>?_,fun j hj=>?_⟩
 ·rw[eq]at hj;rw[UT hp];by_cases e:j=p
  ·subst e;rw[if_pos rfl];exact World.cell?_setCell_same' _ _ _ (by rw[h.cell j hj];rfl)
  rw[if_neg e,eX _ _ _ _ (fun e'=>e (by injection e' with _ e2;exact e2.symm))];exact h.cell j hj
 rw[eq]at hj;rw[World.frozen?_setCell];exact h.free j hj
theorem By.Si(h:By w g l)(hl:0<l.length){o:Obj}(ho:w.heap[g]? =some o):o.isCells=true:=by
 have:=h.cell 0 hl;unfold fJ at this;simp only[ho]at this
 cases o<;>first|(simp at this;done)|rfl
end
theorem BU{P:bi3}(w:jC)(src dst e:jH)(g cap:Nat)(l:List Nat)(hs:P.underlying src=some (.slice e))(he:P.underlying e=some (.int .u8))(hd:P.underlying dst=some .string)(h:By w g l)(hB:Bytes l):
 (convert src dst (.slice (aC g) l.length cap)).run P w=.ok (.string (bs l)) w:=by
 have:=run_convert_bytes_back (P:=P) w src dst e ⟨g,0,none⟩ cap (l.map gH) hs he hd (fun j hj=>by
  rw[ax]at hj;rw[addr_add,au,h.cell j hj];have hb:=Bk hB j;have:mJ l j=l[j]:=by simp[mJ,hj]
  simp only[gD];rw[this]at hb⊢;congr 2;simp[ji];omega)
 rw[ax]at this
 exact this
abbrev jT(b:Int)(s:ByteArray)(g n cap:Nat):Array jD:=#[jJ b,jL s,.slice (aC g) n cap,.func (.func 301) #[] #[]]
theorem Hc(a b:Nat)(w:jC):jE Tryz.prog 301 #[.int .u8 (a:Int),.int .u8 (b:Int)] w fun e w'=>e=.returned (.int .u8 ((max a b:Nat):Int))∧w=w':=by
 by_cases h:b<a
 ·have e:max a b=a:=jS;rw[e];go_in;go_wp2
  all_goals go_ret
  all_goals exact⟨mL jS,rfl⟩
 have e:max a b=b:=jS;rw[e];go_in;go_wp2
 all_goals go_ret
 all_goals exact⟨mL jS,rfl⟩
variable{w:jC}{row:Option Nat}
theorem Kv{a:jC}(h:a.grownBy w row):a.grownBy w.drew row:=⟨h.os,h.tape,h.output,h.size,h.block⟩
theorem te(b:Int)(s:ByteArray)(g cap p r:Nat)(l:List Nat)(w:jC)(hp:p<l.length)(hl:l.length≤65536)(h:By w g l):
 jE Tryz.prog 304 #[.agg (jT b s g l.length cap),jJ p,.int .u8 r] w fun e w'=>(∃v,e=.returned v)∧By w' g (l.set p (max (mJ l p) r))∧(bY w w' g):=by
 have X:=jR.new w 457 (jT b s g l.length cap)
 have c2:(w.alloc (.cells (jT b s g l.length cap) 457)).cell? ⟨w,2,none⟩=some (.slice (aC g) l.length cap):=X.cell 2
 have c3:(w.alloc (.cells (jT b s g l.length cap) 457)).cell? ⟨w,3,none⟩=some (.func (.func 301) #[] #[]):=X.cell 3
 have H:=ah (h.alloc (.cells (jT b s g l.length cap) 457))
 have zg:=h.lt
 have cg:=H.cell p hp
 have fg:=H.free p hp
 have hx1:(0:Int)≤p:=by omega
 have hx2:(p:Int)<l.length:=by omega
 have HG:Hid (w.grownBy (w.alloc (.cells (jT b s g l.length cap) 457)) (some g)):=kH (jP (jQ _) _) _
 clear X h
 go_in
 go_wp2_with fail
 generalize w.alloc (.cells (jT b s g l.length cap) 457)=V at*
 refine bi1 (S:=fun w'=>w'.cell? ⟨w,2,none⟩=some (.slice (aC g) l.length cap)∧w'.cell? ⟨w,3,none⟩=some (.func (.func 301) #[] #[])) (by kernel_rfl) ⟨c2,c3⟩ (fun hHeld=>?_)
 refine re hHeld ?_
 refine pL 9 fun K hK=>?_
 go_simp
 refine hK.out _ _ ⟨c2,c3⟩ (fun hHeld=>?_)
 clear hK K
 refine az ?_
 refine pL 11 fun K hK=>?_
 go_simp
 refine(Hc (mJ l p) r _).mono ?_
 rintro e w'⟨rfl,rfl⟩
 refine hK.out _ _ ⟨c2,c3⟩ (fun hHeld=>?_)
 clear hK K
 refine az ?_
 refine re hHeld ?_
 refine pL 13 fun K hK=>?_
 go_simp
 refine hK.out _ _ ⟨(by show(V.setCell _ _).cell? _=_;rw[eX _ _ _ _ (fun e=>by injection e with e1 _;omega)];exact c2),(by show(V.setCell _ _).cell? _=_;rw[eX _ _ _ _ (fun e=>by injection e with e1 _;omega)];exact c3)⟩ (fun hHeld=>?_)
 clear hK K
 refine az ?_
 refine hdn ?_
 have HB2:Hid (By (V.setCell ⟨g,p,none⟩ (.int .u8 ((max (mJ l p) r:Nat):Int))).drew g (l.set p (max (mJ l p) r))):=(H.set hp (max (mJ l p) r)).drew
 have HG2:Hid (w.grownBy (V.setCell ⟨g,p,none⟩ (.int .u8 ((max (mJ l p) r:Nat):Int))).drew (some g)):=Kv (jW HG (k6 V g p _))
 go_wp2
 go_end0
 exact⟨⟨_,rfl⟩,HB2,HG2⟩
theorem tV(b:Int)(s:ByteArray)(g cap:Nat)(l:List Nat)(w:jC)(hB:Bytes l)(h:By w g l):
 jE Tryz.prog 298 #[.agg (jT b s g l.length cap)] w fun e w'=>e=.returned (.agg #[jJ b,jL (bs l)])∧Below w w w':=by
 have hcv:∀W,By W g l→(convert 151 9 (.slice (aC g) l.length cap)).run Tryz.prog W=.ok (.string (bs l)) W:=fun W hW=>BU W 151 9 5 g cap l Tryz.underlying151 Tryz.underlying5 Tryz.underlying9 hW hB
 have H1:=h.alloc (.cells (jT b s g l.length cap) 457)
 have H2:=H1.alloc (.cells #[jJ 0,aF] 129)
 have hc2:=hcv _ H2
 go_in
 go_wp2
 exact jF (v:=.agg #[jJ b,jL (bs l)]) (by simp[results,Tryz.results298,go_sem]) rfl ⟨rfl,jP (jP (jQ _) _) _⟩
section
open Go.RowKit Go.Shelf
attribute [local go_sem] db
abbrev Wm:={x:Int // U x}
theorem Bb:∀(l:List Int),Us l→∃zs:List Wm,zs.map (·.1)=l
 |[],_=>⟨[],rfl⟩
 |x::l,h=>by
  obtain⟨zs,hz⟩:=Bb l (fun y hy=>h y (dS _ hy));exact⟨⟨x,h x ab⟩::zs,by simp[hz]⟩
theorem vi(a:Option jG)(len cap:Nat)(w:jC):
 jE Tryz.prog 302 #[.slice a len cap] w fun e w'=>e=.returned (.func (.func 307) #[] #[jO w])∧w.alloc (.cells #[.slice a len cap] 33)=w':=by
 go_in
 go_wp2
 go_ret
 exact⟨rfl,rfl⟩
theorem values1_in(n:Nat)(hn:1≤n)(l Bs n₀ g cap b off:Nat)(zs:List Wm)(ls:List Int)(hzs:zs.map (·.1)=ls)(hreach:zs.length≤65536)(hBs:Bs<n₀)(hg:Bs≠g)(hb:b<n₀)(hbg:b≠g)(J Jx:List Wm→jC→Prop)
 (hY:∀pre x W,J pre W→pre.length<zs.length→bl4 cz (n-1) Tryz.prog l #[jK x.1] W fun e W'=>
  (e=.returned (.bool true)∧J (pre++[x]) W'∧kZ n₀ g W W')∨(e=.returned (.bool false)∧Jx (pre++[x]) W'))
 (W:jC) (hB:jR W Bs 33 #[.slice (bH b off) zs.length cap]) (hc:∀j,j<zs.length→W.cell? ⟨b,off+j,none⟩=some (.int .u64 (nth ls j))) (h0:J [] W):
 bj2 cz n Tryz.prog 307 #[cG l,jO Bs] W fun e W'=>(∃v,e=.returned v)∧
  ((∃ys,ys=zs∧J ys W')∨(∃pre,pre <+: zs∧Jx pre W')):=by
 have hlen:ls.length=zs.length:=by rw[←hzs];simp
 have HZ:=ah hzs
 have HC:=ah hc
 have hcb:=hB.one
 refine bj1 Tryz.func307 rfl trivial ?_ rfl
 simp only[Tryz.ntmps307,xb,ao,dk]
 gi_wp2
 gi_loopw[7] (fun i wr=>∃k:Nat,k≤zs.length∧i=.int .i64 k∧J (zs.take k) wr∧kZ n₀ g W wr)
  (fun i _=>zs.length-(intOf i).toNat)
 case atStart=>exact⟨0,be _,rfl,h0,og _ _ _⟩
 obtain⟨k,hk,rfl,hJs,hnx⟩:=hrel
 by_cases hlt:k<zs.length
 ·have hcx':=(co (hnx.2 b hb hbg)).trans (HC k hlt);have hx:(zs[k]).1=nth ls k:=by rw[←HZ];simp[nth,hlt]
  have ht:=aj hlt;have HT:=ah ht;obtain⟨fn,tmps,assign,body,hy,hR⟩:=hY _ (zs[k]) wr hJs mO;rw[hx]at hy;generalize nth ls k=v at*
  gi_wp2;refine hR.mono ?_;rintro e W3(⟨rfl,hJ3,hk3⟩|⟨rfl,hJx3⟩)
  ·gi_wp2;go_roundw
   case rel=>exact⟨k+1,jS,lV,by rw[HT];exact hJ3,l_ hnx hk3⟩
   simp[intOf];omega
  gi_wp2;refine jF (bj7 rfl _ _ _) rfl ?_;refine⟨⟨_,rfl⟩,.inr ⟨_,?_,hJx3⟩⟩;rw[←HT];exact eS _ _
 obtain rfl:k=zs.length:=jS
 gi_wp2
 go_end0
 exact⟨⟨_,rfl⟩,.inl ⟨_,dP,hJs⟩⟩
theorem vj(n:Nat)(hn:1≤n)(l Bs cap:Nat)(A:Option jG)(J Jx:List Wm→jC→Prop)(W:jC)(hB:jR W Bs 33 #[.slice A 0 cap])(h0:J [] W):
 bj2 cz n Tryz.prog 307 #[cG l,jO Bs] W fun e W'=>(∃v,e=.returned v)∧
  ((∃ys,ys=[]∧J ys W')∨(∃pre,pre <+: []∧Jx pre W')):=by
 have hcb:=hB.one
 refine bj1 Tryz.func307 rfl trivial ?_ rfl
 simp only[Tryz.ntmps307,xb,ao,dk]
 gi_wp2
 gi_loopw[7] (fun i wr=>i=.int .i64 0∧wr=W) (fun _ _=>0)
 case atStart=>exact⟨rfl,rfl⟩
 obtain⟨rfl,rfl⟩:=hrel
 gi_wp2
 go_end0
 exact⟨⟨_,rfl⟩,.inl ⟨_,rfl,h0⟩⟩
theorem values_stops(n:Nat)(hn:1≤n)(Bs g cap:Nat)(A:Option jG)(zs:List Wm)(ls:List Int)(hzs:zs.map (·.1)=ls)(hreach:ls.length≤65536)(w:jC)(hg:Bs≠g)(hne:ls≠[]→∀ad,A=some ad→ad.block≠g)
 (hB:jR w Bs 33 #[jN A ls cap]) (hS:Sl w w A ls):
 bl1 cz n Tryz.prog 307 #[jO Bs] (fun x:Wm=>#[br .u64 x.1]) (kZ w g) (fun ys=>ys=zs) (fun pre=>pre <+: zs) ls.length w:=fun l J Jx W hW _ _ hY h0=>by
 have hlen:zs.length=ls.length:=by rw[←hzs];simp
 cases zs with
 |nil=>
  have e:ls=[]:=by rw[←hzs];rfl
  subst e;exact vj n hn l Bs cap A J Jx W (hB.later hW) h0
 |cons z zs'=>
  obtain⟨b,off,rfl,hb,hc⟩:=hS.at_ (by rw[←hlen];simp);have hB':=hB.later hW;rw[←hlen]at hB' hY;exact values1_in n hn l Bs w g cap b off (z::zs') ls hzs (by rw[hlen];exact hreach) hB.lt hg hb (hne (by rw[←hzs];simp) _ rfl) J Jx hY W hB' (fun j hj=>(hW.cell (p:=⟨b,off+j,none⟩) hb).trans (hc j (by rw[←hlen];exact hj))) h0
end
section
open Go.RowKit Go.Shelf
attribute [local go_sem] db
def nS(l:List Nat)(p r:Nat):List Nat:=l.set p (max (mJ l p) r)
def uK(B:Nat)(l:List Nat)(n:Nat):List Nat:=nS l (o_ B n) (pF B n)
def mx(B:Nat)(l:List Nat)(ns:List Int):List Nat:=ns.foldl (fun l n=>uK B l n.toNat) l
theorem tP(B:Nat)(l:List Nat)(n:Nat):(uK B l n).length=l.length:=by simp[uK,nS]
theorem IK(B:Nat)(l:List Nat)(ns:List Int)(n:Int):mx B l (ns++[n])=uK B (mx B l ns) n.toNat:=by simp[mx]
theorem ox(B:Nat)(l:List Nat)(ns:List Int):(mx B l ns).length=l.length:=by
 induction ns generalizing l with
 |nil=>rfl
 |cons n ns ih=>exact(ih _).trans (tP _ _ _)
def AdI(w:jC)(z B g bw cap:Nat)(s:ByteArray)(l:List Nat)(pre:List Wm)(W:jC):Prop:=
 By W g (mx B l (pre.map (·.1)))∧jR W bw 457 (jT B s g l.length cap)∧(bY w W g)∧z≤W.heap.size
variable{g:Nat}{s:ByteArray}
theorem MU{z bw cap:Nat}{Bd:Nat}(hl:0<l.length)(hB:w.heap.size≤Bd):bj3 Bd (AdI w z B g bw cap s l):=by
 rintro pre W W' row⟨h1,h2,h4,hz⟩ hg hr;have hr':∀r,row=some r→(aH W r):=fun r e=>(hr r e).2;exact⟨h1.kept (by rw[ox];exact hl) hg hr',h2.kept hg hr',⟨hg.os.trans h4.os,hg.tape.trans h4.tape,hg.output.trans h4.output,a_ h4.size hg.size,fun i hi hne=>(hg.block i (cn hi h4.size) (fun e=>by have:=(hr i e.symm).1;omega)).trans (h4.block i hi hne)⟩,a_ hz hg.size⟩
theorem Tm(B g cap s7:Nat)(s:ByteArray)(A:Option jG)(l:List Nat)(ns:List Int)(hB:3≤B)(Uv:B≤8)(hl:l.length=2^B)(hU:Us ns)(hn:ns.length≤65536)(w:jC)(hS:Sl w w A ns)(hne:ns≠[]→∀ad,A=some ad→ad.block≠g)(h:By w g l):
 bj2 cz 6 Tryz.prog 297 #[.agg (jT B s g l.length cap),jN A ns s7] w fun e w'=>(∃v,e=.returned v)∧By w' g (mx B l ns)∧(bY w w' g):=by
 have hl0:0<l.length:=by rw[hl];exact ee B
 have Df:l.length≤256:=by rw[hl];exact a_ (ep (by decide) Uv) (by decide)
 have HL:=ah hl
 obtain⟨zs,hzs⟩:=Bb ns hU
 have HZ:=ah hzs
 have zg:=h.lt
 clear hl hzs
 refine bi7 Tryz.func297 rfl trivial ?_ rfl
 simp only[Tryz.ntmps297,xb,ao,dk]
 refine bi4.2 ?_
 go_wp2_with fail
 refine(vi _ _ _ _).mono ?_
 rintro e w'⟨rfl,rfl⟩
 go_wp2_with fail
 have hb0:Below w w ((w.alloc (.cells (jT B s g l.length cap) 457)).alloc (oZ 48 A ns s7)):=jP (jP (jQ _) _) _
 have hX:jR ((w.alloc (.cells (jT B s g l.length cap) 457)).alloc (oZ 48 A ns s7)) w 457 (jT B s g l.length cap):=(jR.new w _ _).alloc _
 have hY:jR ((w.alloc (.cells (jT B s g l.length cap) 457)).alloc (oZ 48 A ns s7)) (w.heap.size+1) 33 #[jN A ns s7]:=by
  have:=jR.new (w.alloc (.cells (jT B s g l.length cap) 457)) 33 #[jN A ns s7];rwa[b_]at this
 have hst:AdI w (w.heap.size+2) B g w cap s l [] ((w.alloc (.cells (jT B s g l.length cap) 457)).alloc (oZ 48 A ns s7)):=⟨(h.alloc _).alloc _,hX,kH hb0 _,lV⟩
 have hsz:((w.alloc (.cells (jT B s g l.length cap) 457)).alloc (oZ 48 A ns s7)).heap.size=w.heap.size+2:=lV
 have hS0:=hS.later hb0
 generalize((w.alloc (.cells (jT B s g l.length cap) 457)).alloc (oZ 48 A ns s7))=V at*
 refine(bi4 (n:=6)).1 ?_
 refine bj9 rfl jS (gf:=307) (lb:=#[.pointer (some (aE w))]) rfl trivial (enters_of Tryz.func307 oo rfl)
  (values_stops 5 jS (w.heap.size+1) g s7 A zs ns HZ hn V jS hne hY hS0) (fun h k=>l_ h k) (qf aa) (Below.refl _ _) (fun _=>rfl)
  (AdI w (w.heap.size+2) B g w cap s l) (fun _ _ _=>False) (MU hl0 jS) (fun _ _ _ _ _ h _ _=>h) hst
  (fun x=>{tmps:=#[.agg (jT B s g l.length cap),jN A ns s7,jO w,undef,jK x.1,undef,undef,jN A ns s7,.func (.func 307) #[] #[.pointer (some (aE w))],jK x.1,undef,undef,undef,undef,undef,undef,undef,undef,undef,undef,undef,undef,undef],defers:=[]}) ?assign ?body ?done ?stop
 case assign=>
  intro l x W K hK;gi_wp2;exact hK
 case body=>
  rintro l' pre⟨xi,hxi⟩ W⟨hG,hw,hgr,hzz⟩ hlt;obtain⟨n,rfl⟩:∃n:Nat,xi=n:=⟨xi.toNat,by have:=hxi.1;omega⟩;have aa5:n<18446744073709551616:=by have:=hxi.2;omega
  obtain⟨L,hL⟩:∃L,mx B l (pre.map (·.1))=L:=⟨_,rfl⟩;have HLs:Hid (mx B l ((pre++[(⟨(n:Int),hxi⟩:Wm)]).map (·.1))=uK B L n):=by
   show _=_;rw[dH,←hL];exact IK B l _ (n:Int)
  have hLl:L.length=l.length:=by rw[←hL];exact ox _ _ _
  rw[hL]at hG;have hat:o_ B n<L.length:=by rw[hLl,HL];exact Wi jS aa5
  obtain⟨rk1,rk2⟩:=LQ hB Uv n;have HW:=ah hw;have HG:=ah hG;have SP:=ah hLl;have c0:=hw.cell 0;have c1:=hw.cell 1;have c2:=hw.cell 2;have c3:=hw.cell 3;gi_wp2_with fail;refine⟨trivial,?_⟩;refine(d_ l' (jI.2 (JM B n hB Uv aa5 W))).mono ?_;rintro e w'⟨rfl,rfl⟩;gi_wp2_with fail;refine⟨trivial,?_⟩;have HT:Hid (jE Tryz.prog 304 #[.agg (jT B s g l.length cap),jJ ((o_ B n:Nat):Int),.int .u8 ((pF B n:Nat):Int)] W fun e w'=>(∃v,e=.returned v)∧By w' g (uK B L n)∧(bY W w' g)):=by
   have:=te B s g cap (o_ B n) (pF B n) L W hat (by rw[SP];omega) HG;rw[SP]at this;exact this
  refine(d_ l' (jI.2 HT)).mono ?_;rintro e W2⟨⟨v,rfl⟩,hB2,hg2⟩;gi_wp2_with fail;refine⟨KeepsOthers.of_grownBy hg2 (fun j o e ho=>by cases e;exact HG.Si jS ho),p8 jS hg2,?_,HW.grown hg2 (fun e=>TP),jW hgr hg2,a_ hzz hg2.size⟩;rw[HLs];exact hB2
 case done=>
  rintro D ys W hD rfl⟨hG,hw,hgr,hzz⟩ hK;rw[HZ]at hG;gi_wp2;refine⟨lV,.inl ⟨_,_,rfl,bi2 hK,?_⟩⟩;have hr':∀r,some D=some r→(aH W r):=fun r e=>by cases e;exact⟨_,hK,rfl⟩
  exact⟨.tuple #[],bj7 rfl _ _ _,⟨_,rfl⟩,hG.kept (by rw[ox];exact hl0) (bj5 _ D cJ) hr',(MU (Bd:=V.heap.size) hl0 jS ys W _ (some D) ⟨by rw[HZ];exact hG,hw,hgr,hzz⟩ (bj5 _ D cJ) (fun r e=>by cases e;exact⟨hD,_,hK,rfl⟩)).2.2.1⟩
 rintro D c pre W _ _ h _
 exact h.elim
end
abbrev LE:jD:=.agg #[jJ 0,aF,jM,.nilFunc]
def BL(w:jC)(b:Int)(e:bi6)(w':jC):Prop:=
 Below w w w'∧((nO b=true∧∃g,w.heap.size≤g∧e=.returned (.tuple #[.agg (jT b ⟨#[]⟩ g (2^b.toNat) (2^b.toNat)),.nilIface])∧By w' g (de (2^b.toNat) 0))∨
  (nO b=false∧∃s,e=.returned (.tuple #[LE,sC s])))
theorem Tryz.Xn:(Tryz.prog.info? 5).map (fun i=>(i.zero,i.size,i.bytes))=some (some (.int .u8 0),1,1):=oo
theorem Uf(n:Nat):madeCells #[.int .u8 0] n=(fF n (br .u8 0)):=by
 apply Array.ext
 ·simp[size_madeCells]
 intro i h1 h2;simp[madeCells,Nat.mod_one]
variable{g:Nat}{t:jH}
theorem Sj(h:jR w g t (fF n (br .u8 0))):By w g (de n 0):=
 ⟨h.lt,fun j hj=>by
  rw[ey]at hj;rw[h.cell];simp[mJ,hj],fun j _=>h.frozen j⟩
theorem oG(b:Int)(w:jC):jE Tryz.prog 295 #[jJ b] w (BL w b):=by
 cases hs:nO b with
 |false=>
  have H:=ah hs;go_in;go_wp2_with fail;refine(pl b _).mono ?_;rintro e w'⟨rfl,rfl⟩;rw[H];go_wp2;exact jF (v:=.tuple #[LE,sC _]) (by simp[results,Tryz.results295,go_sem];rfl) rfl ⟨jP (jQ _) _,.inr ⟨H,_,rfl⟩⟩
 |true=>
  obtain⟨B,rfl,b1,b2⟩:=bits_nat hs;obtain⟨p1,p2⟩:=Ae b1 b2;obtain⟨i0,hi0,hz0,hz1,hz2⟩:=bi5 Tryz.Xn;obtain⟨N,hN⟩:∃N:Nat,2^B=N:=⟨_,rfl⟩;have hNI:(2:Int)^B=(N:Int):=by rw[←hN];simp
  rw[hN]at p1 p2;have hsh:wrap64 ((2:Int)^B)=(N:Int):=by rw[hNI];unfold wrap64;omega
  have hmk:∀W,(Instr.makeSlice 151 (aJ N) (aJ N)).run Tryz.prog W=.ok (.slice (aM W) N N) (W.alloc (.cells (madeCells (br .u8 0).cells N) 5)):=fun W=>
   vo (P:=Tryz.prog) 151 5 i0 (.int .u8 0) Tryz.underlying151 hi0 hz0 hz1 .i64 .i64 N N aa (by rw[hz2];omega) jS W
  have H:=ah hs;have HN:=ah hN;go_in;go_wp2_with fail;refine(pl _ _).mono ?_;rintro e w'⟨rfl,rfl⟩;rw[H];go_wp2;refine jF (v:=.tuple #[.agg (jT B ⟨#[]⟩ (w.heap.size+1) N N),.nilIface]) (by simp[results,Tryz.results295,go_sem]) rfl
   ⟨jP (jP (jQ _) _) _,.inl ⟨H,w.heap.size+1,dU _,by rw[dM,HN],?_⟩⟩
  rw[dM,HN];refine Sj (t:=5) ?_;rw[←Uf];have h:=jR.new (w.alloc (.cells (jT B ⟨#[]⟩ (w.heap.size+1) N N) 457)) 5 (madeCells #[.int .u8 0] N);rw[b_]at h;exact h
section
open Go.RowKit Go.Shelf
attribute [local go_sem] db
end
section
attribute [local go_sem] db
theorem kU{b:Int}(h:kD b l=true):Bytes l:=by
 obtain⟨B,rfl,q1,q2,q3,q4⟩:=lh h;exact fun x hx=>by have:=q4 x hx;omega
end
structure Hr where
 b:Int
 l:List Nat
 e:Int
def E0:Hr:=⟨0,[],70⟩
abbrev hV(b:Int)(l:List Nat):jD:=.agg #[jJ b,jL (bs l)]
def yY(w:jC)(r:Hr)(e:bi6)(w':jC):Prop:=e=.returned (.tuple #[hV r.b r.l,jJ r.e])∧Below w w w'
def JQ(b:Int)(ns:List Int):Hr:=if nO b=true then⟨b,mx b.toNat (de (2^b.toNat) 0) ns,0⟩else E0
def pc(b:Int)(l:List Nat)(n:Nat):Hr:=if kD b l=true then⟨b,uK b.toNat l n,0⟩else E0
theorem vL:bs []=⟨#[]⟩:=rfl
def Ranks(B:Nat)(l:List Nat):Prop:=∀x∈l,x≤65-B
theorem Ranks.bytes(h:Ranks B l):Bytes l:=fun x hx=>by have:=h x hx;omega
theorem Ranks.set{B:Nat}{l:List Nat}(h:Ranks B l)(p:Nat){v:Nat}(hv:v≤65-B):Ranks B (l.set p v):=fun x hx=>by
 rcases dO hx with h1|h1
 ·exact h x h1
 rw[h1];exact hv
theorem Ranks.mJ{B:Nat}{l:List Nat}(h:Ranks B l)(p:Nat):mJ l p≤65-B:=by
 rcases fB p l.length with hp|hp
 ·exact h _ (MC hp)
 have:YtfcnedcahoifoaaGreatDoor.Hl.mJ l p=0:=by simp[YtfcnedcahoifoaaGreatDoor.Hl.mJ,hp]
 omega
theorem Ranks.tell(h:Ranks B l)(p:Nat){r:Nat}(hr:r≤65-B):Ranks B (nS l p r):=h.set p (by have:=h.mJ p;omega)
theorem Ranks.add(h:Ranks B l)(h3:3≤B)(h8:B≤8)(n:Nat):Ranks B (uK B l n):=h.tell _ (LQ h3 h8 n).2
theorem Ranks.mx(h:Ranks B l)(h3:3≤B)(h8:B≤8)(ns:List Int):Ranks B (mx B l ns):=by
 induction ns generalizing l with
 |nil=>exact h
 |cons n ns ih=>exact ih (h.add h3 h8 _)
theorem r7(B n:Nat):Ranks B (de n 0):=fun x hx=>by rw[gh hx];omega
def BM(w:jC)(b:Int)(l:List Nat)(e:bi6)(w':jC):Prop:=
 Below w w w'∧((kD b l=true∧∃g cap,w.heap.size≤g∧e=.returned (.tuple #[.agg (jT b (bs l) g l.length cap),.nilIface])∧By w' g l)∨
  (kD b l=false∧∃s,e=.returned (.tuple #[LE,sC s])))
theorem _root_.Go.Proofs.YtfcnedcahoifoaaGreatDoor.jR.two{a b:jD}(h:jR w g t #[a,b]):w.cell? ⟨g,0,none⟩=some a∧w.cell? ⟨g,1,none⟩=some b∧w.frozen? ⟨g,0,none⟩=false∧w.frozen? ⟨g,1,none⟩=false:=⟨h.cell 0,h.cell 1,h.frozen 0,h.frozen 1⟩
theorem _root_.Go.Proofs.YtfcnedcahoifoaaGreatDoor.jR.four{a b c d:jD}(h:jR w g t #[a,b,c,d]):w.cell? ⟨g,0,none⟩=some a∧w.cell? ⟨g,1,none⟩=some b∧w.cell? ⟨g,2,none⟩=some c∧w.cell? ⟨g,3,none⟩=some d:=⟨h.cell 0,h.cell 1,h.cell 2,h.cell 3⟩
theorem D0{P:bi3}(w:jC)(src dst e:jH)(l:List Nat)(hl:Bytes l)(hs:P.underlying src=some .string)(hd:P.underlying dst=some (.slice e))(he:P.underlying e=some (.int .u8)):
 ∃cap w',(convert src dst (.string (bs l))).run P w=.ok (.slice (some (lz 43 w)) l.length cap) w'∧By w' w.heap.size l∧(bJ w w')∧w'.heap.size=w.heap.size+1:=by
 have h:=run_bytes_of_string (P:=P) w src dst e (bs l) hs hd he
 have hc:=grownCap_ge w (bs l).size 0 e
 generalize grownCap w (bs l).size 0 e=cap at*
 rw[oA]at h hc
 refine⟨_,_,h,?_,((Below.refl _ _).drew).alloc aa _,by simp⟩
 have hh:(w.drew.alloc (.cells (bytesRow (bs l) cap) e ((bytesRow (bs l) cap).size,(bytesRow (bs l) cap).size+1))).heap[w.heap.size]? =some (.cells (bytesRow (bs l) cap) e ((bytesRow (bs l) cap).size,(bytesRow (bs l) cap).size+1)):=du w.drew _
 have hsz:(bytesRow (bs l) cap).size=cap:=by
  have:=oA l;simp[bytesRow,bs,iG]at this⊢;omega
 refine⟨oh hh,fun j hj=>?_,fun j hj=>?_⟩
 ·have hjd:j<(bs l).data.size:=by simp[bs];exact hj
  have hat:=Iv hl (k:=j) (by rw[oA];exact hj);unfold fJ;simp only[hh];have:=bytesRow_at (bs l) cap j hjd;rw[this];exact congrArg (fun n:Nat=>some (br .u8 (n:Int))) hat
 unfold ju
 simp only[hh]
 simp
 omega
variable{b:Nat}
theorem By.far(h:By w g l){o:Nat}(u:jD)(hne:g≠b):By (w.setCell ⟨b,o,none⟩ u) g l:=
 h.keep (by simp[bj]) (Below.heap_setCell w ⟨b,o,none⟩ u g hne)
theorem nI(b:Int)(l:List Nat)(hL:Bytes l)(w:jC):jE Tryz.prog 321 #[hV b l] w (BM w b l):=by
 cases hs:kD b l with
 |false=>
  have H:=ah hs;go_in;go_wp2_with fail;refine(j_ b l hL _).mono ?_;rintro e w'⟨rfl,hb⟩;rw[H];obtain⟨hc,hf⟩:=Sq hb;have hz:w.heap.size+1<w'.heap.size:=YV;go_wp2;refine jF (v:=.tuple #[LE,sC _]) (by simp[results,Tryz.results321,go_sem,hc,hz];rfl) rfl ?_;exact⟨((((kx (kx hb)).setCell (by show(aZ w);omega) _).setCell (by show(aZ w);omega) _).setCell (by show(aZ w);omega) _).setCell (by show(aZ w);omega) _,.inr ⟨H,_,rfl⟩⟩
 |true=>
  have H:=ah hs;go_in;go_wp2_with fail;refine(j_ b l hL _).mono ?_;rintro e w'⟨rfl,hb⟩;rw[H];obtain⟨hc,hf⟩:=Sq hb;obtain⟨cap,w2,hcv,hB,hb2,hz2⟩:=D0 (P:=Tryz.prog) w' 9 151 5 l hL Tryz.underlying9 Tryz.underlying151 Tryz.underlying5;obtain⟨hc2,hf2⟩:=Sq hb2;have hz:w.heap.size+1<w'.heap.size:=YV;have HB:=ah hB;go_wp2;refine jF (v:=.tuple #[.agg (jT b (bs l) w' l.length cap),.nilIface]) (by simp[results,Tryz.results321,go_sem,hc,hz,hc2]) rfl ?_;refine⟨((((Below.two (kx (kx hb)) hb2).setCell (by show(aZ w);omega) _).setCell (by show(aZ w);omega) _).setCell (by show(aZ w);omega) _).setCell (by show(aZ w);omega) _,.inl ⟨H,w',cap,jS,rfl,?_⟩⟩;exact(((HB.far _ jS).far _ jS).far _ jS).far _ jS
variable{A:Option jG}
theorem WP{ns:List Int}(h:Sl w w A ns)(hg:w.heap.size≤g):ns≠[]→∀ad,A=some ad→ad.block≠g:=fun hn ad e=>by
 obtain⟨b,off,e',hb,_⟩:=h (by simpa using hn);rw[e]at e'
 cases e'
 show b≠g;omega
theorem Fu(B g n cap s7:Nat)(s:ByteArray)(A:Option jG)(l:List Nat)(ns:List Int)(hB:3≤B)(Uv:B≤8)(hl:l.length=2^B)(hln:l.length=n)(hU:Us ns)(hn:ns.length≤65536)(w:jC)(hS:Sl w w A ns)(hne:ns≠[]→∀ad,A=some ad→ad.block≠g)(h:By w g l):
 jE Tryz.prog 297 #[.agg (jT B s g n cap),jN A ns s7] w fun e w'=>(∃v,e=.returned v)∧By w' g (mx B l ns)∧(bY w w' g):=by
 subst hln
 exact jI.1 (Tm B g cap s7 s A l ns hB Uv hl hU hn w hS hne h)
theorem EO(b:Int)(s:ByteArray)(g n cap:Nat)(l:List Nat)(hl:l.length=n)(w:jC)(hB:Bytes l)(h:By w g l):
 jE Tryz.prog 298 #[.agg (jT b s g n cap)] w fun e w'=>e=.returned (.agg #[jJ b,jL (bs l)])∧Below w w w':=by
 subst hl
 exact tV b s g cap l w hB h
theorem Xf(b:Int)(A:Option jG)(ns:List Int)(s7:Nat)(hU:Us ns)(hn:ns.length≤65536)(w:jC)(hS:Sl w w A ns):
 jE Tryz.prog 291 #[jJ b,jN A ns s7] w (yY w (JQ b ns)):=by
 go_in
 go_wp2_with fail
 refine(oG b _).mono ?_
 rintro e w1⟨hb,⟨tR,g,hg,rfl,AR⟩|⟨tR,s,rfl⟩⟩
 ·obtain⟨B,rfl,b1,b2⟩:=bits_nat tR;have HR:Hid (JQ B ns=⟨B,mx B (lz 63 B) ns,0⟩):=by show JQ B ns=_;rw[JQ,if_pos tR,dM]
  have hz:w.heap.size<w1.heap.size:=by have:=hb.size;simp at this;omega
  have hg':w.heap.size<g:=by simp at hg;omega
  rw[dM]at AR⊢;have Z1:=(jR.new w 129 #[jJ 0,aF]).later hb;have BO:=ah AR;have HB:=ah (kx hb);have HZ:=ah Z1;have HS:=ah (hS.later (kx hb));have z1:=AR.lt;clear tR AR hb Z1;go_wp2_with fail;refine(Fu B g (2^B) (2^B) s7 ⟨#[]⟩ A (lz 63 B) ns b1 b2 (by simp) (by simp) hU hn _ ((HS.alloc aa _).more (by simp)) (WP hS (by omega)) (BO.alloc _)).mono ?_;rintro e w2⟨⟨v,rfl⟩,hB2,hg2⟩;have hl2:(mx B (lz 63 B) ns).length=2^B:=by rw[ox,ey]
  have av1:Bytes (mx B (lz 63 B) ns):=((r7 B _).mx b1 b2 ns).bytes;have hX:=(jR.new w1 _ _).grown hg2 (fun e=>LR);obtain⟨c0,c1,c2,c3⟩:=hX.four;have hb2:=(jP HB _).grown hg2 mO (fun k e=>TP);have hZ2:=(HZ.alloc (.cells (jT B ⟨#[]⟩ g (2^B) (2^B)) 457)).grown hg2 (fun e=>LR);have HB2:=ah hB2;have HL2:=ah hl2;have Lx:=ah av1;have yb:=ah hb2;have HZ2:=ah hZ2;generalize mx B (lz 63 B) ns=L at*
  go_wp2_with fail;refine(EO B ⟨#[]⟩ g (2^B) (2^B) L HL2 w2 Lx HB2).mono ?_;rintro e w3⟨rfl,hb3⟩;have hZ3:=HZ2.later hb3;obtain⟨y0,y1,f0,f1⟩:=hZ3.two;go_wp2;refine jF (v:=.tuple #[hV B L,jJ 0]) (by simp[results,Tryz.results291,go_sem,y0,y1]) rfl ⟨by rw[HR],?_⟩;exact((yb.trans (hb3.mono yb.size)).setCell aa _).setCell aa _
 have HR:Hid (JQ b ns=E0):=by show JQ b ns=_;rw[JQ,if_neg (by simp[tR])]
 have hz:w.heap.size<w1.heap.size:=YV
 have hZ:=(jR.new w 129 #[jJ 0,aF]).later hb
 have HB:=ah (kx hb)
 obtain⟨y0,y1,f0,f1⟩:=hZ.two
 go_wp2_with fail
 refine(kR s _).mono ?_
 rintro e w2⟨rfl,rfl⟩
 go_wp2
 refine jF (v:=.tuple #[hV 0 [],jJ 70]) (by simp[results,Tryz.results291,go_sem,y0,y1,vL,hz]) rfl ⟨by rw[HR];rfl,?_⟩
 exact jP (jP ((HB.setCell aa _).setCell aa _) _) _
theorem add_any(b:Int)(l:List Nat)(hL:Bytes l)(n:Nat)(hn:n<18446744073709551616)(w:jC):
 jE Tryz.prog 317 #[hV b l,jK n] w (yY w (pc b l n)):=by
 go_in
 go_wp2_with fail
 refine(nI b l hL _).mono ?_
 rintro e w1⟨hb,⟨hr,g,cap,hg,rfl,AR⟩|⟨hr,s,rfl⟩⟩
 ·obtain⟨B,rfl,b1,b2,hl,hk⟩:=lh hr;have HR:Hid (pc B l n=⟨B,uK B l n,0⟩):=by show pc B l n=_;rw[pc,if_pos hr,dM]
  have hz:w.heap.size+1<w1.heap.size:=by have:=hb.size;simp at this;omega
  have hg':w.heap.size+1<g:=by simp at hg;omega
  have Z1:=jR.new (w.alloc (.cells #[jJ B,jL (bs l)] 129)) 129 #[jJ 0,aF];rw[b_]at Z1;have HZ:=ah (Z1.later hb);have BO:=ah AR;have HB:=ah (kx (kx hb));have z1:=AR.lt;have HL:=ah hl;have HK:=ah hk;clear hr AR hb Z1 hl hk;go_wp2_with fail;have hlA:l.length=2^B:=HL;have hS:Sl ((w1.alloc (.cells (jT B (bs l) g l.length cap) 457)).alloc (.cells #[jK (n:Int)] 22)) ((w1.alloc (.cells (jT B (bs l) g l.length cap) 457)).alloc (.cells #[jK (n:Int)] 22)).heap.size (some (aE w1)) [(n:Int)]:=PG _ (n:Int) 22 _ (by simp);refine(Fu B g l.length cap 1 (bs l) _ l [(n:Int)] b1 b2 hlA rfl (fun x hx=>by rw[eM.1 hx];unfold U;omega) (by simp) _ hS (fun _ ad e=>by cases e;show w1.heap.size+1≠g;omega) ((BO.alloc _).alloc _)).mono ?_;rintro e w2⟨⟨v,rfl⟩,hB2,hg2⟩;have eA:mx B l [(n:Int)]=uK B l n:=by simp[mx]
  rw[eA]at hB2;have HL2:Hid ((uK B l n).length=l.length):=tP _ _ _;have Lx:Hid (Bytes (uK B l n)):=(Ranks.add (l:=l) HK b1 b2 n).bytes;have hX:jR w2 w1 457 (jT B (bs l) g l.length cap):=((jR.new w1 _ _).alloc _).grown hg2 (fun e=>by injection e with e;omega);obtain⟨c0,c1,c2,c3⟩:=hX.four;have yb:=ah ((jP (jP HB _) _).grown hg2 (by simp;omega) (fun k e=>by cases e;omega));have HZ2:=ah (((HZ.alloc _).alloc _).grown hg2 (fun e=>by injection e with e;omega));have HB2:=ah hB2;clear hB2 hX hg2 BO HB HZ HL HK hlA hS eA;generalize uK B l n=L at*
  go_wp2_with fail;refine(EO B (bs l) g l.length cap L HL2 w2 Lx HB2).mono ?_;rintro e w3⟨rfl,hb3⟩;have hZ3:=HZ2.later hb3;obtain⟨y0,y1,f0,f1⟩:=hZ3.two;go_wp2;refine jF (v:=.tuple #[hV B L,jJ 0]) (by simp[results,Tryz.results317,go_sem,y0,y1]) rfl ⟨by rw[HR],?_⟩;exact((yb.trans (hb3.mono yb.size)).setCell (by show(aZ w);omega) _).setCell (by show(aZ w);omega) _
 have HR:Hid (pc b l n=E0):=by show pc b l n=_;rw[pc,if_neg (by simp[hr])]
 have hz:w.heap.size+1<w1.heap.size:=YV
 have Z1:=jR.new (w.alloc (.cells #[jJ b,jL (bs l)] 129)) 129 #[jJ 0,aF]
 rw[b_]at Z1
 have hZ:=Z1.later hb
 have HB:=ah (kx (kx hb))
 obtain⟨y0,y1,f0,f1⟩:=hZ.two
 have hz0:w.heap.size<w1.heap.size:=jS
 go_wp2_with fail
 refine(kR s _).mono ?_
 rintro e w2⟨rfl,rfl⟩
 go_wp2
 refine jF (v:=.tuple #[hV 0 [],jJ 70]) (by simp[results,Tryz.results317,go_sem,y0,y1,vL,hz,hz0]) rfl ⟨by rw[HR];rfl,?_⟩
 exact jP (jP ((HB.setCell (by show(aZ w);omega) _).setCell (by show(aZ w);omega) _) _) _
section
attribute [local go_sem] db
def mrg(l m:List Nat)(ps:List Nat):List Nat:=ps.foldl (fun l p=>nS l p (mJ m p)) l
def rk(l m:List Nat):List Nat:=mrg l m (cK m)
theorem Qm(l m:List Nat)(ps:List Nat)(p:Nat):mrg l m (ps++[p])=nS (mrg l m ps) p (mJ m p):=by simp[mrg]
theorem si(l m:List Nat)(ps:List Nat):(mrg l m ps).length=l.length:=by
 induction ps generalizing l with
 |nil=>rfl
 |cons p ps ih=>exact(ih _).trans (by simp[nS])
variable{m:List Nat}
theorem Ranks.mrg(h:Ranks B l)(hm:Ranks B m)(ps:List Nat):Ranks B (mrg l m ps):=by
 induction ps generalizing l with
 |nil=>exact h
 |cons p ps ih=>exact ih (h.tell p (hm.mJ p))
theorem oc(h:kD (B:Int) l=true):3≤B∧B≤8∧l.length=2^B∧Ranks B l:=by
 obtain⟨B',e,h1,h2,h3,h4⟩:=lh h;have:B'=B:=jS;subst this;exact⟨h1,h2,h3,h4⟩
def l8(b:Int)(l:List Nat)(c:Int)(m:List Nat):Hr:=if kD b l=true∧kD c m=true∧c=b then⟨b,rk l m,0⟩else E0
def Yn(V:jC)(N B g bw cap:Nat)(s:ByteArray)(l m:List Nat)(pre:List (At N))(W:jC):Prop:=
 By W g (mrg l m (pre.map (·.1)))∧jR W bw 457 (jT B s g l.length cap)∧(bY V W g)
variable{s:ByteArray}
theorem Vg{V:jC}{N bw cap:Nat}{Bd:Nat}(hl:0<l.length)(hB:V.heap.size≤Bd):bj3 Bd (Yn V N B g bw cap s l m):=by
 rintro pre W W' row⟨h1,h2,h4⟩ hg hr;have hr':∀r,row=some r→(aH W r):=fun r e=>(hr r e).2;exact⟨h1.kept (by rw[si];exact hl) hg hr',h2.kept hg hr',⟨hg.os.trans h4.os,hg.tape.trans h4.tape,hg.output.trans h4.output,a_ h4.size hg.size,fun i hi hne=>(hg.block i (cn hi h4.size) (fun e=>by have:=(hr i e.symm).1;omega)).trans (h4.block i hi hne)⟩⟩
theorem ui(w:jC)(a b c:Array jD)(ta tb tc:jH):
 jR (((w.alloc (.cells a ta)).alloc (.cells b tb)).alloc (.cells c tc)) w ta a∧jR (((w.alloc (.cells a ta)).alloc (.cells b tb)).alloc (.cells c tc)) (w.heap.size+1) tb b∧jR (((w.alloc (.cells a ta)).alloc (.cells b tb)).alloc (.cells c tc)) (aN w) tc c:=by
 refine⟨((jR.new w ta a).alloc _).alloc _,?_,?_⟩
 ·have h:=(jR.new (w.alloc (.cells a ta)) tb b).alloc (.cells c tc);rwa[b_]at h
 have h:=jR.new ((w.alloc (.cells a ta)).alloc (.cells b tb)) tc c
 rwa[b_,b_]at h
theorem Nz(b c:Int)(l m:List Nat)(hL:Bytes l)(hM:Bytes m)(w:jC)(hbad:¬(kD b l=true∧kD c m=true∧c=b)):
 jE Tryz.prog 320 #[hV b l,hV c m] w (yY w E0):=by
 go_in
 go_wp2_with fail
 refine(nI b l hL _).mono ?_
 rintro e w1⟨hb,⟨hr,g,cap,hg,rfl,AR⟩|⟨hr,s,rfl⟩⟩
 ·obtain⟨X,Y,Z⟩:=ui w #[jJ b,jL (bs l)] #[jJ c,jL (bs m)] #[jJ 0,aF] 129 129 129;have HX:=ah (X.later hb);have HY:=ah (Y.later hb);have HZ:=ah (Z.later hb);have HB:=ah (kx (kx (kx hb)));have hz:w.heap.size+1+1<w1.heap.size:=YV;have hz0:w.heap.size+1<w1.heap.size:=jS;have hz1:w.heap.size<w1.heap.size:=jS;obtain⟨x0,x1,_,_⟩:=HX.two;obtain⟨y0,y1,_,_⟩:=HY.two;obtain⟨z0,z1,f0,f1⟩:=HZ.two;have HN:=ah hbad;have HR:=ah hr;go_wp2_with fail;refine(j_ c m hM _).mono ?_;rintro e w2⟨rfl,hb2⟩;have O5:=ah ((HY.alloc _).later hb2);have Vj:=ah ((HX.alloc _).later hb2);have HZ2:=ah ((HZ.alloc _).later hb2);have HB2:=ah (HB.trans ((kx hb2).mono HB.size));have hs2:w1.heap.size+1≤w2.heap.size:=by have:=hb2.size;simpa using this
  obtain⟨x0,x1,_,_⟩:=Vj.two;obtain⟨y0,y1,_,_⟩:=O5.two;obtain⟨z0,z1,f0,f1⟩:=HZ2.two
  cases hm:kD c m with
  |false=>
   have hy0:w.heap.size+1+1<w2.heap.size:=jS;go_wp2_with fail;refine(kR _ _).mono ?_;rintro e w3⟨rfl,rfl⟩;go_wp2;refine jF (v:=.tuple #[hV 0 [],jJ 70]) (by simp[results,Tryz.results320,go_sem,z0,z1,vL,hy0]) rfl ⟨rfl,?_⟩;exact jP ((HB2.setCell (by show(aU w);omega) _).setCell (by show(aU w);omega) _) _
  |true=>
   have hcb:(c !=b)=true:=by
    have h:=HN;simp;intro e;exact h ⟨HR,hm,e⟩
   have hy0:w.heap.size+1+1<w2.heap.size:=jS;go_wp2_with fail;refine(kR _ _).mono ?_;rintro e w3⟨rfl,rfl⟩;go_wp2;refine jF (v:=.tuple #[hV 0 [],jJ 70]) (by simp[results,Tryz.results320,go_sem,z0,z1,vL,hy0]) rfl ⟨rfl,?_⟩;exact jP ((HB2.setCell (by show(aU w);omega) _).setCell (by show(aU w);omega) _) _
 obtain⟨X,Y,Z⟩:=ui w #[jJ b,jL (bs l)] #[jJ c,jL (bs m)] #[jJ 0,aF] 129 129 129
 have HZ:=ah (Z.later hb)
 have HB:=ah (kx (kx (kx hb)))
 have hz:w.heap.size+1+1<w1.heap.size:=YV
 have hz0:w.heap.size+1<w1.heap.size:=jS
 have hz1:w.heap.size<w1.heap.size:=jS
 obtain⟨z0,z1,f0,f1⟩:=HZ.two
 go_wp2_with fail
 refine(kR s _).mono ?_
 rintro e w2⟨rfl,rfl⟩
 go_wp2
 refine jF (v:=.tuple #[hV 0 [],jJ 70]) (by simp[results,Tryz.results320,go_sem,z0,z1,vL,hz,hz0,hz1]) rfl ⟨rfl,?_⟩
 exact jP (jP ((HB.setCell (by show(aU w);omega) _).setCell (by show(aU w);omega) _) _) _
theorem Qp(B:Nat)(l m:List Nat)(w:jC)(hr:kD B l=true)(hm:kD B m=true):
 bj2 cz 6 Tryz.prog 320 #[hV B l,hV B m] w (yY w ⟨B,rk l m,0⟩):=by
 have HR:=ah hr
 have HM:=ah hm
 have hL:=kU hr
 have hM:=kU hm
 clear hr hm
 refine bi7 Tryz.func320 rfl trivial ?_ rfl
 simp only[Tryz.ntmps320,xb,ao,dk]
 refine bi4.2 ?_
 go_wp2_with fail
 refine(nI B l hL _).mono ?_
 rintro e w1⟨hb,⟨hr,g,cap,hg,rfl,AR⟩|⟨hr,s,rfl⟩⟩
 rotate_left
 ·exact absurd HR.out (by simp[hr])
 obtain⟨X,Y,Z⟩:=ui w #[jJ B,jL (bs l)] #[jJ B,jL (bs m)] #[jJ 0,.string ⟨#[]⟩] 129 129 129
 have HX:=ah (X.later hb)
 have HY:=ah (Y.later hb)
 have HZ:=ah (Z.later hb)
 have HB:=ah (kx (kx (kx hb)))
 have hz:w.heap.size+1+1<w1.heap.size:=by have:=hb.size;simp at this;omega
 have hz0:w.heap.size+1<w1.heap.size:=by omega
 have hz1:w.heap.size<w1.heap.size:=by omega
 have hg1:w.heap.size+1+1<g:=by simp at hg;omega
 have hg2:=AR.lt
 have BO:=ah AR
 obtain⟨x0,x1,_,_⟩:=HX.two
 obtain⟨y0,y1,_,_⟩:=HY.two
 clear hb AR X Y Z hr hg
 go_wp2_with fail
 refine(j_ B m hM _).mono ?_
 rintro e w2⟨rfl,hb2⟩
 have HW2:=ah ((jR.new w1 457 (jT B (bs l) g l.length cap)).later hb2)
 have O5:=ah ((HY.alloc _).later hb2)
 have Vj:=ah ((HX.alloc _).later hb2)
 have HZ2:=ah ((HZ.alloc _).later hb2)
 have am2:=ah ((BO.alloc _).later hb2)
 have HB2:=ah (HB.trans ((kx hb2).mono HB.size))
 have hs2:w1.heap.size+1≤w2.heap.size:=by have:=hb2.size;simpa using this
 clear hb2 x0 x1 y0 y1 HX HY HZ HB BO
 obtain⟨x0,x1,_,_⟩:=Vj.two
 obtain⟨y0,y1,_,_⟩:=O5.two
 rw[HM]
 go_wp2_with fail
 refine(xu _ _).mono ?_
 rintro e w'⟨rfl,rfl⟩
 go_wp2_with fail
 have hR:jR (w2.alloc (.cells #[jL (bs m)] 9)) w2 9 #[jL (bs m)]:=jR.new _ _ _
 have HW3:=ah (HW2.alloc (.cells #[jL (bs m)] 9))
 have HZ3:=ah (HZ2.alloc (.cells #[jL (bs m)] 9))
 have aE1:=ah (am2.alloc (.cells #[jL (bs m)] 9))
 have HB3:=ah (jP HB2 (.cells #[jL (bs m)] 9))
 have hs3:(w2.alloc (.cells #[jL (bs m)] 9)).heap.size=w2.heap.size+1:=by simp
 clear x0 x1 y0 y1 Vj O5 HW2 HZ2 am2 HB2
 generalize w2.alloc (.cells #[jL (bs m)] 9)=V at*
 obtain⟨zs,hzs⟩:=mH (N:=m.length) (bu m.length) (fun p hp=>dh.1 hp)
 have HZS:=ah hzs
 obtain⟨b1,b2,hl,hkl⟩:=oc HR
 obtain⟨_,_,hml,hkm⟩:=oc HM
 have hlm:m.length=l.length:=by rw[hl,hml]
 have hl0:0<l.length:=by rw[hl];exact ee _
 have Df:l.length≤256:=by rw[hl];exact(Ae b1 b2).2
 have aH0:m.length≤256:=by rw[hlm];exact Df
 have Yy:=ah hlm
 have HKL:Hid (Ranks B l):=hkl
 have HKM:Hid (Ranks B m):=hkm
 have hst:Yn V m.length B g w1 cap (bs l) l m [] V:=⟨aE1,HW3,N7 _ _⟩
 clear hzs hl hml hlm hkl hkm
 refine(bi4 (n:=6)).1 ?_
 refine bj9 rfl (by omega) (gf:=259) (lb:=#[jO w2]) rfl trivial (enters_of Tryz.func259 (by kernel_rfl) rfl)
  (yw 5 (by omega) w2 g m hM zs HZS (by omega) V (by omega) hR)
  (fun h k=>l_ h k) (qf (by omega)) (Below.refl _ _) (fun _=>rfl)
  (Yn V m.length B g w1 cap (bs l) l m) (fun _ _ _=>False) (Vg hl0 (by omega)) (fun _ _ _ _ _ h _ _=>h) hst
  (fun x=>{tmps:=#[hV B l,hV B m,.pointer (some ⟨w.heap.size,0,none⟩),.pointer (some ⟨w.heap.size+1,0,none⟩),.pointer (some ⟨w.heap.size+1+1,0,none⟩),.int .i64 0,.pointer (some ⟨w1.heap.size,0,none⟩),.nilIface,.int .i64 (x.1:Int),.int .u8 ((mJ m x.1:Nat):Int),
   .tuple #[.agg (jT B (bs l) g l.length cap),.nilIface],.agg #[.int .i64 B,.string (bs l)],.tuple #[.agg (jT B (bs l) g l.length cap),.nilIface],.agg (jT B (bs l) g l.length cap),.nilIface,.nilIface,.bool true,
   .bool true,.agg #[.int .i64 B,.string (bs m)],.bool true,.bool false,.bool false,.pointer (some ⟨w.heap.size+1,0,none⟩),.int .i64 B,.pointer (some ⟨w.heap.size,0,none⟩),.int .i64 B,.bool false,.bool false,.bool false,undef,undef,.nilIface,.bool false,undef,undef,undef,
   .pointer (some (bS w)),jL (bs m),.func (.func 259) #[] #[jO w2],jJ (x.1:Int),.int .u8 ((mJ m x.1:Nat):Int),undef,undef,undef,undef,undef,undef],defers:=[]}) ?assign ?body ?done ?stop
 case assign=>
  intro l x W K hK;gi_wp2;exact hK
 case body=>
  rintro l' pre⟨p,hp⟩ W⟨hG,hw,hgr⟩ hlt;have hv:=Bk hM p;obtain⟨L,hL'⟩:∃L,mrg l m (pre.map (·.1))=L:=⟨_,rfl⟩;have HLs:Hid (mrg l m ((pre++[(⟨p,hp⟩:At m.length)]).map (·.1))=nS L p (mJ m p)):=by
   show _=_;rw[dH,←hL'];exact Qm l m _ p
  have SP:Hid (L.length=l.length):=by show L.length=_;rw[←hL'];exact si _ _ _
  rw[hL']at hG;clear hL';have hat:p<L.length:=by rw[SP,←Yy];exact hp
  have HW:=ah hw;have HG:=ah hG;have hzW:=hgr.size;obtain⟨c0,c1,c2,c3⟩:=hw.four;have HGR:=ah hgr;clear hG hw hgr;gi_wp2_with fail;refine⟨trivial,?_⟩;have HT:Hid (jE Tryz.prog 304 #[.agg (jT B (bs l) g l.length cap),jJ (p:Int),.int .u8 ((mJ m p:Nat):Int)] W fun e w'=>(∃v,e=.returned v)∧By w' g (nS L p (mJ m p))∧(bY W w' g)):=by
   have:=te B (bs l) g cap p (mJ m p) L W hat (by rw[SP];omega) HG;rw[SP]at this;exact this
  refine(d_ l' (jI.2 HT)).mono ?_;rintro e W2⟨⟨v,rfl⟩,hB2,hg2⟩;gi_wp2_with fail;refine⟨KeepsOthers.of_grownBy hg2 (fun j o e ho=>by cases e;exact HG.Si (by omega) ho),p8 (by omega) hg2,?_,HW.grown hg2 (fun e=>by injection e with e;omega),jW HGR hg2⟩;rw[HLs];exact hB2
 case done=>
  rintro D ys W hD rfl⟨hG,hw,hgr⟩ hK;rw[HZS]at hG;obtain⟨c0,c1,c2,c3⟩:=hw.four;have HG:Hid (By W g (rk l m)):=hG;have HL2:Hid ((rk l m).length=l.length):=si _ _ _;have Lx:Hid (Bytes (rk l m)):=(Ranks.mrg HKL HKM _).bytes;have HZ4:=ah (HZ3.grown hgr (fun e=>by injection e with e;omega));have HB4:=ah (HB3.grown hgr HB3.size (fun k e=>by cases e;omega));have Rg:=hgr.size;clear hG hw hgr;generalize rk l m=L at*
  go_wp2_with fail;refine(EO B (bs l) g l.length cap L HL2 W Lx HG).mono ?_;rintro e w3⟨rfl,hb3⟩;have hZ5:=HZ4.later hb3;obtain⟨y0,y1,f0,f1⟩:=hZ5.two;have hK3:((w3.setCell (aG w) (.int .i64 B)).setCell (bZ w) (.string (bs L))).heap[D]? =some (aY):=by
   rw[Below.heap_setCell _ _ _ _ (show D≠w.heap.size+1+1 by omega),Below.heap_setCell _ _ _ _ (show D≠w.heap.size+1+1 by omega),hb3.block D (oh hK)];exact hK
  have y_:Hid (Below w w ((w3.setCell (aG w) (.int .i64 B)).setCell (bZ w) (.string (bs L)))):=
   ((HB4.trans (hb3.mono HB4.size)).setCell (by show(aU w);omega) _).setCell (by show(aU w);omega) _
  have HD:=ah hK3;have HZ6:Hid (jR ((w3.setCell (aG w) (.int .i64 B)).setCell (bZ w) (.string (bs L))) (aN w) 129 #[jJ B,jL (bs L)]):=(hZ5.kY 0 _).kY 1 _;clear hK3 hb3 hZ5;go_wp2_with fail;refine⟨by simp,.inl ⟨_,_,rfl,bi2 HD,?_⟩⟩;have hZ7:=HZ6.kept (bj5 _ D cJ) (fun r e=>by cases e;exact⟨_,HD,rfl⟩);obtain⟨q0,q1,_,_⟩:=hZ7.two;exact⟨.tuple #[hV B L,jJ 0],by simp[results,Tryz.results320,go_sem,q0,q1],rfl,y_.trans (bj6 (w:=w) aa _ D _ _ (by omega) HD rfl rfl)⟩
 rintro D c pre W _ _ h _
 exact h.elim
theorem merge_any(b c:Int)(l m:List Nat)(hL:Bytes l)(hM:Bytes m)(w:jC):jE Tryz.prog 320 #[hV b l,hV c m] w (yY w (l8 b l c m)):=by
 by_cases h:kD b l=true∧kD c m=true∧c=b
 ·rw[l8,if_pos h];obtain⟨h1,h2,rfl⟩:=h;obtain⟨B,rfl,_⟩:=lh h1;exact jI.1 (Qp B l m w h1 h2)
 rw[l8,if_neg h];exact Nz b c l m hL hM w h
end
def Eo(x l:List Nat)(i:Nat):List Nat:=if mJ x (2*i)=0 then l else nS l i (mJ x (2*i)+1)
def Gx(x l:List Nat)(i:Nat):List Nat:=if mJ x (2*i+1)=0 then l else nS l i 1
def rl(x l:List Nat)(i:Nat):List Nat:=Gx x (Eo x l i) i
def lw(x l:List Nat)(ps:List Nat):List Nat:=ps.foldl (rl x) l
def qy(B:Nat)(x:List Nat):List Nat:=lw x (lz 63 B) (bu (2^B))
theorem Ug(x l:List Nat)(ps:List Nat)(p:Nat):lw x l (ps++[p])=rl x (lw x l ps) p:=by simp[lw]
theorem oe(l:List Nat)(p r:Nat):(nS l p r).length=l.length:=by simp[nS]
theorem GD(x l:List Nat)(i:Nat):(Eo x l i).length=l.length:=by unfold Eo;split<;>simp[oe]
theorem GB(x l:List Nat)(i:Nat):(Gx x l i).length=l.length:=by unfold Gx;split<;>simp[oe]
theorem Gz(x l:List Nat)(i:Nat):(rl x l i).length=l.length:=by unfold rl;rw[GB,GD]
theorem C7(x l:List Nat)(ps:List Nat):(lw x l ps).length=l.length:=by
 induction ps generalizing l with
 |nil=>rfl
 |cons p ps ih=>exact(ih _).trans (Gz _ _ _)
theorem Ranks.rl{B:Nat}{x l:List Nat}(hx:Ranks (B+1) x)(h8:B+1≤8)(h:Ranks B l)(i:Nat):Ranks B (rl x l i):=by
 have h1:Ranks B (Eo x l i):=by
  unfold Eo;split
  ·exact h
  exact h.tell i (by have:=hx.mJ (2*i);omega)
 unfold YtfcnedcahoifoaaGreatDoor.Hl.rl Gx;split
 ·exact h1
 exact h1.tell i jS
theorem Ranks.lw{x:List Nat}(hx:Ranks (B+1) x)(h8:B+1≤8)(h:Ranks B l)(ps:List Nat):Ranks B (lw x l ps):=by
 induction ps generalizing l with
 |nil=>exact h
 |cons p ps ih=>exact ih (Ranks.rl hx h8 h p)
def lR(b:Int)(l:List Nat):Hr:=if kD b l=true∧b≠3 then⟨b-1,qy (b.toNat-1) l,0⟩else E0
theorem xJ(b:Int)(l:List Nat)(hL:Bytes l)(w:jC)(h:kD b l=false):jE Tryz.prog 319 #[hV b l] w (yY w E0):=by
 have H:=ah h;go_in;go_wp2_with fail;refine(j_ b l hL _).mono ?_;rintro e w1⟨rfl,hb⟩;rw[H];have Z1:=jR.new (w.alloc (.cells #[jJ b,jL (bs l)] 129)) 129 #[jJ 0,aF];rw[b_]at Z1;have hZ:=Z1.later hb;have HB:=ah (kx (kx hb));obtain⟨y0,y1,f0,f1⟩:=hZ.two;go_wp2;refine jF (v:=.tuple #[hV 0 [],jJ 70]) (by simp[results,Tryz.results319,go_sem,y0,y1,vL]) rfl ⟨rfl,?_⟩;exact(HB.setCell (by show(aZ w);omega) _).setCell (by show(aZ w);omega) _
theorem Gv(l:List Nat)(hL:Bytes l)(w:jC)(h:kD 3 l=true):jE Tryz.prog 319 #[hV 3 l] w (yY w E0):=by
 have H:=ah h;go_in;go_wp2_with fail;refine(j_ 3 l hL _).mono ?_;rintro e w1⟨rfl,hb⟩;rw[H];have Z1:=jR.new (w.alloc (.cells #[jJ 3,jL (bs l)] 129)) 129 #[jJ 0,aF];have X1:=(jR.new w 129 #[jJ 3,jL (bs l)]).alloc (.cells #[jJ 0,aF] 129);rw[b_]at Z1;have HZ:=ah (Z1.later hb);have hX:=X1.later hb;have HB:=ah (kx (kx hb));obtain⟨x0,x1,_,_⟩:=hX.two;go_wp2_with fail;refine(oG 2 _).mono ?_;rintro e w2⟨hb2,⟨tR,g,hg,rfl,AR⟩|⟨tR,s,rfl⟩⟩
 ·exact absurd tR B8
 have hZ2:=HZ.later hb2;have hs:=hZ2.lt;have hs0:w.heap.size<w2.heap.size:=jS;have HB2:=ah (HB.trans (hb2.mono HB.size));obtain⟨y0,y1,f0,f1⟩:=hZ2.two;go_wp2_with fail;refine(kR s _).mono ?_;rintro e w3⟨rfl,rfl⟩;go_wp2;refine jF (v:=.tuple #[hV 0 [],jJ 70]) (by simp[results,Tryz.results319,go_sem,y0,y1,vL,hs,hs0]) rfl ⟨rfl,?_⟩;exact jP (jP ((HB2.setCell (by show(aZ w);omega) _).setCell (by show(aZ w);omega) _) _) _
theorem DM(b:Int)(s:ByteArray)(g n cap p r:Nat)(l:List Nat)(hn:l.length=n)(w:jC)(hp:p<l.length)(hl:l.length≤65536)(h:By w g l):
 jE Tryz.prog 304 #[.agg (jT b s g n cap),jJ p,.int .u8 r] w fun e w'=>(∃v,e=.returned v)∧By w' g (nS l p r)∧(bY w w' g):=by
 subst hn
 exact te b s g cap p r l w hp hl h
def Zk(w:jC)(b c g bw N:Nat)(x l:List Nat)(wr:jC):Prop:=
 By wr g l∧jR wr bw 457 (jT b ⟨#[]⟩ g N N)∧jR wr w 129 #[jJ (c:Int),jL (bs x)]∧jR wr (w.heap.size+1) 129 #[jJ 0,aF]∧Below w w wr
theorem qx(B C:Nat)(x:List Nat)(w:jC)(h3:3≤B)(hC:C=B+1)(hr:kD C x=true):jE Tryz.prog 319 #[hV C x] w (yY w ⟨B,qy B x,0⟩):=by
 have HR:=ah hr;have hL:=kU hr;obtain⟨_,h8,hxl,hk⟩:=oc hr;have HXL:=ah hxl;have HK:=ah hk;have HC:=ah hC;have hcb:(C:Int)-1=(B:Int):=by omega
 clear hr hxl hk hC;go_in;go_wp2_with fail;refine(j_ _ x hL _).mono ?_;rintro e w1⟨rfl,hb⟩;rw[HR];have Z1:=jR.new (w.alloc (.cells #[jJ (C:Int),jL (bs x)] 129)) 129 #[jJ 0,aF];have X1:=(jR.new w 129 #[jJ (C:Int),jL (bs x)]).alloc (.cells #[jJ 0,aF] 129);rw[b_]at Z1;have HZ:=ah (Z1.later hb);have HX:=ah (X1.later hb);have HB:=ah (kx (kx hb));obtain⟨x0,x1,_,_⟩:=HX.two;go_wp2_with fail;refine(oG B _).mono ?_;rintro e w2⟨hb2,⟨tR,g,hg,rfl,AR⟩|⟨tR,s,rfl⟩⟩
 rotate_left
 ·exact absurd tR (by simp[nO];omega)
 rw[dM]at AR⊢;obtain⟨N,hN,hs1,hs2,hN8,Rx⟩:=Ea h3 (show B≤8 by omega);have HLF:Hid (qy B x=lw x (de N 0) (bu N)):=by show qy B x=_;rw[qy,hN]
 rw[hN]at AR⊢;have hxN:x.length=2*N:=by rw[HXL,HC,iI,hN];omega
 have hsz:=oA x;rw[hxN]at hsz;have HXN:=ah hxN;have hgz:=hg;have HZ2:=HZ.later hb2;have Vj:=HX.later hb2;have zx:=HX.lt;have zz:=HZ.lt;have zg:=AR.lt;have HW2:=jR.new w2 457 (jT B ⟨#[]⟩ g N N);have HI:Zk w B C g w2 N x (lw x (de N 0) (bu 0)) (w2.alloc (.cells (jT B ⟨#[]⟩ g N N) 457)):=⟨AR.alloc _,HW2,Vj.alloc _,HZ2.alloc _,jP (HB.trans (hb2.mono HB.size)) _⟩;go_wp2_with fail;go_loopw[28] (fun i wr=>∃k:Nat,k≤N∧i=.int .i64 k∧Zk w B C g w2 N x (lw x (de N 0) (bu k)) wr) (fun i _=>N-(intOf i).toNat)
 case atStart=>exact⟨0,be _,rfl,HI⟩
 obtain⟨k,hk,rfl,AR,hW,hX,hZ,hBl⟩:=hrel;have hlen:(lw x (de N 0) (bu k)).length=N:=by rw[C7,ey]
 have I3:=ah hlen;obtain⟨c0,c1,c2,c3⟩:=hW.four;obtain⟨x0,x1,_,_⟩:=hX.two;by_cases hlt:k<N
 ·have Bz:Hid (lw x (de N 0) (bu (k+1))=rl x (lw x (de N 0) (bu k)) k):=by show _=_;rw[fV];exact Ug _ _ _ _
  have BO:=ah AR;have HX:=ah hX;have HW:=ah hW;have HZ:=ah hZ;have yb:=ah hBl;have ha:∀h:2*k<(bs x).size,((bs x)[2*k]'h).toNat=mJ x (2*k):=fun h=>Iv hL h;have ha1:∀h:2*k+1<(bs x).size,((bs x)[2*k+1]'h).toNat=mJ x (2*k+1):=fun h=>Iv hL h;have hr1:=HK.mJ (2*k);have hr2:=HK.mJ (2*k+1);generalize lw x (de N 0) (bu k)=L at*
  have i1:(0:Int)≤2*(k:Int):=jS;have i2:2*(k:Int)<2*(N:Int):=jS;have i3:(0:Int)≤2*(k:Int)+1:=jS;have i4:2*(k:Int)+1<2*(N:Int):=jS;rcases Classical.em (mJ x (2*k)=0)with q1|q1<;>rcases Classical.em (mJ x (2*k+1)=0)with q2|q2
  ·have d1:((((mJ x (2*k):Nat):Int))!=0)=false:=by simp;exact q1
   have d2:((((mJ x (2*k+1):Nat):Int))!=0)=false:=by simp;exact q2
   have HS:Hid (rl x L k=L):=by show rl x L k=_;rw[rl,Eo,Gx,if_pos q1,if_pos q2]
   go_wp2;go_roundw
   case rel=>exact⟨k+1,jS,CJ,by rw[Bz,HS];exact BO,HW,HX,HZ,yb⟩
   simp[intOf];omega
  ·have d1:((((mJ x (2*k):Nat):Int))!=0)=false:=by simp;exact q1
   have d2:((((mJ x (2*k+1):Nat):Int))!=0)=true:=by simp;exact q2
   have HS:Hid (rl x L k=nS (L) k 1):=by show rl x L k=_;rw[rl,Eo,Gx,if_pos q1,if_neg q2]
   go_wp2_with fail;refine(DM B ⟨#[]⟩ g N N k (1) (L) I3.out _ (by have:=I3.out;omega) (by have:=I3.out;omega) BO.out).mono ?_;rintro e wt⟨⟨v,rfl⟩,hB2,hg2⟩;have BO:=ah hB2;have HX:=ah (HX.grown hg2 (fun e=>LR));have HW:=ah (HW.grown hg2 (fun e=>LR));have HZ:=ah (HZ.grown hg2 (fun e=>LR));have yb:=ah (yb.grown hg2 yb.size (fun k e=>TP));have aC6:Hid ((nS (L) k (1)).length=N):=by show _=_;rw[oe];exact I3
   obtain⟨c0,c1,c2,c3⟩:=HW.four;obtain⟨x0,x1,_,_⟩:=HX.two;go_wp2;go_roundw
   case rel=>exact⟨k+1,jS,CJ,by rw[Bz,HS];exact BO,HW,HX,HZ,yb⟩
   simp[intOf];omega
  ·have d1:((((mJ x (2*k):Nat):Int))!=0)=true:=by simp;exact q1
   have d2:((((mJ x (2*k+1):Nat):Int))!=0)=false:=by simp;exact q2
   have HS:Hid (rl x L k=nS L k (mJ x (2*k)+1)):=by show rl x L k=_;rw[rl,Eo,Gx,if_neg q1,if_pos q2]
   go_wp2_with fail;refine(DM B ⟨#[]⟩ g N N k (mJ x (2*k)+1) (L) I3.out _ (by have:=I3.out;omega) (by have:=I3.out;omega) BO.out).mono ?_;rintro e wt⟨⟨v,rfl⟩,hB2,hg2⟩;have BO:=ah hB2;have HX:=ah (HX.grown hg2 (fun e=>LR));have HW:=ah (HW.grown hg2 (fun e=>LR));have HZ:=ah (HZ.grown hg2 (fun e=>LR));have yb:=ah (yb.grown hg2 yb.size (fun k e=>TP));have SQ:Hid ((nS (L) k (mJ x (2*k)+1)).length=N):=by show _=_;rw[oe];exact I3
   obtain⟨c0,c1,c2,c3⟩:=HW.four;obtain⟨x0,x1,_,_⟩:=HX.two;go_wp2;go_roundw
   case rel=>exact⟨k+1,jS,CJ,by rw[Bz,HS];exact BO,HW,HX,HZ,yb⟩
   simp[intOf];omega
  have d1:((((mJ x (2*k):Nat):Int))!=0)=true:=by simp;exact q1
  have d2:((((mJ x (2*k+1):Nat):Int))!=0)=true:=by simp;exact q2
  have HS:Hid (rl x L k=nS (nS L k (mJ x (2*k)+1)) k 1):=by show rl x L k=_;rw[rl,Eo,Gx,if_neg q1,if_neg q2]
  go_wp2_with fail;refine(DM B ⟨#[]⟩ g N N k (mJ x (2*k)+1) (L) I3.out _ (by have:=I3.out;omega) (by have:=I3.out;omega) BO.out).mono ?_;rintro e wt⟨⟨v,rfl⟩,hB2,hg2⟩;have BO:=ah hB2;have HX:=ah (HX.grown hg2 (fun e=>LR));have HW:=ah (HW.grown hg2 (fun e=>LR));have HZ:=ah (HZ.grown hg2 (fun e=>LR));have yb:=ah (yb.grown hg2 yb.size (fun k e=>TP));have SQ:Hid ((nS (L) k (mJ x (2*k)+1)).length=N):=by show _=_;rw[oe];exact I3
  obtain⟨c0,c1,c2,c3⟩:=HW.four;obtain⟨x0,x1,_,_⟩:=HX.two;go_wp2_with fail;refine(DM B ⟨#[]⟩ g N N k (1) (nS L k (mJ x (2*k)+1)) SQ.out _ (by have:=SQ.out;omega) (by have:=SQ.out;omega) BO.out).mono ?_;rintro e wt⟨⟨v,rfl⟩,hB2,hg2⟩;have BO:=ah hB2;have HX:=ah (HX.grown hg2 (fun e=>LR));have HW:=ah (HW.grown hg2 (fun e=>LR));have HZ:=ah (HZ.grown hg2 (fun e=>LR));have yb:=ah (yb.grown hg2 yb.size (fun k e=>TP));have aC6:Hid ((nS (nS L k (mJ x (2*k)+1)) k (1)).length=N):=by show _=_;rw[oe];exact SQ
  obtain⟨c0,c1,c2,c3⟩:=HW.four;obtain⟨x0,x1,_,_⟩:=HX.two;go_wp2;go_roundw
  case rel=>exact⟨k+1,jS,CJ,by rw[Bz,HS];exact BO,HW,HX,HZ,yb⟩
  simp[intOf];omega
 obtain rfl:k=N:=jS;rw[←HLF]at AR I3;have BO:=ah AR;have HZ:=ah hZ;have yb:=ah hBl;have Lx:Hid (Bytes (qy B x)):=by
  show Bytes _;have hk:=HK;rw[HC]at hk;exact(Ranks.lw hk jS (r7 B _) _).bytes
 generalize qy B x=L at*
 go_wp2_with fail;refine(EO B ⟨#[]⟩ g k k L I3 wr Lx BO).mono ?_;rintro e w3⟨rfl,hb3⟩;have hZ5:=HZ.later hb3;obtain⟨y0,y1,f0,f1⟩:=hZ5.two;go_wp2;refine jF (v:=.tuple #[hV B L,jJ 0]) (by simp[results,Tryz.results319,go_sem,y0,y1]) rfl ⟨rfl,?_⟩;exact((yb.trans (hb3.mono yb.size)).setCell (by show(aZ w);omega) _).setCell (by show(aZ w);omega) _
theorem rL(b:Int)(l:List Nat)(hL:Bytes l)(w:jC):jE Tryz.prog 319 #[hV b l] w (yY w (lR b l)):=by
 by_cases h:kD b l=true
 ·by_cases h3:b=3
  ·subst h3;rw[lR,if_neg lV];exact Gv l hL w h
  rw[lR,if_pos ⟨h,h3⟩];obtain⟨C,rfl,q1,q2,_⟩:=lh h;have:=qx (C-1) C l w jS jS h;rw[show(((C-1:Nat)):Int)=(C:Int)-1 by omega]at this;exact this
 rw[lR,if_neg (fun e=>h e.1)];exact xJ b l hL w S6
section
attribute [local go_sem] db
def ra(g:Nat)(A B:jC):Prop:=A.heap.size≤B.heap.size∧B.heap[g]? =A.heap[g]?
theorem Et(g:Nat)(A:jC):ra g A A:=⟨ay _,rfl⟩
theorem Da{A B C:jC}(h:ra g A B)(k:ra g B C):ra g A C:=⟨a_ h.1 k.1,k.2.trans h.2⟩
theorem NN(hg:g<w.heap.size)(W:jC)(l:Nat)(o o':Obj)(hl:w.heap.size≤l)(h:W.heap[l]? =some o)(_:o.isCells=false)(_:o.isWalk=false):ra g W (W.putObj l o'):=by
 have h1:=bj6 aa W l o o' hl h ‹_› ‹_›;exact⟨h1.size,h1.block g hg⟩
theorem D_(n:Nat)(hn:1≤n)(Bs:Nat)(ls:List Nat)(hL:Bytes ls)(zs:List (At ls.length))(hzs:zs.map (·.1)=bu ls.length)(hreach:ls.length≤65536)(w:jC)
 (hB:jR w Bs 9 #[jL (bs ls)]):
 bl1 cz n Tryz.prog 259 #[jO Bs] (fun x:At ls.length=>#[br .i64 (x.1:Int),br .u8 ((mJ ls x.1:Nat):Int)]) (ra Bs) (fun ys=>ys=zs) (fun pre=>pre <+: zs) ls.length w:=fun l J Jx W hW _ _ hY h0=>by
 have hlen:zs.length=ls.length:=by rw[←ax (f:=(·.1)),hzs,fo]
 have hsz:=oA ls
 have HZ:=ah hzs
 have hB0:=hB.later hW
 have HB:=ah hB
 have hcb:=hB0.one
 have HW:=ah hW
 clear hzs hB hB0 hW
 refine bj1 Tryz.func259 rfl trivial ?_ rfl
 simp only[Tryz.ntmps259,xb,ao,dk]
 gi_wp2
 gi_loopw[6] (fun i wr=>∃k:Nat,k≤zs.length∧i=.int .i64 k∧J (zs.take k) wr∧ra Bs W wr)
  (fun i _=>zs.length-(intOf i).toNat)
 case atStart=>exact⟨0,be _,rfl,h0,Et _ _⟩
 obtain⟨k,hk,rfl,hJs,hnx⟩:=hrel
 by_cases hlt:k<zs.length
 ·have hcx':wr.cell? ⟨Bs,0,none⟩=some (.string (bs ls)):=(co hnx.2).trans hcb;have hx:(zs[k]).1=k:=by
   have:=congrArg (fun t=>t[k]?) HZ;simp[hlt,hlen▸hlt]at this;exact this
  have ht:zs.take (k+1)=zs.take k++[zs[k]]:=aj hlt;have HT:=ah ht;obtain⟨fn,tmps,assign,body,hy,hR⟩:=hY _ (zs[k]) wr hJs (by simp;omega);rw[hx]at hy;have ha:∀h:k<(bs ls).size,((bs ls)[k]'h).toNat=mJ ls k:=fun h=>Iv hL h;clear hx ht hcb;gi_wp2;try simp only[ha]
  gi_wp2;refine hR.mono ?_;rintro e W3(⟨rfl,hJ3,hk3⟩|⟨rfl,hJx3⟩)
  ·gi_wp2;go_roundw
   case rel=>exact⟨k+1,by omega,by simp,by rw[HT];exact hJ3,Da hnx hk3⟩
   simp[intOf];omega
  gi_wp2;refine jF (bj7 rfl _ _ _) rfl ?_;refine⟨⟨_,rfl⟩,.inr ⟨_,?_,hJx3⟩⟩;rw[←HT];exact eS _ _
 obtain rfl:k=zs.length:=by omega
 gi_wp2
 go_end0
 exact⟨⟨_,rfl⟩,.inl ⟨_,dP,hJs⟩⟩
def wt(r:Nat):Nat:=2^(32-min r 32)
def rf(l:List Nat)(ps:List Nat):Bool:=ps.any fun p=>decide (mJ l p≠0)
def qS(l:List Nat)(ps:List Nat):Nat:=(ps.map fun p=>wt (mJ l p)).sum
def cntF(l:List Nat)(ps:List Nat):Nat:=if rf l ps=true then 7*l.length*l.length*4294967296/(10*qS l ps)else 0
def vH(b:Int)(l:List Nat):Nat:=if kD b l=true then cntF l (cK l)else 0
theorem VJ(r:Nat):1≤wt r∧wt r≤4294967296:=
 ⟨ee _,a_ (ep B8 (show 32-min r 32≤32 by omega)) B8⟩
theorem FP(l ps:List Nat)(p:Nat):rf l (ps++[p])=(rf l ps||decide (mJ l p≠0)):=by simp[rf]
theorem Jl(l ps:List Nat)(p:Nat):qS l (ps++[p])=qS l ps+wt (mJ l p):=by simp[qS]
theorem FH(l ps:List Nat):ps.length≤qS l ps∧qS l ps≤ps.length*4294967296:=by
 induction ps with
 |nil=>simp[qS]
 |cons p ps ih=>
  have:=VJ (mJ l p);simp only[qS,df,List.sum_cons,c_]at ih⊢;omega
theorem WF(su r:Nat)(h:su≤1099511627776):IntKind.u64.wrap ((su:Int)+IntKind.u64.wrap (2^(32-min ((r:Nat):Int) 32).toNat))=((su+wt r:Nat):Int):=by
 have h1:=VJ r;have e:(2:Int)^(32-min ((r:Nat):Int) 32).toNat=((wt r:Nat):Int):=by
  rw[show(32-min ((r:Nat):Int) 32).toNat=32-min r 32 by omega];simp[wt]
 rw[e];simp only[iw];omega
theorem Ub(n:Nat):((n:Int)!=0)=decide (n≠0):=by
 rw[gU];simp
theorem xS(b:Int)(l:List Nat)(hL:Bytes l)(w:jC)(h:kD b l=false):jE Tryz.prog 318 #[hV b l] w fun e w'=>e=.returned (.int .u64 0)∧Below w w w':=by
 have H:=ah h;go_in;go_wp2_with fail;refine(j_ b l hL _).mono ?_;rintro e w1⟨rfl,hb⟩;rw[H];have HB:=ah (kx hb);go_wp2;go_ret;exact⟨rfl,HB⟩
def WE(V:jC)(N bs_:Nat)(l:List Nat)(pre:List (At N))(W:jC):Prop:=
 jR W bs_ 4 #[.bool (rf l (pre.map (·.1)))]∧jR W (bs_+1) 22 #[jK ((qS l (pre.map (·.1)):Nat):Int)]∧Below bs_ V W
theorem Ff{V:jC}{N:Nat}{Bd:Nat}(hB:b≤V.heap.size)(hV:V.heap.size≤Bd):bj3 Bd (WE V N b l):=by
 rintro pre W W' row⟨h1,h2,h4⟩ hg hr;have hr':∀r,row=some r→(aH W r):=fun r e=>(hr r e).2;exact⟨h1.kept hg hr',h2.kept hg hr',h4.grown hg (a_ hB h4.size) (fun k e=>by have:=(hr k e).1;omega)⟩
theorem R8(B:Nat)(l:List Nat)(w:jC)(hr:kD B l=true):
 bj2 cz 6 Tryz.prog 318 #[hV B l] w fun e w'=>e=.returned (.int .u64 ((cntF l (bu l.length):Nat):Int))∧Below w w w':=by
 have HR:=ah hr
 have hL:=kU hr
 obtain⟨b1,b2,hl,hk⟩:=oc hr
 have hl8:8≤l.length:=by rw[hl];exact(Ae b1 b2).1
 have Df:l.length≤256:=by rw[hl];exact(Ae b1 b2).2
 have hsz:=oA l
 clear hr hl hk
 refine bi7 Tryz.func318 rfl trivial ?_ rfl
 simp only[Tryz.ntmps318,xb,ao,dk]
 refine bi4.2 ?_
 go_wp2_with fail
 refine(j_ B l hL _).mono ?_
 rintro e w1⟨rfl,hb⟩
 rw[HR]
 have X1:=(jR.new w 129 #[jJ B,jL (bs l)]).later hb
 have HX:=ah X1
 have HB:=ah (kx hb)
 have zx:=X1.lt
 obtain⟨x0,x1,_,_⟩:=X1.two
 clear hb X1
 go_wp2_with fail
 refine(xu _ _).mono ?_
 rintro e w'⟨rfl,rfl⟩
 go_wp2_with fail
 obtain⟨S,U,R⟩:=ui w1 #[.bool false] #[jK 0] #[jL (bs l)] 4 22 9
 have hb0:Below w1 w1 (((w1.alloc (.cells #[.bool false] 4)).alloc (.cells #[jK 0] 22)).alloc (.cells #[jL (bs l)] 9)):=jP (jP (jP (jQ _) _) _) _
 have hz:(((w1.alloc (.cells #[.bool false] 4)).alloc (.cells #[jK 0] 22)).alloc (.cells #[jL (bs l)] 9)).heap.size=w1.heap.size+3:=lV
 obtain⟨zs,hzs⟩:=mH (N:=l.length) (bu l.length) (fun p hp=>dh.1 hp)
 have HZS:=ah hzs
 have HX:=ah (HX.later hb0)
 have HB:=ah (HB.trans (hb0.mono HB.size))
 generalize((w1.alloc (.cells #[.bool false] 4)).alloc (.cells #[jK 0] 22)).alloc (.cells #[jL (bs l)] 9)=V at*
 have hst:WE V l.length w1 l [] V:=⟨S,U,Below.refl _ _⟩
 have HRs:=ah R
 refine(bi4 (n:=6)).1 ?_
 refine bj9 rfl jS (gf:=259) (lb:=#[.pointer (some ⟨w1.heap.size+1+1,0,none⟩)]) rfl trivial (enters_of Tryz.func259 oo rfl)
  (D_ 5 jS (w1.heap.size+1+1) l hL zs HZS jS V R)
  (fun h k=>Da h k) (NN jS) (Below.refl _ _) (fun _=>rfl)
  (WE V l.length w1 l) (fun _ _ _=>False) (Ff jS aa) (fun _ _ _ _ _ h _ _=>h) hst
  (fun x=>{tmps:=#[hV B l,aV w,.int .u64 0,aV w1,.pointer (some (aE w1)),undef,.int .u8 ((mJ l x.1:Nat):Int),undef,
   .agg #[.int .i64 B,.string (bs l)],.bool true,.bool false,.pointer (some ⟨w.heap.size,1,none⟩),.string (bs l),.func (.func 259) #[] #[.pointer (some (aG w1))],.int .i64 (x.1:Int),.int .u8 ((mJ l x.1:Nat):Int),
   undef,undef,undef,undef,undef,undef,undef,undef,undef,undef,undef,undef,undef,undef,undef,undef,undef,undef,undef,undef,undef,undef,undef,undef,undef],defers:=[]}) ?assign ?body ?done ?stop
 case assign=>
  intro l x W K hK;gi_wp2;exact hK
 case body=>
  rintro l' pre⟨p,hp⟩ W⟨hS,hU,hb⟩ hlt;have hv:=Bk hL p;have hsum:=FH l (pre.map (·.1));rw[ax]at hsum;have HSs:Hid (rf l ((pre++[(⟨p,hp⟩:At l.length)]).map (·.1))=(rf l (pre.map (·.1))||decide (mJ l p≠0))):=by
   show _=_;rw[dH];exact FP l _ p
  have HUs:Hid (qS l ((pre++[(⟨p,hp⟩:At l.length)]).map (·.1))=qS l (pre.map (·.1))+wt (mJ l p)):=by
   show _=_;rw[dH];exact Jl l _ p
  generalize rf l (pre.map (·.1))=sm at*
  generalize qS l (pre.map (·.1))=su at*
  have HS:=ah hS;have HU:=ah hU;have S1:=ah hb;have cs:=hS.one;have fs:=hS.frozen 0;have cu:=hU.one;have fu:=hU.frozen 0;have zs:=hS.lt;have zu:=hU.lt;have HV:=ah (WF su (mJ l p) jS);have HK:Hid (∀x y,ra (aN w1) W ((W.setCell ⟨w1,0,none⟩ x).setCell (aE w1) y)):=fun x y=>
   ⟨by simp[bj],by rw[Below.heap_setCell _ _ _ _ (show w1.heap.size+1+1≠w1.heap.size+1 by omega),Below.heap_setCell _ _ _ _ (show w1.heap.size+1+1≠w1.heap.size by omega)]⟩
  have HF:Hid (∀x y,WE V l.length w1 l (pre++[(⟨p,hp⟩:At l.length)]) ((W.setCell ⟨w1,0,none⟩ (.bool x)).setCell (aE w1) (.int .u64 y))∨¬(x=(sm||decide (mJ l p≠0))∧y=((su+wt (mJ l p):Nat):Int))):=by
   intro x y;by_cases hxy:x=(sm||decide (mJ l p≠0))∧y=((su+wt (mJ l p):Nat):Int)
   ·refine .inl ⟨?_,?_,(S1.setCell aa _).setCell (by show(aZ w1);omega) _⟩
    ·rw[HSs,←hxy.1];exact(HS.kY 0 _).far (by show w1.heap.size≠w1.heap.size+1;omega) _
    rw[HUs,←hxy.2];exact(HU.far (by show(dL w1);omega) _).kY 0 _
   exact .inr hxy
  cases sm with
  |true=>
   gi_wp2_with fail;refine⟨(b7 _ _ _).trans (b7 _ _ _),HK _ _,?_⟩;exact(HF _ _).resolve_right (fun h=>h ⟨rfl,HV⟩)
  |false=>
   gi_wp2_with fail;refine⟨(b7 _ _ _).trans (b7 _ _ _),HK _ _,?_⟩;exact(HF.out _ _).resolve_right (fun h=>h ⟨by simp[Ub],HV.out⟩)
 case done=>
  rintro D ys W hD rfl⟨hS,hU,hb⟩ hK;rw[HZS]at hS hU;have cs:=hS.one;have cu:=hU.one;have hX:=HX.below hb jS;obtain⟨x0,x1,_,_⟩:=hX.two;have Th:=ah (HB.trans (hb.mono jS));have hsum:=FH l (cK l);rw[fo]at hsum;have Wv:=ah hK;have Zy:Hid (cntF l (cK l)=if rf l (cK l)=true then 7*l.length*l.length*4294967296/(10*qS l (cK l))else 0):=rfl;have HD5:=ah (Th.trans (bj6 (w:=w) aa _ D _ cJ jS hK rfl rfl));have hq:∃q:Nat,7*l.length*l.length=q∧q≤458752:=⟨_,rfl,io (Nat.mul_le_mul_left 7 Df) Df⟩;obtain⟨q,hq1,hq2⟩:=hq;have hq3:IntKind.u64.wrap (7*(l.length:Int)*(l.length:Int))=(q:Int):=by
   rw[←hq1,iw];have e:7*(l.length:Int)*(l.length:Int)=((7*l.length*l.length:Nat):Int):=lV;rw[e,hq1];omega
  have HQ:=ah hq1;obtain⟨hs1,hs2⟩:=hsum;generalize qS l (cK l)=su at*
  cases hsm:rf l (cK l)with
  |false=>
   rw[hsm]at cs Zy;have HC:Hid (cntF l (cK l)=0):=by show cntF _ _=0;rw[Zy];simp
   go_wp2_with fail;refine⟨lV,.inl ⟨_,_,rfl,bi2 Wv,?_⟩⟩;exact⟨.int .u64 0,by simp[results,Tryz.results318,go_sem],by rw[HC];rfl,HD5⟩
  |true=>
   rw[hsm]at cs Zy;have HC:Hid (((cntF l (cK l):Nat):Int)=(q:Int)*4294967296/(10*(su:Int))):=by show((cntF _ _:Nat):Int)=_;rw[Zy,HQ];simp
   go_wp2_with fail;refine⟨lV,.inl ⟨_,_,rfl,bi2 Wv,?_⟩⟩;refine⟨.int .u64 ((q:Int)*4294967296/(10*(su:Int))),by simp[results,Tryz.results318,go_sem],by rw[HC],HD5⟩
 rintro D c pre W _ _ h _
 exact h.elim
theorem count_any(b:Int)(l:List Nat)(hL:Bytes l)(w:jC):jE Tryz.prog 318 #[hV b l] w fun e w'=>e=.returned (.int .u64 ((vH b l:Nat):Int))∧Below w w w':=by
 by_cases h:kD b l=true
 ·rw[vH,if_pos h];obtain⟨B,rfl,_⟩:=lh h;exact jI.1 (R8 B l w h)
 rw[vH,if_neg h];exact xS b l hL w S6
end
end Hl
end Go.Proofs.YtfcnedcahoifoaaGreatDoor

import Derived.Test.YtfcnedcahoifoaaGreatDoorC
namespace Go.Proofs.YtfcnedcahoifoaaGreatDoor
open Go.RowKit
open _root_.Array renaming getElem?_eq_none→fH,getElem?_eq_some_iff→aw,replicate→fF
open _root_.Bool renaming and_eq_true→ba,eq_iff_iff→gU,or_eq_true→ft
open _root_.ByteArray renaming size→iG
open _root_.Go renaming Addr→jG,Boxed→bl3,CallsIn→bj2,Calls→jE,Code→bk9,Ending→bi6,KeepsOthers→bj4,OwnFrom→bj3,Program→bi3,SeqStopsK→bl1,TypeId→jH,Value→jD,World→jC,YieldAt→bl4,belowK_b→bj6,bodyPost_ret→jF,callsIn_of_wp_marks→bi7,callsIn_of_wp→bj1,callsIn_wide→jI,grownBy_putObj'→bj5,info_parts→bi5,results_none→bj7,run_takeDeferred→bi2,wpIn_rangeFunc_ownF→bj9,wpIn_wide→bi4,wp_region_held_drew→bi1
open _root_.Go.Boxed renaming new→jx
open _root_.Go.CallsIn renaming inRound→d_
open _root_.Go.Ending renaming returned→ff
open _root_.Go.Exit renaming noGoto_ret→cf
open _root_.Go.Fence renaming wide→cz
open _root_.Go.Instr renaming typeAssert→dd
open _root_.Go.IntKind renaming wrap_u64→iw
open _root_.Go.KeepsOthers renaming setCell→b7
open _root_.Go.Lib renaming bitLenAux→gY
open _root_.Go.Oper renaming semAt_some→db
open _root_.Go.Value renaming int→br,oneCell'→eu
open _root_.Go.World renaming alloc_heap_new→du,cell?_of_block→co,cell?_setCell_other→eX,cell?→fJ,frozen?→ju,setCell→bj,size_alloc→b_
open _root_.Int renaming toNat_natCast→dM
open _root_.List renaming all_eq_true→dZ,drop_eq_nil_of_le→ei,eq_of_mem_replicate→gh,getElem?_set→jq,getElem_map→gD,getElem_of_mem→dR,length_cons→c_,length_map→ax,length_range→fo,length_replicate→ey,length_set→eq,map_append→dH,map_cons→df,mem_cons_of_mem→dS,mem_cons→cw,mem_map→dq,mem_of_getElem?→cm,mem_of_mem_drop→eJ,mem_or_eq_of_mem_set→dO,mem_range→dh,mem_singleton→eM,pairwise_append→il,pairwise_cons→b6,pairwise_iff_getElem→cj,range_succ→fV,range→bu,replicate→de,take_length→dP,take_prefix→eS,take_sublist→js,take_succ_eq_append_getElem→aj
open _root_.Nat renaming div_lt_of_lt_mul→iZ,eq_zero_or_pos→fM,le_refl→ay,le_succ→dU,le_trans→a_,lt_of_lt_of_le→cn,lt_or_ge→fB,lt_succ_self→fA,mod_lt→jj,mul_le_mul_right→fZ,mul_le_mul→io,mul_lt_mul_of_pos_right→ig,pow_add→im,pow_le_pow_right→ep,pow_succ→iI,reduceAdd→ao,reduceSub→dk,two_pow_pos→ee,zero_add→au,zero_le→be,zero_mul→fh
open _root_.UInt8 renaming ofNat→gH,toNat_ofNat'→ji
open _root_.Bool renaming false→u?,true→t?
open _root_.Go.Ending renaming returned→a?
open _root_.Go.IntKind renaming i64→o?,u64→n?,u8→p?
open _root_.Go.Obj renaming cells→m?
open _root_.Go.Value renaming agg→g?,bool→h?,iface→i?,int→c?,nilIface→j?,slice→b?,string→f?,tuple→d?
open _root_.Option renaming none→Z,some→M
open _root_.Or renaming inl→r?,inr→s?
open _root_ renaming Array→x?,Bool→z?,ByteArray→v?,Int→I,List→E,Nat→O,Option→w?,absurd→H?,congrArg→C?,decide_eq_true_eq→D?,if_neg→A?,if_pos→B?
set_option maxRecDepth 100000
set_option maxHeartbeats 16000000
set_option linter.unusedVariables false
set_option linter.unusedSimpArgs false
set_option linter.defProp false
instance aX1(x0:w? jG)(x1:E I)(x2:O):CoeOut (IP 48 x0 x1 x2) Obj:=⟨λ_=>(m? #[jN x0 x1 x2] 33)⟩
structure SdC where
def dC:SdC:=⟨⟩
instance aU2:CoeOut SdC Obj:=⟨λ_=>(m? #[j?] 171)⟩
namespace Ex
def mN(l:E I):Prop:=∀i j,i<j->j<l.length->nth l i<nth l j
variable{l:E I}
def PT(h:mz l l.length=t?):mN l:=by
 simp only[mz,dZ,dh,ft,D?]at h;intro i j b e;induction j with
 |zero=>omega
 |succ j c=>
  have d:nth l j<nth l (j+1):=by
   rcases h (j+1) e with h|h
   .omega
   simpa using h
  by_cases a:i=j
  .subst a;exact d
  have:=c jS jS;omega
def JA(h:mN l):mz l l.length=t?:=by
 simp only[mz,dZ,dh,ft,D?];intro i a;by_cases b:i=0
 .exact r? b
 exact s? (h (i-1) i jS a)
def mS:kg l=t?↔l.length<=64/\mN l:=by
 simp only[kg,ba,D?];exact⟨λh=>⟨h.1,PT h.2⟩,λh=>⟨h.1,JA h.2⟩⟩
def lb(l:E I)(n:I):O:=l.countP λx=>decide (x<n)
def C_(l:E I)(n:I):lb l n<=l.length:=List.countP_le_length
def pC(x:I)(l:E I)(k:O):nth (x::l) (k+1)=nth l k:=by simp[nth]
def rj(x:I)(l:E I):nth (x::l) 0=x:=by simp[nth]
variable{x:I}
def mN.tail(h:mN (x::l)):mN l:=λi j a b=>by
 have:=h (i+1) (j+1) jS mO;simpa[pC]using this
variable{k:O}
def LW(h:k<l.length):nth l k∈l:=by simp[nth,h]
def zj(h:x∈l):∃k,k<l.length/\nth l k=x:=by
 obtain⟨k,a,e⟩:=dR h;exact⟨k,a,by simp[nth,a,e]⟩
def mN.Mi(h:mN (x::l)){y:I}(a:y∈l):x<y:=by
 obtain⟨k,b,rfl⟩:=zj a;have:=h 0 (k+1) jS mO;simpa[pC,rj]using this
def qr(h:mN l)(n:I):∀k,k<l.length->(nth l k<n↔k<lb l n):=by
 induction l with
 |nil=>intro k a;simp at a
 |cons x l f=>
  intro k a;by_cases b:x<n
  .have e:lb (x::l) n=lb l n+1:=by simp[lb,b]
   rw[e]
   cases k with
   |zero=>rw[rj];exact⟨λ_=>jS,λ_=>b⟩
   |succ k=>rw[pC,f h.tail k (by simpa using a)];omega
  have c:lb l n=0:=by
   rw[lb,List.countP_eq_zero];intro y g;have:=h.Mi g;simp;omega
  have e:lb (x::l) n=0:=by
   have d:lb (x::l) n=lb l n:=by simp[lb,b]
   rw[d,c]
  rw[e]
  cases k with
  |zero=>rw[rj];omega
  |succ k=>
   rw[pC];have:=h.Mi (LW (l:=l) (k:=k) (by simpa using a));omega
def Ll(l:E I)(k:O)(n:I):z?:=decide (k<l.length/\nth l k=n)
def ins(l:E I)(n:I):E I:=if Ll l (lb l n) n=t? then l else l.take (lb l n)++n::l.drop (lb l n)
variable{n:I}
def UX(h:Ll l k n=t?):n∈l:=by
 simp only[Ll,D?]at h;rw[<-h.2];exact LW h.1
def L6(b:mN l)(h:n∈l):Ll l (lb l n) n=t?:=by
 obtain⟨k,c,rfl⟩:=zj h;have f:=qr b (nth l k) k c;have e:lb l (nth l k)<=k:=jS;have a:lb l (nth l k)<l.length:=jS;have g:=qr b (nth l k) (lb l (nth l k)) a;simp only[Ll,D?];refine⟨a,?_⟩;rcases fB (lb l (nth l k)) k with d|d
 .have:=b _ k d c;omega
 have:lb l (nth l k)=k:=jS;rw[this]
def UY(a:mN l):Ll l (lb l n) n=decide (n∈l):=by
 by_cases h:n∈l
 .simp[h,L6 a h]
 cases e:Ll l (lb l n) n with
 |false=>simp[h]
 |true=>exact H? (UX e) h
def Ke(b:mN l):(ins l n).length=if n∈l then l.length else l.length+1:=by
 have a:=C_ l n;unfold ins;rw[UY b];by_cases h:n∈l
 .simp[h]
 simp[h];omega
def tw:mN l↔l.Pairwise (·< ·):=by
 rw[cj];constructor
 .intro h i j c b a;have:=h i j a b;simpa[nth,c,b]using this
 intro h i j a b;have:=h i j jS b a;have c:i<l.length:=jS;simpa[nth,c,b]using this
def J5(c:mN l)(h:x∈l.take (lb l n)):x<n:=by
 obtain⟨k,b,rfl⟩:=zj h;have a:k<l.length/\k<lb l n:=by simp at b;omega
 have e:nth (l.take (lb l n)) k=nth l k:=by simp[nth,a.2]
 rw[e];exact(qr c n k a.1).2 a.2
def Az(c:mN l)(h:x∈l.drop (lb l n)):n<=x:=by
 obtain⟨k,b,rfl⟩:=zj h;have a:lb l n+k<l.length:=by simp at b;omega
 have e:nth (l.drop (lb l n)) k=nth l (lb l n+k):=by simp[nth]
 rw[e];have:=qr c n (lb l n+k) a;omega
def CH(a:mN l):mN (ins l n):=by
 unfold ins;split
 .exact a
 rename_i h;have c:n∉l:=λj=>h (L6 a j);have f:=tw.1 a;rw[tw,il];refine⟨f.sublist (js _ _),?_,?_⟩
 .rw[b6];refine⟨λx b=>?_,f.sublist (List.drop_sublist _ _)⟩;have g:=Az a b;have k:x≠n:=λe=>c (e▸eJ b);omega
 intro x b y d;have g:=J5 a b;rcases cw.1 d with rfl|d
 .exact g
 have:=Az a d;omega
def kp(l m:E I):E I:=m.foldl ins l
def GW(l m:E I)(x:I):kp l (m++[x])=ins (kp l m) x:=by simp[kp]
def Cf(l m k:E I):kp l (m++k)=kp (kp l m) k:=by simp[kp]
def pY(a:mN l)(m:E I):mN (kp l m):=by
 induction m generalizing l with
 |nil=>exact a
 |cons x m b=>exact b (CH a)
def Ce(a:mN l):l.length<=(ins l n).length/\(ins l n).length<=l.length+1:=by
 rw[Ke a];split<;>omega
def xK(a:mN l)(m:E I):l.length<=(kp l m).length:=by
 induction m generalizing l with
 |nil=>exact ay _
 |cons x m b=>exact a_ (Ce a).1 (b (CH a))
def tN{p m:E I}(a:mN l)(h:p <+: m):(kp l p).length<=(kp l m).length:=by
 obtain⟨k,rfl⟩:=h;rw[Cf];exact xK (pY a p) k
def Ml(w:jC)(x:I)(i:O)(d:x=(i:I))(p q b off c:O)(l:E I)(n:I)(hi:i<l.length)(g:w.cell? ⟨p,0,Z⟩=M (b? (bH b off) l.length c)) (m:(bI w q n))(j:w.cell? ⟨b,off+i,Z⟩=M (c? n? (nth l i))) (h:l.length<=9223372036854775807) (r:z?) (a:decide (n<=nth l i)=r):jE Tryz.prog 310 #[jJ x,jO p,jO q] w λe w'=>e=a? (h? r)/\∃k,w'=w.drewN k:=by
 subst d;have H:=ah a;clear a;have f:(i:I)<l.length:=by omega
 go_in;go_wp2;go_quiet(fail);go_wp2;go_ret;exact⟨jU H,_,rfl⟩
def Jv(w:jC)(p q c B:O)(A:w? jG)(l:E I)(n:I)(J:mN l)(x:w.cell? ⟨p,0,Z⟩=M (cZ A l c)) (z:(bI w q n)) (G:Sl w B A l) (Q:l.length<=1152921504606846976):jE Tryz.prog 309 #[jJ l.length,.func (.func 310) #[] #[jO p,jO q]] w λe w'=>e=a? (.int o? (lb l n:O))/\∃k,w'=w.drewN k:=by
 have v:=C_ l n;go_in;go_wp2_with fail;go_loopw[5,6] (λi j wr=>∃a d m:O,i=.int o? a/\j=.int o? d/\a<=lb l n/\lb l n<=d/\d<=l.length/\wr=w.drewN m) (λi j _=>(intOf j).toNat-(intOf i).toNat)
 case atStart=>exact⟨0,l.length,0,rfl,rfl,be _,v,ay _,rfl⟩
 obtain⟨a,d,m,rfl,rfl,C,N,F,rfl⟩:=hrel;by_cases K:a<d
 .obtain⟨b,h,rfl,_,D⟩:=G.at_ jS;have L:=ah D;go_wp2_with fail;have r:(a+d)/2<l.length:=jS;have f:=L ((a+d)/2) r;have y:=qr J n ((a+d)/2) r
  cases s:decide (n<=nth l ((a+d)/2))with
  |true=>
   refine(Ml (w.drewN m) (((a:I)+(d:I))/2) ((a+d)/2) jS p q b h c l n r x z f jS t? s).mono ?_;rintro e w'⟨rfl,k,rfl⟩;have g:lb l n<=(a+d)/2:=by simp at s;omega
   go_wp2;go_roundw
   case rel=>exact⟨a,(a+d)/2,_,rfl,CJ,C,g,jS,rfl⟩
   simp[intOf];omega
  |false=>
   refine(Ml (w.drewN m) (((a:I)+(d:I))/2) ((a+d)/2) jS p q b h c l n r x z f jS u? s).mono ?_;rintro e w'⟨rfl,k,rfl⟩;have g:(a+d)/2<lb l n:=by simp at s;omega
   go_wp2;go_roundw
   case rel=>exact⟨(a+d)/2+1,d,_,CJ,rfl,g,N,F,rfl⟩
   simp[intOf];omega
 obtain rfl:a=d:=jS;have g:a=lb l n:=jS;have H:=ah g;go_wp2;go_ret;exact⟨mL (by rw[H]),_,rfl⟩
def xD(w:jC)(c:O)(A:w? jG)(l:E I)(n:I)(hR:mN l)(hS:Sl w w A l)(hn:l.length<=1152921504606846976):jE Tryz.prog 305 #[jN A l c,jK n] w λe w'=>e=a? (c? o? (lb l n:O))/\∃k,w'=((w.alloc (oZ 48 A l c)).alloc (cD n)).drewN k:=by
 have hS2:=ah ((hS.alloc aa (oZ 48 A l c)).alloc lV (cD n));go_in;go_wp2_with fail;refine(Jv _ _ _ c w A l n hR lV lV hS2.out hn).mono ?_;rintro e w'⟨rfl,k,rfl⟩;go_wp2;go_ret;exact⟨rfl,_,rfl⟩
def AK(w:jC)(c k:O)(A:w? jG)(l:E I)(n:I)(r:z?)(m:Ll l k n=r)(h:Sl w w A l)(s:k<=l.length)(q:l.length<=1152921504606846976):jE Tryz.prog 306 #[jN A l c,jJ k,jK n] w λe w'=>e=a? (h? r)/\w=w':=by
 have H:=ah m;by_cases d:k<l.length
 .obtain⟨b,j,rfl,_,o⟩:=h.at_ jS;have p:=o k d;have a:(k:I)<l.length:=jS;by_cases f:nth l k=n
  .have g:(nth l k==n)=t?:=by simpa using f
   go_in;go_wp2;go_ret;refine⟨jU ?_,rfl⟩;rw[<-H];simp[Ll,d,f]
  have g:(nth l k==n)=u?:=by simpa using f
  go_in;go_wp2;go_ret;refine⟨jU ?_,rfl⟩;rw[<-H];simp[Ll,f]
 have a:decide ((k:I)<l.length)=u?:=mO;go_in;go_wp2;go_ret;refine⟨jU ?_,rfl⟩;rw[<-H];simp[Ll];omega
def Tryz.p_:(Tryz.prog.info? 22).map (λi=>(i.zero,i.size,i.bytes))=M (M (c? n? 0),1,8):=oo
def Tl(w:jC)(c:O)(A:w? jG)(l:E I)(n:I)(hR:mN l)(hS:Sl w w A l)(hn:l.length<=65536)(hi:Ll l (lb l n) n=t?):jE Tryz.prog 300 #[jN A l c,jK n] w λe w'=>e=a? (cZ A l c)/\Below w w w':=by
 have hlb:=C_ l n;have hS2:∀k,Sl (((w.alloc (oZ 48 A l c)).alloc (cD n)).drewN k) w A l:=λk=>(hS.alloc aa (oZ 48 A l c)).alloc lV (cD n);have HS:=ah hS2;have HI:=ah hi;go_in;go_wp2_with fail;refine(xD _ c A l n hR hS jS).mono ?_;rintro e w'⟨rfl,k,rfl⟩;go_wp2_with fail;refine(AK _ c (lb l n) A l n t? HI ((HS k).more mO) hlb jS).mono ?_;rintro e w'⟨rfl,rfl⟩;go_wp2;go_ret;exact⟨rfl,below_drewN (((Below.refl _ _).alloc aa _).alloc lV _) _⟩
def rB(w:jC)(A:w? jG)(m c k:O)(n:I):jC:=(((w.alloc (m? #[b? A m c] 33)).alloc (cD n)).drewN k).alloc (cD n)
variable{w:jC}{A:w? jG}
def Pe(a:Sl w w A l)(m c k:O)(n:I):Sl (rB w A m c k n) w A l:=
 Sl.alloc (w:=((w.alloc (m? #[b? A m c] 33)).alloc (cD n)).drewN k) ((a.alloc aa (m? #[b? A m c] 33)).alloc lV (cD n)) mO _
def yf(w:jC)(A:w? jG)(m c k:O)(n:I):Below w w (rB w A m c k n):=
 (below_drewN (((Below.refl _ _).alloc aa _).alloc lV _) _).alloc mO _
def zI(w:jC)(A:w? jG)(m c k:O)(n:I):∀j u,[br n? n][j]? =M u->(rB w A m c k n).cell? (((aG w):jG).add j)=M u:=m7 _ _ _ _ lV
def zH(w:jC)(A:w? jG)(m c k:O)(n:I):(rB w A m c k n).heap.size=w.heap.size+3:=by simp[rB]
def IL(w:jC)(l:E I)(n:I)(e:bi6)(w':jC):Prop:=
 ∃a b,e=a? (b? a (l.length+1) b)/\l.length+1<=b/\Sl w' w' a (l.take (lb l n)++n::l.drop (lb l n))/\Below w w w'/\oV w' w a
variable{W:jC}{m:O}
def yh{o f:jC}{r t:jD}(c:Below w w W)(h:W.grownBy o Z)(a:o.ownsRow W.heap.size 22 1 r (lb l n+1) ((l.take (lb l n)).map (br n?)++[c? n? n]))(C:m=lb l n+1+(l.length-lb l n))(b:f.ownsRow W.heap.size 22 1 t m (((l.take (lb l n)).map (br n?)++[c? n? n])++(l.drop (lb l n)).map (br n?)))(q:o.grownBy f r.ownBlock):IL w l n (a? t) f:=by
 have B:=C_ l n;obtain rfl:m=l.length+1:=jS;obtain⟨x,c2,rfl,d,j,g⟩:=lB b;obtain⟨y,c1,rfl,z,v,p⟩:=lB a;refine⟨x,c2,rfl,d,?_,?_,g.from c.size⟩
 .unfold Sl;simpa using j
 have s:=c.grown h c.size (λk e=>LS);refine s.grown q s.size (λk e=>?_)
 cases y with
 |none=>cases e
 |some A=>cases e;exact a_ c.size (p A rfl).1
def Pd(w:jC)(c:O)(A:w? jG)(l:E I)(n:I)(hR:mN l)(hS:Sl w w A l)(hc:l.length<=c)(hA:A=Z->c=0)(hn:l.length<=65536)(hi:Ll l (lb l n) n=u?):jE Tryz.prog 300 #[jN A l c,jK n] w (IL w l n):=by
 obtain⟨i0,hi0,hz0,hz1,hz2⟩:=bi5 Tryz.p_;have hlb:=C_ l n;have HS:=ah hS;have HI:=ah hi;have HA:=ah (λh:A=Z=>show lb l n=0/\lb l n=0 by have:=hA h;omega);have HA2:=ah hA;have hw3:=λk=>Pe hS l.length c k n;have HT:=ah (λk=>(hw3 k).take (lb l n));have HX:=ah (λk w1(hb:Below w (rB w A l.length c k n) w1)=>((hw3 k).below hb).cut (lb l n) c hc);have HS2:Hid (∀k,Sl (((w.alloc (oZ 48 A l c)).alloc (cD n)).drewN k) w A l):=λk=>(hS.alloc aa (oZ 48 A l c)).alloc (by simp) (cD n);clear hw3 hS;by_cases hcap:c=lb l n
 .have hd:Hid (l.drop (lb l n)=[]):=ei jS;subst hcap;go_in;go_wp2_with fail;refine(xD _ _ A l n hR HS (by omega)).mono ?_;rintro e w'⟨rfl,k,rfl⟩;go_wp2_with fail;refine(AK _ _ (lb l n) A l n u? HI (by exact(HS2 k).more (by simp;omega)) hlb (by omega)).mono ?_;rintro e w'⟨rfl,rfl⟩;go_wp2_with(first|(at_builtin;have _t:=tok;refine kr _ rfl (.tmp 22) (.tmp 25) 33 rfl (rB w A l.length (lb l n) k n).heap.size 22 i0 (c? n? 0) 1 8 Tryz.underlying33 hi0 hz0 hz1 hz2 rfl (by decide) _ _ _ rfl hown1 w A 0 0 [] rfl (by simp) Rd.none_ (by simp[eu]) (by unfold maxLen;omega) (by omega) hs1 ?_;intro v2 w2 hown2 hg2 _)|(at_builtin;refine wpList_append_grows _ rfl (.tmp 18) (.tmp 20) 33 rfl 22 i0 (c? n? 0) 1 8 Tryz.underlying33 hi0 hz0 hz1 hz2 rfl (by decide) A (lb l n) (lb l n) ((l.take (lb l n)).map (br n?)) rfl HA (by simp;omega) (Rd.adds (HT k)) (aG w) 1 1 [jK n] rfl rfl (zI w A l.length (lb l n) k n) (by simp[eu]) (by omega) (by unfold maxLen;omega) (by omega) ?_;intro v1 w1 hown1 hg1;obtain⟨A1,c1,rfl,hc1,hr1,ha1⟩:=lB hown1;have hx1:=HX k w1 ((Below.refl _ (rB w A l.length (lb l n) k n)).grown hg1 (by rw[zH];omega) (λk e=>by cases e));have hs1:(rB w A l.length (lb l n) k n).heap.size<=w1.heap.size:=hg1.size;have tok:True:=trivial));go_ret;exact yh (m:=lb l n+1+0) (yf w A l.length (lb l n) k n) hg1 hown1 (by omega) (by rw[hd.out];exact hown2) hg2
 have hne:A≠Z:=λe=>by have:=HA2 e;omega
 obtain⟨ad,rfl⟩:∃ad,A=M ad:=by cases A with|none=>exact H? rfl hne|some ad=>exact⟨ad,rfl⟩
 have HX1:Hid (∀k w1,Below w (rB w (M ad) l.length c k n) w1->Sl w1 w (M (ad.add (lb l n))) (l.drop (lb l n))):=λk w1 hb=>by have:=HX k w1 hb;rwa[A? hcap]at this
 have hcap':lb l n<c:=jS;go_in;go_wp2_with fail;refine(xD _ _ (M ad) l n hR HS jS).mono ?_;rintro e w'⟨rfl,k,rfl⟩;go_wp2_with fail;refine(AK _ _ (lb l n) (M ad) l n u? HI (by exact(HS2 k).more mO) hlb jS).mono ?_;rintro e w'⟨rfl,rfl⟩;go_wp2_with(first|(at_builtin;have _t:=tok;refine kr _ rfl (.tmp 22) (.tmp 25) 33 rfl (rB w (M ad) l.length c k n).heap.size 22 i0 (c? n? 0) 1 8 Tryz.underlying33 hi0 hz0 hz1 hz2 rfl B8 _ _ _ rfl hown1 w (M (ad.add (lb l n))) (l.length-lb l n) (c-lb l n) ((l.drop (lb l n)).map (br n?)) rfl lV hx1 Ed O0 jS hs1 ?_;intro v2 w2 hown2 hg2 _)|(at_builtin;refine wpList_append_grows _ rfl (.tmp 18) (.tmp 20) 33 rfl 22 i0 (c? n? 0) 1 8 Tryz.underlying33 hi0 hz0 hz1 hz2 rfl B8 (M ad) (lb l n) (lb l n) ((l.take (lb l n)).map (br n?)) rfl (λh=>qch) mO (Rd.adds (HT k)) (aG w) 1 1 [jK n] rfl rfl (zI w (M ad) l.length c k n) ZO jS O0 jS ?_;intro v1 w1 hown1 hg1;obtain⟨A1,c1,rfl,hc1,hr1,ha1⟩:=lB hown1;have hx1:=HX1 k w1 ((Below.refl _ (rB w (M ad) l.length c k n)).grown hg1 (by rw[zH];omega) (λk e=>LS));have hs1:(rB w (M ad) l.length c k n).heap.size<=w1.heap.size:=hg1.size;have tok:True:=trivial));go_ret;exact yh (yf w (M ad) l.length c k n) hg1 hown1 rfl hown2 hg2
def zG(w:jC)(base c:O)(A:w? jG)(l:E I)(n:I)(m:mN l)(f:Sl w w A l)(o:l.length<=c)(p:A=Z->c=0)(s:oV w base A)(t:base<=w.heap.size)(k:l.length<=65536):jE Tryz.prog 300 #[jN A l c,jK n] w λe w'=>∃v,e=a? v/\Held w' base v (ins l n)/\Below w w w':=by
 cases d:Ll l (lb l n) n with
 |true=>
  refine(Tl w c A l n m f k d).mono ?_;rintro e w'⟨rfl,a⟩;refine⟨_,rfl,?_,a⟩;rw[ins,B? d];exact⟨A,c,rfl,o,p,f.later a,s.later a⟩
 |false=>
  refine(Pd w c A l n m f o p k d).mono ?_;rintro e w'⟨q,r,rfl,x,b,a,j⟩;have g:¬Ll l (lb l n) n=t?:=by rw[d];simp
  have y:=C_ l n;refine⟨_,rfl,?_,a⟩;rw[ins,A? g];refine⟨q,r,?_,?_,?_,b,j.from t⟩
  .congr 1;simp;omega
  .simp;omega
  rintro rfl;obtain⟨_,_,h,_⟩:=b.at_ mO
  cases h
section
open Go.RowKit Go.Shelf
attribute [local go_sem] db
variable{W':jC}
def ky(h:Below W W W'):bj4 W W':=
 ⟨h.size,λk o a _=>(h.block k (aw.1 a).1).trans a⟩
def uN(h:k<l.length):l.take (k+1)=l.take k++[nth l k]:=by
 rw[aj h];simp[nth,h]
def values1_in(F:Fence)(n:O)(K:F.fn 307)(t:F.round=Z)(X:1<=n)(l G n₀ cap:O)(A:w? jG)(c:E I)(o:c.length<=1152921504606846976)(J B:E I->jC->Prop)(Q:∀a x W,J a W->a.length<c.length->bl4 F (n-1) Tryz.prog l #[jK x] W λe W'=> (e=a? (h? t?)/\J (a++[x]) W'/\Below n₀ W W')\/(e=a? (h? u?)/\B (a++[x]) W'))(W:jC) (N:W.cell? ⟨G,0,Z⟩=M (cZ A c cap)) (R:Sl W n₀ A c) (V:J [] W):bj2 F n Tryz.prog 307 #[cG l,jO G] W λe W'=>(∃v,e=a? v)/\ ((∃z,z=c/\J z W')\/(∃a,a <+: c/\B a W')):=by
 refine bj1 Tryz.func307 rfl K ?_ t;simp only[Tryz.ntmps307,xb,ao,dk];gi_wp2;gi_loopw[7] (λi wr=>∃k:O,k<=c.length/\i=c? o? k/\J (c.take k) wr/\Below n₀ W wr)
  (λi _=>c.length-(intOf i).toNat)
 case atStart=>exact⟨0,be _,rfl,V,Below.refl _ _⟩
 obtain⟨k,Y,rfl,g,h⟩:=hrel;by_cases d:k<c.length
 .obtain⟨b,s,rfl,H,w⟩:=R.at_ jS;have C:=(h.cell (p:=⟨b,s+k,Z⟩) H).trans (w k d);have HC:=ah w;obtain⟨fn,y,m,D,hy,T⟩:=Q _ (nth c k) wr g mO;gi_wp2;refine T.mono ?_;rintro e W3(⟨rfl,q,r⟩|⟨rfl,f⟩)
  .gi_wp2;go_roundw
   case rel=>exact⟨k+1,jS,lV,by rw[uN d];exact q,h.trans r⟩
   simp[intOf];omega
  gi_wp2;refine jF (bj7 rfl _ _ _) rfl ?_;refine⟨⟨_,rfl⟩,s? ⟨_,?_,f⟩⟩;rw[<-uN d];exact eS _ _
 obtain rfl:k=c.length:=jS;gi_wp2;go_end0;exact⟨⟨_,rfl⟩,r? ⟨_,dP,g⟩⟩
def values_in(F:Fence)(n:O)(c:F.fn 302)(b:F.round=Z)(a:w? jG)(len cap:O)(w:jC):bj2 F n Tryz.prog 302 #[.slice a len cap] w λe w'=>e=a? (.func (.func 307) #[] #[jO w])/\w'=w.alloc (m? #[.slice a len cap] 33):=by
 refine bj1 Tryz.func302 rfl c ?_ b;simp only[Tryz.ntmps302,xb,ao,dk];gi_wp2;go_ret;exact⟨rfl,rfl⟩
def values_stops(F:Fence)(n:O)(q:F.fn 307)(g:F.round=Z)(j:1<=n)(d n₀ cap:O)(A:w? jG)(b:E I)(a:b.length<=1152921504606846976)(w:jC)(e:d<w.heap.size)(c:n₀<=w.heap.size)(s:w.cell? ⟨d,0,Z⟩=M (cZ A b cap)) (m:Sl w n₀ A b):bl1 F n Tryz.prog 307 #[jO d] (λx:I=>#[br n? x]) (Below n₀) (λt=>t=b) (λf=>f <+: b) b.length w:=λl J r W h _ _ k o=>
 values1_in F n q g j l d n₀ cap A b a J r k W ((h.cell (p:=⟨d,0,Z⟩) e).trans s) (m.below (h.mono c)) o
end
section
open Go.RowKit Go.Shelf
attribute [local go_sem] db
def tT(a:w? jG)(len cap:O)(w:jC):jE Tryz.prog 299 #[.slice a len cap] w λe w'=>e=a? (.func (.func 307) #[] #[jO w])/\w'=w.alloc (m? #[.slice a len cap] 33):=by
 go_in;go_wp2_with fail;refine(jI.1 (values_in cz 3 trivial rfl a len cap w)).mono ?_;rintro e w'⟨rfl,rfl⟩;go_wp2;go_ret;exact⟨rfl,rfl⟩
def sB:jD:=i? 467 (g? #[f? ⟨#[116,111,111,32,109,97,110,121,32,110,117,109,98,101,114,115]⟩])
def GI(w:jC)(c b:O)(l:E I)(a:E I)(W:jC):Prop:=
 (∃v,bl3 W c 33 v/\Held W w v (kp l a))/\bl3 W b 171 j?/\bl3 W w 127 aO/\(kp l a).length<=64/\Below w w W
def GX(w:jC)(b:O)(l:E I)(c:bk9)(a:E I)(W:jC):Prop:=
 c=.exit 0/\bl3 W b 171 sB/\bl3 W w 127 aO/\64<(kp l a).length/\Below w w W
variable{W':jC}{row:w? O}{B:O}{t:jH}{v:jD}
def oD(h:bl3 W B t v)(c:W.grownBy W' row)(d:∀r,row=M r->(aH W r)):bl3 W' B t v:=
 h.kept c (λe=>by obtain⟨o,a,b⟩:=d _ e.symm;rw[show W.heap[B]? =_ from h]at a;cases a;cases b)
def Dh{base:O}(h:Held W base v l)(a:W.grownBy W' row)(d:∀r,row=M r->(aH W r)):Held W' base v l:=by
 obtain⟨A,c,e,f,k,g,m⟩:=h;exact⟨A,c,e,f,k,g.to a.size (λb o v j=>cell_kept j a d),m.kept a d⟩
def YL(w:jC)(g j:O)(l:E I)(B:O)(f:w.heap.size<=B):bj3 B (GI w g j l):=by
 rintro s W W' row⟨⟨v,o,h⟩,p,m,n,c⟩ b d;have a:∀r,row=M r->(aH W r):=λr e=>(d r e).2;exact⟨⟨v,oD o b a,Dh h b a⟩,oD p b a,oD m b a,n,c.grown b c.size (λk e=>a_ f (d k e).1)⟩
def YK(w:jC)(h:O)(l:E I)(c:bk9)(B:O)(g:w.heap.size<=B):bj3 B (GX w h l c):=by
 rintro s W W' row⟨m,o,j,n,d⟩ b f;have a:∀r,row=M r->(aH W r):=λr e=>(f r e).2;exact⟨m,oD o b a,oD j b a,n,d.grown b d.size (λk e=>a_ g (f k e).1)⟩
variable{u:jD}
def Jq{d:O}(h:Sl w B A l)(o:bl3 w d t u)(r:∀n,u≠c? n? n)(v:jD):Sl (w.setCell ⟨d,0,Z⟩ v) B A l:=λp=>by
 obtain⟨b,c,e,m,q⟩:=h p;refine⟨b,c,e,m,λj x k=>?_⟩;have a:=q j x k;have f:b≠d:=by
  rintro rfl;obtain⟨n,_,rfl⟩:∃n,n∈l/\br n? n=x:=dq.1 (cm k);rw[fJ,show w.heap[b]? =_ from o]at a;simp only[Option.isSome_none]at a;rcases fM (c+j)with g|g
  .rw[g]at a;simp at a;exact r n a
  rw[A? lV]at a;rw[fH mO]at a
  cases a
 rw[eX _ _ _ _ (λe=>f (by injection e with a s;exact a.symm))];exact a
def _root_.Go.Proofs.YtfcnedcahoifoaaGreatDoor.Held.PK{base a:O}(h:Held w base v l)(k:bl3 w a t u)(d:∀n,u≠c? n? n)(x:jD):Held (w.setCell ⟨a,0,Z⟩ x) base v l:=by
 obtain⟨A,c,e,b,g,f,j⟩:=h;exact⟨A,c,e,b,g,by have:=Jq f k d x;simpa[bj]using this,j.set _ _⟩
def _root_.Go.Proofs.YtfcnedcahoifoaaGreatDoor.Held.alloc{w:jC}{base:O}{v:jD}{l:E I}(h:Held w base v l)(o:Obj):Held (w.alloc o) base v l:=h.later ((Below.refl _ _).alloc aa _)
def _root_.Go.Proofs.YtfcnedcahoifoaaGreatDoor.Held.drew{w:jC}{base:O}{v:jD}{l:E I}(h:Held w base v l):Held w.drew base v l:=h
variable{b:O}
def rR(h:bl3 W B t u)(a:B≠b)(v:jD):bl3 (W.setCell ⟨b,0,Z⟩ v) B t u:=
 h.kept (grownBy_setCell' W b v) (λe=>a (by injection e))
def xL(h:bj4 W W'):bj4 W (W'.setCell ⟨b,0,Z⟩ v):=h.trans (b7 _ _ _)
def qX(w:jC)(n:O):jC:=((w.alloc (m? #[jM] 127)).alloc (m? (madeCells (br n? 0).cells n) 22)).alloc (m? #[b? (M (aE w)) n n] 33)
def EK(w:jC)(n:O):(qX w n).heap.size=w.heap.size+3:=by simp[qX]
def u4(w:jC)(n:O):Below w w (qX w n):=(((Below.refl _ _).alloc aa _).alloc lV _).alloc mO _
def Hf(w:jC)(n:O):(qX w n).heap[w.heap.size+1]? =M (m? (madeCells (br n? 0).cells n) 22 (0,0)):=by
 have h:=du (w.alloc (m? #[jM] 127)) (m? (madeCells (br n? 0).cells n) 22);rw[b_]at h;exact(Below.heap_alloc _ _ _ lV).trans h
def Hg(w:jC)(n:O):bl3 (qX w n) w 127 aO:=((jx w 127 aO).alloc _).alloc _
def Hh(w:jC)(n:O):bl3 (qX w n) (w.heap.size+2) 33 (b? (M (aE w)) n n):=by
 have h:=jx ((w.alloc (m? #[jM] 127)).alloc (m? (madeCells (br n? 0).cells n) 22)) 33 (b? (M (aE w)) n n);rw[b_,b_]at h;exact h
def wF{a:jC}{A2:w? jG}{n2 c2:O}(g:l.length<=64)(d:a.heap[w.heap.size+1]? =M (m? (l.map (br n?)).toArray 22 (0,0)))(c:(qX w l.length).grownBy a (M (w.heap.size+1))):GI w (w.heap.size+2) a l [] ((a.alloc dC).alloc (m? #[b? A2 n2 c2] 33)):=by
 have f:=(u4 w l.length).grown c (by rw[EK];omega) (λk e=>TP);refine⟨⟨_,(((Hh w l.length).kept c lV).alloc _).alloc _,?_⟩,(jx a 171 j?).alloc _,(((Hg w l.length).kept c lV).alloc _).alloc _,g,(f.alloc f.size _).alloc (by have:=f.size;simp;omega) _⟩;have b:=(aw.1 d).1;refine⟨M (aE w),l.length,rfl,ay _,(λh=>qch),?_,(λo e=>by cases e;exact⟨dU _,_,_,(Below.heap_alloc _ _ _ mO).trans ((Below.heap_alloc _ _ _ b).trans d)⟩)⟩;have m:Sl a a (M (aE w)) l:=λ_=>⟨_,_,rfl,b,λj u n=>by
  rw[au];simpa[fJ,d]using n⟩
 exact((m.alloc aa _).alloc lV _).more mO
def Kx(w:jC)(c c2:O)(A A2:w? jG)(l m:E I)(hR:mN l)(hl:l.length<=64)(hS:Sl w w A l)(hS2:Sl w w A2 m)(hm:m.length<=1152921504606846976):bj2 cz 6 Tryz.prog 293 #[jN A l c,jN A2 m c2] w λe w'=>Below w w w'/\ (((kp l m).length<=64/\∃v,e=a? (.tuple #[g? #[v],j?])/\Held w' w v (kp l m))\/ (64<(kp l m).length/\e=a? (.tuple #[g? #[jM],sB]))):=by
 obtain⟨i0,η,hz0,β,hz2⟩:=bi5 Tryz.p_;have Γ:=λW=>vo (P:=Tryz.prog) 33 22 i0 (.int n? 0) Tryz.underlying33 η hz0 β o? o? l.length l.length aa (by rw[hz2];omega) (by omega) W;have HW:=ah (Hf w l.length);have Vm:Hid (Sl (qX w l.length) w A l):=hS.below (u4 w l.length);refine bi7 Tryz.func293 rfl trivial ?_ rfl;simp only[Tryz.ntmps293,xb,ao,dk];refine bi4.2 ?_;go_wp2_with fail;go_step3;go_wp2_with(refine sM rfl (.tmp 12) (.tmp 13) 33 33 rfl 22 Tryz.underlying33 (by rw[η];simp[β]) (w.heap.size+1) l.length l.length c A rfl rfl _ 22 HW (size_madeCells _ _) (l.map (br n?)) (by simp) w Vm Ed ?_;intro V L T t);go_step3;go_wp2_with fail;refine(tT _ _ _ _).mono ?_;rintro e w'⟨rfl,rfl⟩;go_wp2_with fail;have Ω:Below w w ((V.alloc dC).alloc (oZ 48 A2 m c2)):=(wF (A2:=A2) (n2:=m.length) (c2:=c2) hl L T).2.2.2.2;have R:=wF (A2:=A2) (n2:=m.length) (c2:=c2) hl L T;simp only[t,b_]at R;have γ:GI w (aN w) (cC w) l [] ((V.alloc dC).alloc (oZ 48 A2 m c2)):=R;have hsz:((V.alloc dC).alloc (oZ 48 A2 m c2)).heap.size=w.heap.size+5:=by simp[t]
 have ν:=(jx (V.alloc dC) 33 (cZ A2 m c2)).cell;have φ:(V.alloc dC).heap.size=w.heap.size+1+1+1+1:=by simp[t]
 rw[φ]at ν;generalize((V.alloc dC).alloc (oZ 48 A2 m c2))=W0 at*;clear φ R L T t HW Vm Γ;refine(bi4 (n:=6)).1 ?_;refine bj9 rfl (by omega) (gf:=307) (lb:=#[.pointer (M (lz 46 w))]) rfl trivial (enters_of Tryz.func307 (by kernel_rfl) rfl)
  (values_stops cz (6-1) trivial rfl (by omega) (w.heap.size+1+1+1+1) w c2 A2 m hm W0 (by omega) (by omega) ν (hS2.below Ω)) belowK_t (bj6 (by omega)) (Below.refl _ _) (λ_=>rfl)
  (GI w (aN w) (cC w) l) (GX w (cC w) l) (YL w _ _ l _ (by omega)) (λc=>YK w _ l c _ (by omega)) γ
  (λx=>{tmps:=#[jN A l c,jN A2 m c2,undef,undef,jO w,j?,.pointer (M (aG w)),.pointer (M ⟨cC w,0,Z⟩),jK x,jN A l c,jJ l.length,.slice (M (aE w)) l.length l.length,.slice (M (aE w)) l.length l.length,jN A l c,jJ l.length,jN A2 m c2,.func (.func 307) #[] #[.pointer (M (lz 46 w))],jK x,undef,undef,undef,undef,undef,undef,undef,undef,undef,undef,undef,undef,undef,undef],defers:=[]}) ?assign ?body ?done ?stop
 case assign=>
  intro l x W K hK;gi_wp2;exact hK
 case body=>
  rintro l' b x W⟨⟨v,X,hh⟩,J,f,C,G⟩ hlt;obtain⟨h,g,rfl,N,p,y,j⟩:=hh;have hc:=X.cell;gi_wp2_with fail;refine⟨trivial,?_⟩;refine(d_ l' (jI.2 (zG W w g h (kp l b) x (pY hR b) y N p j G.size (by omega)))).mono ?_;rintro e w2⟨v2,rfl,α,a⟩;rw[<-GW]at α;obtain⟨Y,κ,rfl,μ,ψ,ω,ξ⟩:=α;have s:bl3 w2 (aN w) 33 (.slice h (kp l b).length g):=(a.block _ X.lt).trans X;have B:bl3 w2 (cC w) 171 j?:=(a.block _ J.lt).trans J;have ρ:bl3 w2 w 127 aO:=(a.block _ f.lt).trans f;have hcv2:=s.cell;have aT2:=s.frozen;have aT5:=B.cell;have aT3:=B.frozen;have Ψ:=ky a;have χ:Below w w w2:=G.trans (a.mono G.size);have HS2:=ah ω;have HA2:=ah ψ;have HF2:=ah ξ;clear ω ψ ξ p j y hc X f J Ψ;by_cases k:64<(kp l (b++[x])).length
  .have hd:decide (64<((kp l (b++[x])).length:I))=t?:=by simp;omega
   gi_wp2;refine⟨xL (xL (ky a)),rfl,(rR B (by omega) _).set _,rR (rR ρ (by omega) _) (by omega) _,k,(χ.setCell (by show _<=w.heap.size+1+1;omega) _).setCell (by show _<=w.heap.size+1+1+1;omega) _⟩
  have hd:decide (64<((kp l (b++[x])).length:I))=u?:=by simp;omega
  gi_wp2;refine⟨xL (ky a),(a.mono G.size).setCell (by show _<=w.heap.size+1+1;omega) _,⟨_,s.set _,Y,κ,rfl,μ,HA2,?_,HF2.set _ _⟩,rR B (by omega) _,rR ρ (by omega) _,by omega,χ.setCell (by show _<=w.heap.size+1+1;omega) _⟩;have:=Jq HS2 s (λn e=>by cases e) (.slice Y (kp l (b++[x])).length κ);simpa[bj]using this
 case done=>
  rintro D F W hD rfl⟨⟨v,X,hh⟩,J,f,C,G⟩ hK;obtain⟨h,g,rfl,N,p,y,j⟩:=hh;have hcv:=X.cell;have θ:=J.cell;have Ξ:=f.cell;have Θ:=f.frozen;have HF:=ah j;have HA:=ah p;clear j p;go_wp2_with fail;try rw[cf]
  have d:(W.setCell ⟨w,0,Z⟩ (.slice h (kp l F).length g)).heap[D]? =M (aY):=(b7 _ _ _).same D _ hK rfl;have q:∀r,M D=M r->∃o:Obj,(W.setCell ⟨w,0,Z⟩ (.slice h (kp l F).length g)).heap[r]? =M o/\o.isCells=u?:=λr e=>by cases e;exact⟨_,d,rfl⟩
  have Xz:=oD (f.set (.slice h (kp l F).length g)) (bj5 _ D cJ) q;have H:=Xz.cell;have Δ:Held (W.setCell ⟨w,0,Z⟩ (.slice h (kp l F).length g)) w (.slice h (kp l F).length g) (kp l F):=
   ⟨h,g,rfl,N,HA,by have:=Jq y f (λn e=>by cases e) (.slice h (kp l F).length g);simpa[bj]using this,HF.set _ _⟩
  refine⟨by simp,r? ⟨_,_,rfl,bi2 d,?_⟩⟩;exact⟨.tuple #[g? #[.slice h (kp l F).length g],j?],by simp[results,Tryz.results293,go_sem,H],(G.setCell aa _).trans (bj6 (w:=w) aa _ D _ _ (by omega) d rfl rfl),r? ⟨C,_,rfl,Dh Δ (bj5 _ D cJ) q⟩⟩
 rintro D g b W hD δ⟨rfl,J,f,k,G⟩ hK;have θ:=J.cell;unfold sB at θ;have Ξ:=f.cell;have Θ:=f.frozen;have Q:Hid (64<(kp l m).length):=cn k (tN hR δ);refine bi4.2 ?_;go_wp2_with fail;go_region
 all_goals go_wp2_with fail
 all_goals try rw[cf]
 have d:(W.setCell ⟨w,0,Z⟩ aO).drew.heap[D]? =M (aY):=(b7 _ _ _).same D _ hK rfl;have q:∀r,M D=M r->∃o:Obj,(W.setCell ⟨w,0,Z⟩ aO).drew.heap[r]? =M o/\o.isCells=u?:=λr e=>by cases e;exact⟨_,d,rfl⟩
 have Xz:bl3 (W.setCell ⟨w,0,Z⟩ aO).drew w 127 aO:=f.set aO;have H:=(oD Xz (bj5 _ D cJ) q).cell;have hb1:Below w w (W.setCell ⟨w,0,Z⟩ aO).drew:=(G.setCell aa _).drew;refine⟨by simp,r? ⟨_,_,rfl,bi2 d,?_⟩⟩;exact⟨.tuple #[g? #[jM],sB],by simp[results,Tryz.results293,go_sem,H,sB],hb1.trans (bj6 (w:=w) aa _ D _ _ (by omega) d rfl rfl),s? ⟨Q.out,rfl⟩⟩
def wG(w:jC)(c c2:O)(A A2:w? jG)(l m:E I)(g:mN l)(b:l.length<=64)(f:Sl w w A l)(a:Sl w w A2 m)(d:m.length<=1152921504606846976):jE Tryz.prog 293 #[jN A l c,jN A2 m c2] w λe w'=>Below w w w'/\ (((kp l m).length<=64/\∃v,e=a? (d? #[g? #[v],j?])/\Held w' w v (kp l m))\/ (64<(kp l m).length/\e=a? (d? #[g? #[jM],sB]))):=
 jI.1 (Kx w c c2 A A2 l m g b f a d)
def wK(w:jC):jE Tryz.prog 294 #[j?] w λe w'=>e=a? (c? o? 0)/\w.alloc (m? #[aF] 467)=w':=by
 have a:∀w,(dd j? 171 467 t?).run Tryz.prog w=.ok (d? #[g? #[aF],h? u?]) w:=λ_=>oo;go_in;go_wp2;go_ret;exact⟨rfl,rfl⟩
def RU:v?:=⟨#[116,111,111,32,109,97,110,121,32,110,117,109,98,101,114,115]⟩
def kR(w:jC):jE Tryz.prog 294 #[sB] w λe w'=>e=a? (c? o? 60)/\w.alloc (m? #[jL RU] 467)=w':=by
 have a:∀w,(dd sB 171 467 t?).run Tryz.prog w=.ok (d? #[g? #[jL RU],h? t?]) w:=λ_=>oo;unfold sB at a⊢;go_in;go_wp2;go_ret;exact⟨rfl,rfl⟩
end
section
open Go.RowKit Go.Shelf
def Fe(w:jC)(r:E I)(e:bi6)(w':jC):Prop:=
 Below w w w'/\((r.length<=64/\∃v,e=a? (d? #[g? #[v],jJ 0])/\Held w' w v r)\/(64<r.length/\e=a? (d? #[g? #[jM],jJ 60])))
def add_any(w:jC)(c:O)(A:w? jG)(l:E I)(n:I)(G:Sl w w A l)(D:kg l=t?):jE Tryz.prog 288 #[dD A l c,jK n] w (Fe w (kp l [n])):=by
 obtain⟨o,H⟩:=mS.1 D;have K:=ah D;have B:=ah G;go_in;go_wp2_with fail;refine(j_ _ w A c l (by exact(B.alloc aa _).alloc lV _) mO jS).mono ?_;rintro e g⟨rfl,rfl⟩;rw[K];go_wp2_with fail;refine(wG _ c 1 A (M ⟨cC w,0,Z⟩) l [n] H o (by exact(B.al (jP (jP (jP (jP (jQ _) _) _) _) _)).more (by simp;omega)) (by exact PG _ _ _ _ (by simp)) (by simp)).mono ?_;have C:Hid (bl3 ((((w.alloc (m? #[jN A l c] 127)).alloc (m? #[jM] 127)).alloc (m? #[jN A l c] 127)).alloc (cD n)) (w.heap.size+1) 127 aO):=by have h:=jx (w.alloc (m? #[jN A l c] 127)) 127 aO;rw[b_]at h;exact(h.alloc _).alloc _
 rintro e g⟨m,(⟨a,v,rfl,J⟩|⟨a,rfl⟩)⟩
 .obtain⟨j,k,rfl,s,x,z,y⟩:=J;have b:bl3 g (w.heap.size+1) 127 aO:=(m.block _ lV).trans C;have r:=b.cell;have p:=b.frozen;have t:=b.lt;have d:w.heap.size<g.heap.size:=jS;have f:=(b.set (b? j (kp l [n]).length k)).cell;have F:Hid (Held g w (b? j (kp l [n]).length k) (kp l [n])):=⟨j,k,rfl,s,x,z,y.from mO⟩;have q:=Below.two (jP (jP (jP (jP (jQ _) _) _) _) _) m;go_wp2;go_region_with(go_at_call 294;refine(wK _).mono ?_;rintro e w'⟨rfl,rfl⟩)
  all_goals go_wp2_with fail
  all_goals exact jF (v:=d? #[g? #[b? j (kp l [n]).length k],jJ 0]) (by simp[results,Tryz.results288,go_sem,t,d,f]) rfl ⟨(jP (jP (q.setCell (by show(aZ w);omega) _) _) _).drew,r? ⟨a,_,rfl,(((F.PK b (λn e=>by cases e) _).alloc _).alloc _).drew⟩⟩
 have b:bl3 g (w.heap.size+1) 127 aO:=(m.block _ lV).trans C;have r:=b.cell;have p:=b.frozen;have t:=b.lt;have d:w.heap.size<g.heap.size:=jS;have f:=(b.set aO).cell;have q:=Below.two (jP (jP (jP (jP (jQ _) _) _) _) _) m;go_wp2;go_region_with(go_at_call 294;refine(kR _).mono ?_;rintro e w'⟨rfl,rfl⟩)
 all_goals go_wp2_with fail
 all_goals exact jF (v:=d? #[g? #[jM],jJ 60]) (by simp[results,Tryz.results288,go_sem,t,d,f]) rfl ⟨(jP (jP (q.setCell (by show(aZ w);omega) _) _) _).drew,s? ⟨a,rfl⟩⟩
def merge_any(w:jC)(c c2:O)(A A2:w? jG)(l m:E I)(T:Sl w w A l)(r:Sl w w A2 m)(L:kg l=t?)(k:kg m=t?):jE Tryz.prog 292 #[dD A l c,dD A2 m c2] w (Fe w (kp l m)):=by
 obtain⟨z,V⟩:=mS.1 L;obtain⟨Q,X⟩:=mS.1 k;have W:=ah L;have s:=ah k;have J:=ah T;have j:=ah r;go_in;go_wp2_with fail;refine(j_ _ w A c l (by exact J.al (jP (jP (jP (jQ _) _) _) _)) mO jS).mono ?_;rintro e d⟨rfl,rfl⟩;rw[W];go_wp2_with fail;refine(j_ _ w A2 c2 m (by exact j.al (jP (jP (jP (jP (jQ _) _) _) _) _)) mO jS).mono ?_;rintro e d⟨rfl,rfl⟩;rw[s];go_wp2_with fail;refine(wG _ c c2 A A2 l m V z (by exact(J.al (jP (jP (jP (jP (jP (jQ _) _) _) _) _) _)).more (by simp;omega)) (by exact(j.al (jP (jP (jP (jP (jP (jQ _) _) _) _) _) _)).more (by simp;omega)) (by omega)).mono ?_;have K:Hid (bl3 (((((w.alloc (m? #[jN A l c] 127)).alloc (m? #[jN A2 m c2] 127)).alloc (m? #[jM] 127)).alloc (m? #[jN A l c] 127)).alloc (m? #[jN A2 m c2] 127)) (aN w) 127 aO):=by have h:=jx ((w.alloc (m? #[jN A l c] 127)).alloc (m? #[jN A2 m c2] 127)) 127 aO;rw[b_,b_]at h;exact(h.alloc _).alloc _
 rintro e d⟨q,(⟨a,v,rfl,N⟩|⟨a,rfl⟩)⟩
 .obtain⟨o,p,rfl,F,x,H,y⟩:=N;have b:bl3 d (aN w) 127 aO:=(q.block _ lV).trans K;have D:=b.cell;have B:=b.frozen;have G:=b.lt;have f:w.heap.size+1<d.heap.size:=jS;have t:w.heap.size<d.heap.size:=jS;have g:=(b.set (b? o (kp l m).length p)).cell;have R:Hid (Held d w (b? o (kp l m).length p) (kp l m)):=⟨o,p,rfl,F,x,H,y.from mO⟩;have C:=Below.two (jP (jP (jP (jP (jP (jQ _) _) _) _) _) _) q;go_wp2;go_region_with(go_at_call 294;refine(wK _).mono ?_;rintro e w'⟨rfl,rfl⟩)
  all_goals go_wp2_with fail
  all_goals exact jF (v:=d? #[g? #[b? o (kp l m).length p],jJ 0]) (by simp[results,Tryz.results292,go_sem,G,f,g]) rfl ⟨(jP (jP (C.setCell (by show(aU w);omega) _) _) _).drew,r? ⟨a,_,rfl,(((R.PK b (λn e=>by cases e) _).alloc _).alloc _).drew⟩⟩
 have b:bl3 d (aN w) 127 aO:=(q.block _ lV).trans K;have D:=b.cell;have B:=b.frozen;have G:=b.lt;have f:w.heap.size+1<d.heap.size:=jS;have t:w.heap.size<d.heap.size:=jS;have g:=(b.set aO).cell;have C:=Below.two (jP (jP (jP (jP (jP (jQ _) _) _) _) _) _) q;go_wp2;go_region_with(go_at_call 294;refine(kR _).mono ?_;rintro e w'⟨rfl,rfl⟩)
 all_goals go_wp2_with fail
 all_goals exact jF (v:=d? #[g? #[jM],jJ 60]) (by simp[results,Tryz.results292,go_sem,G,f,g]) rfl ⟨(jP (jP (C.setCell (by show(aU w);omega) _) _) _).drew,s? ⟨a,rfl⟩⟩
end
def cnt(l:E I):I:=if kg l=t? then(l.length:I)else 0
def count_any(w:jC)(c:O)(A:w? jG)(l:E I)(f:Sl w w A l)(h:l.length<=1152921504606846976):jE Tryz.prog 290 #[dD A l c] w λe w'=>e=a? (c? n? (cnt l))/\Below w w w':=by
 cases a:kg l with
 |true=>
  have d:Hid (cnt l=(l.length:I)):=by show cnt l=_;simp[cnt,a]
  have b:=ah a;go_in;go_wp2_with fail;refine(j_ _ w A c l (by exact f.al (jP (jQ _) _)) lV jS).mono ?_;rintro e g⟨rfl,rfl⟩;rw[b];go_wp2;go_ret;exact⟨mL d.symm,jP (jP (jQ _) _) _⟩
 |false=>
  have d:Hid (cnt l=0):=by show cnt l=_;simp[cnt,a]
  have b:=ah a;go_in;go_wp2_with fail;refine(j_ _ w A c l (by exact f.al (jP (jQ _) _)) lV jS).mono ?_;rintro e g⟨rfl,rfl⟩;rw[b];go_wp2;go_ret;exact⟨mL d.symm,jP (jP (jQ _) _) _⟩
end Ex
structure ScK(x0:E O) where
def cK(a:E O):ScK a:=⟨⟩
instance aU5(x0:E O):CoeOut (ScK x0) (E O):=⟨λ_=>(bu x0.length)⟩
instance aW1(x0:O):CoeOut (sH 63 x0) (E O):=⟨λ_=>(de (2^x0) 0)⟩
namespace Hl
def bl(m:O):O:=if m=0 then 0 else Nat.log2 m+1
def UU:bl 0=0:=rfl
variable{m k:O}
def ID(h:m<2^k):bl m<=k:=by
 unfold bl;split
 .omega
 rename_i a;have:=(Nat.log2_lt a).2 h;omega
def VY(m:O):m<2^bl m:=by
 unfold bl;split
 .rename_i h;rw[h];decide
 rename_i a;exact(Nat.log2_lt a).1 (fA _)
def af5(h:2^k<=m):k+1<=bl m:=by
 have a:=VY m;have:=Nat.lt_of_le_of_lt h a;exact(Nat.pow_lt_pow_iff_right B8).1 this
def af6(a:2^k<=m)(b:m<2^(k+1)):bl m=k+1:=Nat.le_antisymm (ID b) (af5 a)
def X_(m b:O)(h:m≠0):bl (m*2^b)=bl m+b:=by
 have j:0<bl m:=by unfold bl;rw[A? h];omega
 obtain⟨k,d⟩:∃k,bl m=k+1:=⟨bl m-1,jS⟩;have f:2^k<=m:=by
  rcases fB m (2^k)with a|c
  .have:=ID a;omega
  exact c
 have g:m<2^(k+1):=by rw[<-d];exact VY m
 have e:k+b+1=k+1+b:=jS;rw[d,af6 (k:=k+b) (by rw[im];exact fZ _ f) (by rw[e,im];exact ig g (ee b))];omega
def o_(B n:O):O:=n/2^(64-B)
def tE(B n:O):O:=n%2^(64-B)
def pF(B n:O):O:=65-B-bl (tE B n)
def D5(B n:O):tE B n<2^(64-B):=jj _ (ee _)
variable{B n:O}
def Wi(b:B<=64)(a:n<2^64):o_ B n<2^B:=by
 unfold o_;refine iZ ?_;rw[<-im,show 64-B+B=64 by omega];exact a
def LQ(a:3<=B)(b:B<=8)(n:O):1<=pF B n/\pF B n<=65-B:=by
 have:=ID (D5 B n);unfold pF;omega
section
open Go.RowKit Go.Shelf
def GM:Go.Shelf.Ren:=⟨fun|134=>311|129=>67|n=>n,fun|53=>22|3=>3|4=>4|46=>152|5=>5|9=>9|n=>n,fun|n=>n⟩
def Ui:Go.Proofs.Lays.n134 Tryz.prog GM:={
 mixed:=oo
 f129:=Tryz.func67.trans (C? M oo)
 f134:=Tryz.func311.trans (C? M oo)
 t3:=Tryz.underlying3
 a3:=Tryz.isAgg3
 z3:=Tryz.sizeOf3
 v3:=Tryz.zeroValue3
 t4:=Tryz.underlying4
 a4:=Tryz.isAgg4
 z4:=Tryz.sizeOf4
 v4:=Tryz.zeroValue4
 t5:=Tryz.underlying5
 a5:=Tryz.isAgg5
 z5:=Tryz.sizeOf5
 v5:=Tryz.zeroValue5
 t9:=Tryz.underlying9
 a9:=Tryz.isAgg9
 z9:=Tryz.sizeOf9
 v9:=Tryz.zeroValue9
 t46:=Tryz.underlying152
 a46:=Tryz.isAgg152
 z46:=Tryz.sizeOf152
 v46:=Tryz.zeroValue152
 t53:=Tryz.underlying22
 a53:=Tryz.isAgg22
 z53:=Tryz.sizeOf22
 v53:=Tryz.zeroValue22}
def Dx:∀(f x:O),x<2^f->gY f x=bl x
 |0,x,h=>by
  have:x=0:=by simpa using h
  subst this;rfl
 |f+1,x,h=>by
  rw[gY];split
  .rename_i e;rw[e];rfl
  rename_i e;have a:x/2<2^f:=by rw[iI]at h;omega
  rw[Dx f (x/2) a];by_cases b:x/2=0
  .have:x=1:=by omega
   subst this;decide
  unfold bl;rw[A? b,A? e];have:=Nat.log2_def x;rw[B? (by omega)]at this;omega
def Xi(x:O)(b:x<18446744073709551616)(w:jC):jE Tryz.prog 311 #[jK x] w λe w'=>e=a? (c? o? (64-(bl x:I)))/\w=w':=
 (Go.Proofs.Any.bits_LeadingZeros64 Ui x w jS jS).mono λ_ _⟨c,a⟩=>⟨by rw[c,dM];show ff (c? o? (64-(gY 64 x:I)))=_;rw[Dx 64 x b],a.symm⟩
end
abbrev sC(s:v?):jD:=i? 470 (g? #[jL s])
def kR(s:v?)(w:jC):jE Tryz.prog 296 #[sC s] w λe w'=>e=a? (c? o? 70)/\w.alloc (m? #[jL s] 470)=w':=by
 have a:∀w,(dd (sC s) 171 470 t?).run Tryz.prog w=.ok (d? #[g? #[jL s],h? t?]) w:=λ_=>oo;go_in;go_wp2;go_ret;exact⟨rfl,rfl⟩
def OK(x:O)(a:x<18446744073709551616)(w:jC):jE Tryz.prog 308 #[jK x] w λe w'=>e=a? (c? o? (64-(bl x:I)))/\w=w':=by
 go_in;go_wp2_with fail;refine(Xi x a _).mono ?_;rintro e w'⟨rfl,rfl⟩;go_wp2;go_ret;exact⟨rfl,rfl⟩
def PH(a:B<=8):IntKind.u64.wrap ((n:I)*2^B)=((tE B n*2^B:O):I):=by
 have e:(2:O)^(64-B)*2^B=18446744073709551616:=by rw[<-im,show 64-B+B=64 by omega]
 have h:n*2^B%18446744073709551616=tE B n*2^B:=by rw[<-e,Nat.mul_mod_mul_right];rfl
 rw[<-h,iw];simp
def JM(B n:O)(y:3<=B)(l:B<=8)(p:n<18446744073709551616)(w:jC):jE Tryz.prog 303 #[jJ B,jK n] w λe w'=>e=a? (d? #[jJ (o_ B n),jJ (pF B n)])/\w=w':=by
 have o:nO B=t?:=by simp[nO];omega
 have j:=ah o;have q:o_ B n<256:=cn (Wi (B:=B) (by omega) p) (a_ (ep (by decide) l) (by decide));have v:(n:I)/2^(64-B)=((o_ B n:O):I):=by simp[o_]
 have h:=PH (B:=B) (n:=n) l;have g:=ID (D5 B n);have c:=D5 B n;by_cases d:tE B n=0
 .have b:Hid (((pF B n:O):I)=65-(B:I)):=by show _=_;rw[pF,d,UU];omega
  rw[d,fh]at h;generalize o_ B n=a at*;go_in;go_wp2_with fail;refine(pl _ _).mono ?_;rintro e w'⟨rfl,rfl⟩;rw[j];go_wp2;go_ret2;exact⟨by rw[b];rfl,rfl⟩
 have f:=X_ (tE B n) B d;have m:tE B n*2^B<18446744073709551616:=by
  have e:(2:O)^(64-B)*2^B=18446744073709551616:=by rw[<-im,show 64-B+B=64 by omega]
  rw[<-e];exact ig c (ee B)
 have r:tE B n*2^B≠0:=Nat.mul_ne_zero d (Nat.ne_of_gt (ee B));have b:Hid (((pF B n:O):I)=64-((bl (tE B n*2^B):O):I)+1):=by show _=_;rw[pF,f];omega
 have x:bl (tE B n*2^B)<=64:=ID (k:=64) m;clear o f d g c;generalize tE B n*2^B=s at*;generalize o_ B n=a at*;have t:((s:I)!=0)=t?:=by simp;omega
 go_in;go_wp2_with fail;refine(pl _ _).mono ?_;rintro e w'⟨rfl,rfl⟩;rw[j];go_wp2_with fail;refine(OK s m _).mono ?_;rintro e w'⟨rfl,rfl⟩;go_wp2_with fail;go_ret2;exact⟨by rw[b];rfl,rfl⟩
variable{l:E O}
def UT{p:O}(a:p<l.length)(v i:O):mJ (l.set p v) i=if i=p then v else mJ l i:=by
 unfold mJ;rw[jq];by_cases h:p=i
 .subst h;simp[a]
 rw[A? h,A? (λe=>h e.symm)]
section
variable{w w':jC}{g:O}{l:E O}
def By.drew(h:By w g l):By w.drew g l:=h.keep aa rfl
def By.set(h:By w g l){p:O}(b:p<l.length)(v:O):By (w.setCell ⟨g,p,Z⟩ (c? p? (v:I))) g (l.set p v):=by
 refine⟨by simpa[bj]using h.lt,λj a=>?_,λj a=>?_⟩
 .rw[eq]at a;rw[UT b];by_cases e:j=p
  .subst e;rw[B? rfl];exact World.cell?_setCell_same' _ _ _ (by rw[h.cell j a];rfl)
  rw[A? e,eX _ _ _ _ (λd=>e (by injection d with _ c;exact c.symm))];exact h.cell j a
 rw[eq]at a;rw[World.frozen?_setCell];exact h.free j a
def By.Si(h:By w g l)(a:0<l.length){o:Obj}(b:w.heap[g]? =M o):o.isCells=t?:=by
 have:=h.cell 0 a;unfold fJ at this;simp only[b]at this
 cases o<;>first|(simp at this;done)|rfl
end
def BU{P:bi3}(w:jC)(a b e:jH)(g cap:O)(l:E O)(hs:P.underlying a=M (.slice e))(m:P.underlying e=M (.int p?))(f:P.underlying b=M .string)(h:By w g l)(d:Bytes l):(convert a b (.slice (aC g) l.length cap)).run P w=.ok (.string (bs l)) w:=by
 have:=run_convert_bytes_back (P:=P) w a b e ⟨g,0,Z⟩ cap (l.map gH) hs m f (λj c=>by
  rw[ax]at c;rw[addr_add,au,h.cell j c];have k:=Bk d j;have:mJ l j=l[j]:=by simp[mJ,c]
  simp only[gD];rw[this]at k⊢;congr 2;simp[ji];omega)
 rw[ax]at this;exact this
abbrev jT(b:I)(s:v?)(g n cap:O):x? jD:=#[jJ b,jL s,.slice (aC g) n cap,.func (.func 301) #[] #[]]
def Hc(a b:O)(w:jC):jE Tryz.prog 301 #[c? p? (a:I),c? p? (b:I)] w λe w'=>e=a? (c? p? ((max a b:O):I))/\w=w':=by
 by_cases h:b<a
 .have e:max a b=a:=jS;rw[e];go_in;go_wp2
  all_goals go_ret
  all_goals exact⟨mL jS,rfl⟩
 have e:max a b=b:=jS;rw[e];go_in;go_wp2
 all_goals go_ret
 all_goals exact⟨mL jS,rfl⟩
variable{w:jC}{row:w? O}
def Kv{a:jC}(h:a.grownBy w row):a.grownBy w.drew row:=⟨h.os,h.tape,h.output,h.size,h.block⟩
def te(b:I)(s:v?)(g cap p r:O)(l:E O)(w:jC)(j:p<l.length)(A:l.length<=65536)(h:By w g l):jE Tryz.prog 304 #[g? (jT b s g l.length cap),jJ p,.int p? r] w λe w'=>(∃v,e=a? v)/\By w' g (l.set p (max (mJ l p) r))/\(bY w w' g):=by
 have X:=jR.new w 457 (jT b s g l.length cap);have c2:(w.alloc (m? (jT b s g l.length cap) 457)).cell? ⟨w,2,Z⟩=M (.slice (aC g) l.length cap):=X.cell 2;have f:(w.alloc (m? (jT b s g l.length cap) 457)).cell? ⟨w,3,Z⟩=M (.func (.func 301) #[] #[]):=X.cell 3;have H:=ah (h.alloc (m? (jT b s g l.length cap) 457));have z:=h.lt;have y:=H.cell p j;have B:=H.free p j;have x:(0:I)<=p:=by omega
 have n:(p:I)<l.length:=by omega
 have t:Hid (w.grownBy (w.alloc (m? (jT b s g l.length cap) 457)) (M g)):=kH (jP (jQ _) _) _;clear X h;go_in;go_wp2_with fail;generalize w.alloc (m? (jT b s g l.length cap) 457)=V at*;refine bi1 (S:=λw'=>w'.cell? ⟨w,2,Z⟩=M (.slice (aC g) l.length cap)/\w'.cell? ⟨w,3,Z⟩=M (.func (.func 301) #[] #[])) (by kernel_rfl) ⟨c2,f⟩ (λc=>?_);refine re c ?_;refine pL 9 λK d=>?_;go_simp;refine d.out _ _ ⟨c2,f⟩ (λc=>?_);clear d K;refine az ?_;refine pL 11 λK d=>?_;go_simp;refine(Hc (mJ l p) r _).mono ?_;rintro e w'⟨rfl,rfl⟩;refine d.out _ _ ⟨c2,f⟩ (λc=>?_);clear d K;refine az ?_;refine re c ?_;refine pL 13 λK d=>?_;go_simp;refine d.out _ _ ⟨(by show(V.setCell _ _).cell? _=_;rw[eX _ _ _ _ (λe=>by injection e with q _;omega)];exact c2),(by show(V.setCell _ _).cell? _=_;rw[eX _ _ _ _ (λe=>by injection e with q _;omega)];exact f)⟩ (λc=>?_);clear d K;refine az ?_;refine hdn ?_;have k:Hid (By (V.setCell ⟨g,p,Z⟩ (.int p? ((max (mJ l p) r:O):I))).drew g (l.set p (max (mJ l p) r))):=(H.set j (max (mJ l p) r)).drew;have m:Hid (w.grownBy (V.setCell ⟨g,p,Z⟩ (.int p? ((max (mJ l p) r:O):I))).drew (M g)):=Kv (jW t (k6 V g p _));go_wp2;go_end0;exact⟨⟨_,rfl⟩,k,m⟩
def tV(b:I)(s:v?)(g cap:O)(l:E O)(w:jC)(d:Bytes l)(h:By w g l):jE Tryz.prog 298 #[g? (jT b s g l.length cap)] w λe w'=>e=a? (g? #[jJ b,jL (bs l)])/\Below w w w':=by
 have a:∀W,By W g l->(convert 151 9 (b? (aC g) l.length cap)).run Tryz.prog W=.ok (f? (bs l)) W:=λW j=>BU W 151 9 5 g cap l Tryz.underlying151 Tryz.underlying5 Tryz.underlying9 j d;have k:=h.alloc (m? (jT b s g l.length cap) 457);have f:=k.alloc (m? #[jJ 0,aF] 129);have c:=a _ f;go_in;go_wp2;exact jF (v:=g? #[jJ b,jL (bs l)]) (by simp[results,Tryz.results298,go_sem]) rfl ⟨rfl,jP (jP (jQ _) _) _⟩
section
open Go.RowKit Go.Shelf
attribute [local go_sem] db
abbrev Wm:={x:I // U x}
def Bb:∀(l:E I),Us l->∃a:E Wm,a.map (·.1)=l
 |[],_=>⟨[],rfl⟩
 |x::l,h=>by
  obtain⟨a,b⟩:=Bb l (λy c=>h y (dS _ c));exact⟨⟨x,h x ab⟩::a,by simp[b]⟩
def vi(a:w? jG)(len cap:O)(w:jC):jE Tryz.prog 302 #[.slice a len cap] w λe w'=>e=a? (.func (.func 307) #[] #[jO w])/\w.alloc (m? #[.slice a len cap] 33)=w':=by
 go_in;go_wp2;go_ret;exact⟨rfl,rfl⟩
def values1_in(n:O)(hn:1<=n)(l t n₀ g cap b off:O)(a:E Wm)(o:E I)(f:a.map (·.1)=o)(s:a.length<=65536)(R:t<n₀)(hg:t≠g)(L:b<n₀)(z:b≠g)(J F:E Wm->jC->Prop)(T:∀c x W,J c W->c.length<a.length->bl4 cz (n-1) Tryz.prog l #[jK x.1] W λe W'=> (e=a? (h? t?)/\J (c++[x]) W'/\kZ n₀ g W W')\/(e=a? (h? u?)/\F (c++[x]) W'))(W:jC) (K:jR W t 33 #[b? (bH b off) a.length cap]) (N:∀j,j<a.length->W.cell? ⟨b,off+j,Z⟩=M (c? n? (nth o j))) (Y:J [] W):bj2 cz n Tryz.prog 307 #[cG l,jO t] W λe W'=>(∃v,e=a? v)/\ ((∃D,D=a/\J D W')\/(∃c,c <+: a/\F c W')):=by
 have C:o.length=a.length:=by rw[<-f];simp
 have HZ:=ah f;have HC:=ah N;have α:=K.one;refine bj1 Tryz.func307 rfl trivial ?_ rfl;simp only[Tryz.ntmps307,xb,ao,dk];gi_wp2;gi_loopw[7] (λi wr=>∃k:O,k<=a.length/\i=c? o? k/\J (a.take k) wr/\kZ n₀ g W wr)
  (λi _=>a.length-(intOf i).toNat)
 case atStart=>exact⟨0,be _,rfl,Y,og _ _ _⟩
 obtain⟨k,hk,rfl,m,p⟩:=hrel;by_cases d:k<a.length
 .have G:=(co (p.2 b L z)).trans (HC k d);have hx:(a[k]).1=nth o k:=by rw[<-HZ];simp[nth,d]
  have X:=aj d;have A:=ah X;obtain⟨fn,B,r,H,hy,V⟩:=T _ (a[k]) wr m mO;rw[hx]at hy;generalize nth o k=v at*;gi_wp2;refine V.mono ?_;rintro e W3(⟨rfl,w,y⟩|⟨rfl,h⟩)
  .gi_wp2;go_roundw
   case rel=>exact⟨k+1,jS,lV,by rw[A];exact w,l_ p y⟩
   simp[intOf];omega
  gi_wp2;refine jF (bj7 rfl _ _ _) rfl ?_;refine⟨⟨_,rfl⟩,s? ⟨_,?_,h⟩⟩;rw[<-A];exact eS _ _
 obtain rfl:k=a.length:=jS;gi_wp2;go_end0;exact⟨⟨_,rfl⟩,r? ⟨_,dP,m⟩⟩
def vj(n:O)(k:1<=n)(l d cap:O)(A:w? jG)(J h:E Wm->jC->Prop)(W:jC)(f:jR W d 33 #[b? A 0 cap])(g:J [] W):bj2 cz n Tryz.prog 307 #[cG l,jO d] W λe W'=>(∃v,e=a? v)/\ ((∃c,c=[]/\J c W')\/(∃a,a <+: []/\h a W')):=by
 have j:=f.one;refine bj1 Tryz.func307 rfl trivial ?_ rfl;simp only[Tryz.ntmps307,xb,ao,dk];gi_wp2;gi_loopw[7] (λi wr=>i=c? o? 0/\wr=W) (λ_ _=>0)
 case atStart=>exact⟨rfl,rfl⟩
 obtain⟨rfl,rfl⟩:=hrel;gi_wp2;go_end0;exact⟨⟨_,rfl⟩,r? ⟨_,rfl,g⟩⟩
def values_stops(n:O)(y:1<=n)(o g cap:O)(A:w? jG)(h:E Wm)(d:E I)(c:h.map (·.1)=d)(f:d.length<=65536)(w:jC)(L:o≠g)(t:d≠[]->∀C,A=M C->C.block≠g)(q:jR w o 33 #[jN A d cap]) (N:Sl w w A d):bl1 cz n Tryz.prog 307 #[jO o] (λx:Wm=>#[br n? x.1]) (kZ w g) (λP=>P=h) (λv=>v <+: h) d.length w:=λl J G W r _ _ D F=>by
 have a:h.length=d.length:=by rw[<-c];simp
 cases h with
 |nil=>
  have e:d=[]:=by rw[<-c];rfl
  subst e;exact vj n y l o cap A J G W (q.later r) F
 |cons z s=>
  obtain⟨b,k,rfl,B,K⟩:=N.at_ (by rw[<-a];simp);have m:=q.later r;rw[<-a]at m D;exact values1_in n y l o w g cap b k (z::s) d c (by rw[a];exact f) q.lt L B (t (by rw[<-c];simp) _ rfl) J G D W m (λj H=>(r.cell (p:=⟨b,k+j,Z⟩) B).trans (K j (by rw[<-a];exact H))) F
end
section
open Go.RowKit Go.Shelf
attribute [local go_sem] db
def nS(l:E O)(p r:O):E O:=l.set p (max (mJ l p) r)
def uK(B:O)(l:E O)(n:O):E O:=nS l (o_ B n) (pF B n)
def mx(B:O)(l:E O)(a:E I):E O:=a.foldl (λl n=>uK B l n.toNat) l
def tP(B:O)(l:E O)(n:O):(uK B l n).length=l.length:=by simp[uK,nS]
def IK(B:O)(l:E O)(a:E I)(n:I):mx B l (a++[n])=uK B (mx B l a) n.toNat:=by simp[mx]
def ox(B:O)(l:E O)(a:E I):(mx B l a).length=l.length:=by
 induction a generalizing l with
 |nil=>rfl
 |cons n a b=>exact(b _).trans (tP _ _ _)
def AdI(w:jC)(z B g b cap:O)(s:v?)(l:E O)(a:E Wm)(W:jC):Prop:=
 By W g (mx B l (a.map (·.1)))/\jR W b 457 (jT B s g l.length cap)/\(bY w W g)/\z<=W.heap.size
variable{g:O}{s:v?}
def MU{z j cap:O}{Bd:O}(m:0<l.length)(q:w.heap.size<=Bd):bj3 Bd (AdI w z B g j cap s l):=by
 rintro o W W' row⟨k,p,b,n⟩ a h;have c:∀r,row=M r->(aH W r):=λr e=>(h r e).2;exact⟨k.kept (by rw[ox];exact m) a c,p.kept a c,⟨a.os.trans b.os,a.tape.trans b.tape,a.output.trans b.output,a_ b.size a.size,λi f d=>(a.block i (cn f b.size) (λe=>by have:=(h i e.symm).1;omega)).trans (b.block i f d)⟩,a_ n a.size⟩
def Tm(B g cap b:O)(s:v?)(A:w? jG)(l:E O)(a:E I)(hB:3<=B)(Uv:B<=8)(R:l.length=2^B)(hU:Us a)(hn:a.length<=65536)(w:jC)(hS:Sl w w A a)(β:a≠[]->∀ad,A=M ad->ad.block≠g)(h:By w g l):bj2 cz 6 Tryz.prog 297 #[g? (jT B s g l.length cap),jN A a b] w λe w'=>(∃v,e=a? v)/\By w' g (mx B l a)/\(bY w w' g):=by
 have p:0<l.length:=by rw[R];exact ee B
 have Df:l.length<=256:=by rw[R];exact a_ (ep (by decide) Uv) (by decide)
 have HL:=ah R;obtain⟨zs,N⟩:=Bb a hU;have HZ:=ah N;have zg:=h.lt;clear R N;refine bi7 Tryz.func297 rfl trivial ?_ rfl;simp only[Tryz.ntmps297,xb,ao,dk];refine bi4.2 ?_;go_wp2_with fail;refine(vi _ _ _ _).mono ?_;rintro e w'⟨rfl,rfl⟩;go_wp2_with fail;have J:Below w w ((w.alloc (m? (jT B s g l.length cap) 457)).alloc (oZ 48 A a b)):=jP (jP (jQ _) _) _;have hX:jR ((w.alloc (m? (jT B s g l.length cap) 457)).alloc (oZ 48 A a b)) w 457 (jT B s g l.length cap):=(jR.new w _ _).alloc _;have hY:jR ((w.alloc (m? (jT B s g l.length cap) 457)).alloc (oZ 48 A a b)) (w.heap.size+1) 33 #[jN A a b]:=by
  have:=jR.new (w.alloc (m? (jT B s g l.length cap) 457)) 33 #[jN A a b];rwa[b_]at this
 have γ:AdI w (w.heap.size+2) B g w cap s l [] ((w.alloc (m? (jT B s g l.length cap) 457)).alloc (oZ 48 A a b)):=⟨(h.alloc _).alloc _,hX,kH J _,lV⟩;have κ:((w.alloc (m? (jT B s g l.length cap) 457)).alloc (oZ 48 A a b)).heap.size=w.heap.size+2:=lV;have δ:=hS.later J;generalize((w.alloc (m? (jT B s g l.length cap) 457)).alloc (oZ 48 A a b))=V at*;refine(bi4 (n:=6)).1 ?_;refine bj9 rfl jS (gf:=307) (lb:=#[.pointer (M (aE w))]) rfl trivial (enters_of Tryz.func307 oo rfl)
  (values_stops 5 jS (w.heap.size+1) g b A zs a HZ hn V jS β hY δ) (λh k=>l_ h k) (qf aa) (Below.refl _ _) (λ_=>rfl)
  (AdI w (w.heap.size+2) B g w cap s l) (λ_ _ _=>False) (MU p jS) (λ_ _ _ _ _ h _ _=>h) γ
  (λx=>{tmps:=#[g? (jT B s g l.length cap),jN A a b,jO w,undef,jK x.1,undef,undef,jN A a b,.func (.func 307) #[] #[.pointer (M (aE w))],jK x.1,undef,undef,undef,undef,undef,undef,undef,undef,undef,undef,undef,undef,undef],defers:=[]}) ?assign ?body ?done ?stop
 case assign=>
  intro l x W K H;gi_wp2;exact H
 case body=>
  rintro l' t⟨xi,m⟩ W⟨C,q,z,y⟩ ε;obtain⟨n,rfl⟩:∃n:O,xi=n:=⟨xi.toNat,by have:=m.1;omega⟩;have Q:n<18446744073709551616:=by have:=m.2;omega
  obtain⟨L,hL⟩:∃L,mx B l (t.map (·.1))=L:=⟨_,rfl⟩;have X:Hid (mx B l ((t++[(⟨(n:I),m⟩:Wm)]).map (·.1))=uK B L n):=by
   show _=_;rw[dH,<-hL];exact IK B l _ (n:I)
  have F:L.length=l.length:=by rw[<-hL];exact ox _ _ _
  rw[hL]at C;have Y:o_ B n<L.length:=by rw[F,HL];exact Wi jS Q
  obtain⟨η,θ⟩:=LQ hB Uv n;have HW:=ah q;have HG:=ah C;have SP:=ah F;have c0:=q.cell 0;have c1:=q.cell 1;have c2:=q.cell 2;have c3:=q.cell 3;gi_wp2_with fail;refine⟨trivial,?_⟩;refine(d_ l' (jI.2 (JM B n hB Uv Q W))).mono ?_;rintro e w'⟨rfl,rfl⟩;gi_wp2_with fail;refine⟨trivial,?_⟩;have HT:Hid (jE Tryz.prog 304 #[g? (jT B s g l.length cap),jJ ((o_ B n:O):I),.int p? ((pF B n:O):I)] W λe w'=>(∃v,e=a? v)/\By w' g (uK B L n)/\(bY W w' g)):=by
   have:=te B s g cap (o_ B n) (pF B n) L W Y (by rw[SP];omega) HG;rw[SP]at this;exact this
  refine(d_ l' (jI.2 HT)).mono ?_;rintro e W2⟨⟨v,rfl⟩,α,d⟩;gi_wp2_with fail;refine⟨KeepsOthers.of_grownBy d (λj o e ho=>by cases e;exact HG.Si jS ho),p8 jS d,?_,HW.grown d (λe=>TP),jW z d,a_ y d.size⟩;rw[X];exact α
 case done=>
  rintro D ys W hD rfl⟨C,q,z,y⟩ H;rw[HZ]at C;gi_wp2;refine⟨lV,r? ⟨_,_,rfl,bi2 H,?_⟩⟩;have T:∀r,M D=M r->(aH W r):=λr e=>by cases e;exact⟨_,H,rfl⟩
  exact⟨.tuple #[],bj7 rfl _ _ _,⟨_,rfl⟩,C.kept (by rw[ox];exact p) (bj5 _ D cJ) T,(MU (Bd:=V.heap.size) p jS ys W _ (M D) ⟨by rw[HZ];exact C,q,z,y⟩ (bj5 _ D cJ) (λr e=>by cases e;exact⟨hD,_,H,rfl⟩)).2.2.1⟩
 rintro D c t W _ _ h _;exact h.elim
end
abbrev LE:jD:=g? #[jJ 0,aF,jM,.nilFunc]
def BL(w:jC)(b:I)(e:bi6)(w':jC):Prop:=
 Below w w w'/\((nO b=t?/\∃g,w.heap.size<=g/\e=a? (d? #[g? (jT b ⟨#[]⟩ g (2^b.toNat) (2^b.toNat)),j?])/\By w' g (de (2^b.toNat) 0))\/
  (nO b=u?/\∃s,e=a? (d? #[LE,sC s])))
def Tryz.Xn:(Tryz.prog.info? 5).map (λi=>(i.zero,i.size,i.bytes))=M (M (c? p? 0),1,1):=oo
def Uf(n:O):madeCells #[c? p? 0] n=(fF n (br p? 0)):=by
 apply Array.ext
 .simp[size_madeCells]
 intro i a b;simp[madeCells,Nat.mod_one]
variable{g:O}{t:jH}
def Sj(h:jR w g t (fF n (br p? 0))):By w g (de n 0):=
 ⟨h.lt,λj a=>by
  rw[ey]at a;rw[h.cell];simp[mJ,a],λj _=>h.frozen j⟩
def oG(b:I)(w:jC):jE Tryz.prog 295 #[jJ b] w (BL w b):=by
 cases hs:nO b with
 |false=>
  have H:=ah hs;go_in;go_wp2_with fail;refine(pl b _).mono ?_;rintro e w'⟨rfl,rfl⟩;rw[H];go_wp2;exact jF (v:=d? #[LE,sC _]) (by simp[results,Tryz.results295,go_sem];rfl) rfl ⟨jP (jQ _) _,s? ⟨H,_,rfl⟩⟩
 |true=>
  obtain⟨B,rfl,b1,b2⟩:=bits_nat hs;obtain⟨p1,p2⟩:=Ae b1 b2;obtain⟨i0,hi0,hz0,hz1,hz2⟩:=bi5 Tryz.Xn;obtain⟨N,hN⟩:∃N:O,2^B=N:=⟨_,rfl⟩;have hNI:(2:I)^B=(N:I):=by rw[<-hN];simp
  rw[hN]at p1 p2;have hsh:wrap64 ((2:I)^B)=(N:I):=by rw[hNI];unfold wrap64;omega
  have hmk:∀W,(Instr.makeSlice 151 (aJ N) (aJ N)).run Tryz.prog W=.ok (b? (aM W) N N) (W.alloc (m? (madeCells (br p? 0).cells N) 5)):=λW=>
   vo (P:=Tryz.prog) 151 5 i0 (c? p? 0) Tryz.underlying151 hi0 hz0 hz1 o? o? N N aa (by rw[hz2];omega) jS W
  have H:=ah hs;have HN:=ah hN;go_in;go_wp2_with fail;refine(pl _ _).mono ?_;rintro e w'⟨rfl,rfl⟩;rw[H];go_wp2;refine jF (v:=d? #[g? (jT B ⟨#[]⟩ (w.heap.size+1) N N),j?]) (by simp[results,Tryz.results295,go_sem]) rfl
   ⟨jP (jP (jQ _) _) _,r? ⟨H,w.heap.size+1,dU _,by rw[dM,HN],?_⟩⟩
  rw[dM,HN];refine Sj (t:=5) ?_;rw[<-Uf];have h:=jR.new (w.alloc (m? (jT B ⟨#[]⟩ (w.heap.size+1) N N) 457)) 5 (madeCells #[c? p? 0] N);rw[b_]at h;exact h
section
open Go.RowKit Go.Shelf
attribute [local go_sem] db
end
section
attribute [local go_sem] db
def kU{b:I}(h:kD b l=t?):Bytes l:=by
 obtain⟨B,rfl,e,d,c,q4⟩:=lh h;exact λx a=>by have:=q4 x a;omega
end
structure Hr where
 b:I
 l:E O
 e:I
def E0:Hr:=⟨0,[],70⟩
abbrev hV(b:I)(l:E O):jD:=g? #[jJ b,jL (bs l)]
def yY(w:jC)(r:Hr)(e:bi6)(w':jC):Prop:=e=a? (d? #[hV r.b r.l,jJ r.e])/\Below w w w'
def JQ(b:I)(a:E I):Hr:=if nO b=t? then⟨b,mx b.toNat (de (2^b.toNat) 0) a,0⟩else E0
def pc(b:I)(l:E O)(n:O):Hr:=if kD b l=t? then⟨b,uK b.toNat l n,0⟩else E0
def vL:bs []=⟨#[]⟩:=rfl
def Ranks(B:O)(l:E O):Prop:=∀x∈l,x<=65-B
def Ranks.bytes(h:Ranks B l):Bytes l:=λx a=>by have:=h x a;omega
def Ranks.set{B:O}{l:E O}(h:Ranks B l)(p:O){v:O}(b:v<=65-B):Ranks B (l.set p v):=λx c=>by
 rcases dO c with a|a
 .exact h x a
 rw[a];exact b
def Ranks.mJ{B:O}{l:E O}(h:Ranks B l)(p:O):mJ l p<=65-B:=by
 rcases fB p l.length with a|a
 .exact h _ (MC a)
 have:YtfcnedcahoifoaaGreatDoor.Hl.mJ l p=0:=by simp[YtfcnedcahoifoaaGreatDoor.Hl.mJ,a]
 omega
def Ranks.tell(h:Ranks B l)(p:O){r:O}(a:r<=65-B):Ranks B (nS l p r):=h.set p (by have:=h.mJ p;omega)
def Ranks.add(h:Ranks B l)(b:3<=B)(a:B<=8)(n:O):Ranks B (uK B l n):=h.tell _ (LQ b a n).2
def Ranks.mx(h:Ranks B l)(d:3<=B)(b:B<=8)(a:E I):Ranks B (mx B l a):=by
 induction a generalizing l with
 |nil=>exact h
 |cons n a c=>exact c (h.add d b _)
def r7(B n:O):Ranks B (de n 0):=λx a=>by rw[gh a];omega
def BM(w:jC)(b:I)(l:E O)(e:bi6)(w':jC):Prop:=
 Below w w w'/\((kD b l=t?/\∃g cap,w.heap.size<=g/\e=a? (d? #[g? (jT b (bs l) g l.length cap),j?])/\By w' g l)\/
  (kD b l=u?/\∃s,e=a? (d? #[LE,sC s])))
def _root_.Go.Proofs.YtfcnedcahoifoaaGreatDoor.jR.two{a b:jD}(h:jR w g t #[a,b]):w.cell? ⟨g,0,Z⟩=M a/\w.cell? ⟨g,1,Z⟩=M b/\w.frozen? ⟨g,0,Z⟩=u?/\w.frozen? ⟨g,1,Z⟩=u?:=⟨h.cell 0,h.cell 1,h.frozen 0,h.frozen 1⟩
def _root_.Go.Proofs.YtfcnedcahoifoaaGreatDoor.jR.four{a b c d:jD}(h:jR w g t #[a,b,c,d]):w.cell? ⟨g,0,Z⟩=M a/\w.cell? ⟨g,1,Z⟩=M b/\w.cell? ⟨g,2,Z⟩=M c/\w.cell? ⟨g,3,Z⟩=M d:=⟨h.cell 0,h.cell 1,h.cell 2,h.cell 3⟩
def D0{P:bi3}(w:jC)(a b e:jH)(l:E O)(p:Bytes l)(hs:P.underlying a=M .string)(m:P.underlying b=M (.slice e))(r:P.underlying e=M (.int p?)):∃cap w',(convert a b (.string (bs l))).run P w=.ok (.slice (M (lz 43 w)) l.length cap) w'/\By w' w.heap.size l/\(bJ w w')/\w'.heap.size=w.heap.size+1:=by
 have h:=run_bytes_of_string (P:=P) w a b e (bs l) hs m r;have o:=grownCap_ge w (bs l).size 0 e;generalize grownCap w (bs l).size 0 e=cap at*;rw[oA]at h o;refine⟨_,_,h,?_,((Below.refl _ _).drew).alloc aa _,by simp⟩;have f:(w.drew.alloc (m? (bytesRow (bs l) cap) e ((bytesRow (bs l) cap).size,(bytesRow (bs l) cap).size+1))).heap[w.heap.size]? =M (m? (bytesRow (bs l) cap) e ((bytesRow (bs l) cap).size,(bytesRow (bs l) cap).size+1)):=du w.drew _;have q:(bytesRow (bs l) cap).size=cap:=by
  have:=oA l;simp[bytesRow,bs,iG]at this⊢;omega
 refine⟨oh f,λj g=>?_,λj g=>?_⟩
 .have d:j<(bs l).data.size:=by simp[bs];exact g
  have c:=Iv p (k:=j) (by rw[oA];exact g);unfold fJ;simp only[f];have:=bytesRow_at (bs l) cap j d;rw[this];exact C? (λn:O=>M (br p? (n:I))) c
 unfold ju;simp only[f];simp;omega
variable{b:O}
def By.far(h:By w g l){o:O}(u:jD)(a:g≠b):By (w.setCell ⟨b,o,Z⟩ u) g l:=
 h.keep (by simp[bj]) (Below.heap_setCell w ⟨b,o,Z⟩ u g a)
def nI(b:I)(l:E O)(hL:Bytes l)(w:jC):jE Tryz.prog 321 #[hV b l] w (BM w b l):=by
 cases hs:kD b l with
 |false=>
  have H:=ah hs;go_in;go_wp2_with fail;refine(j_ b l hL _).mono ?_;rintro e w'⟨rfl,hb⟩;rw[H];obtain⟨hc,hf⟩:=Sq hb;have hz:w.heap.size+1<w'.heap.size:=YV;go_wp2;refine jF (v:=d? #[LE,sC _]) (by simp[results,Tryz.results321,go_sem,hc,hz];rfl) rfl ?_;exact⟨((((kx (kx hb)).setCell (by show(aZ w);omega) _).setCell (by show(aZ w);omega) _).setCell (by show(aZ w);omega) _).setCell (by show(aZ w);omega) _,s? ⟨H,_,rfl⟩⟩
 |true=>
  have H:=ah hs;go_in;go_wp2_with fail;refine(j_ b l hL _).mono ?_;rintro e w'⟨rfl,hb⟩;rw[H];obtain⟨hc,hf⟩:=Sq hb;obtain⟨cap,w2,hcv,hB,hb2,hz2⟩:=D0 (P:=Tryz.prog) w' 9 151 5 l hL Tryz.underlying9 Tryz.underlying151 Tryz.underlying5;obtain⟨hc2,hf2⟩:=Sq hb2;have hz:w.heap.size+1<w'.heap.size:=YV;have HB:=ah hB;go_wp2;refine jF (v:=d? #[g? (jT b (bs l) w' l.length cap),j?]) (by simp[results,Tryz.results321,go_sem,hc,hz,hc2]) rfl ?_;refine⟨((((Below.two (kx (kx hb)) hb2).setCell (by show(aZ w);omega) _).setCell (by show(aZ w);omega) _).setCell (by show(aZ w);omega) _).setCell (by show(aZ w);omega) _,r? ⟨H,w',cap,jS,rfl,?_⟩⟩;exact(((HB.far _ jS).far _ jS).far _ jS).far _ jS
variable{A:w? jG}
def WP{c:E I}(h:Sl w w A c)(l:w.heap.size<=g):c≠[]->∀a,A=M a->a.block≠g:=λf a e=>by
 obtain⟨b,j,d,k,_⟩:=h (by simpa using f);rw[e]at d
 cases d
 show b≠g;omega
def Fu(B g n cap d:O)(s:v?)(A:w? jG)(l:E O)(a:E I)(k:3<=B)(p:B<=8)(q:l.length=2^B)(c:l.length=n)(o:Us a)(j:a.length<=65536)(w:jC)(m:Sl w w A a)(b:a≠[]->∀f,A=M f->f.block≠g)(h:By w g l):jE Tryz.prog 297 #[g? (jT B s g n cap),jN A a d] w λe w'=>(∃v,e=a? v)/\By w' g (mx B l a)/\(bY w w' g):=by
 subst c;exact jI.1 (Tm B g cap d s A l a k p q o j w m b h)
def EO(b:I)(s:v?)(g n cap:O)(l:E O)(a:l.length=n)(w:jC)(c:Bytes l)(h:By w g l):jE Tryz.prog 298 #[g? (jT b s g n cap)] w λe w'=>e=a? (g? #[jJ b,jL (bs l)])/\Below w w w':=by
 subst a;exact tV b s g cap l w c h
def Xf(b:I)(A:w? jG)(a:E I)(F:O)(V:Us a)(T:a.length<=65536)(w:jC)(J:Sl w w A a):jE Tryz.prog 291 #[jJ b,jN A a F] w (yY w (JQ b a)):=by
 go_in;go_wp2_with fail;refine(oG b _).mono ?_;rintro e C⟨hb,⟨d,g,hg,rfl,h⟩|⟨d,s,rfl⟩⟩
 .obtain⟨B,rfl,N,R⟩:=bits_nat d;have z:Hid (JQ B a=⟨B,mx B (lz 63 B) a,0⟩):=by show JQ B a=_;rw[JQ,B? d,dM]
  have Q:w.heap.size<C.heap.size:=by have:=hb.size;simp at this;omega
  have Y:w.heap.size<g:=by simp at hg;omega
  rw[dM]at h⊢;have G:=(jR.new w 129 #[jJ 0,aF]).later hb;have BO:=ah h;have n:=ah (kx hb);have HZ:=ah G;have HS:=ah (J.later (kx hb));have z1:=h.lt;clear d h hb G;go_wp2_with fail;refine(Fu B g (2^B) (2^B) F ⟨#[]⟩ A (lz 63 B) a N R (by simp) (by simp) V T _ ((HS.alloc aa _).more (by simp)) (WP J (by omega)) (BO.alloc _)).mono ?_;rintro e K⟨⟨v,rfl⟩,x,c⟩;have r:(mx B (lz 63 B) a).length=2^B:=by rw[ox,ey]
  have y:Bytes (mx B (lz 63 B) a):=((r7 B _).mx N R a).bytes;have W:=(jR.new C _ _).grown c (λe=>LR);obtain⟨c0,c1,c2,c3⟩:=W.four;have m:=(jP n _).grown c mO (λk e=>TP);have q:=(HZ.alloc (m? (jT B ⟨#[]⟩ g (2^B) (2^B)) 457)).grown c (λe=>LR);have o:=ah x;have D:=ah r;have Lx:=ah y;have H:=ah m;have j:=ah q;generalize mx B (lz 63 B) a=L at*;go_wp2_with fail;refine(EO B ⟨#[]⟩ g (2^B) (2^B) L D K Lx o).mono ?_;rintro e w3⟨rfl,f⟩;have l:=j.later f;obtain⟨t,p,f0,f1⟩:=l.two;go_wp2;refine jF (v:=d? #[hV B L,jJ 0]) (by simp[results,Tryz.results291,go_sem,t,p]) rfl ⟨by rw[z],?_⟩;exact((H.trans (f.mono H.size)).setCell aa _).setCell aa _
 have z:Hid (JQ b a=E0):=by show JQ b a=_;rw[JQ,A? (by simp[d])]
 have Q:w.heap.size<C.heap.size:=YV;have X:=(jR.new w 129 #[jJ 0,aF]).later hb;have n:=ah (kx hb);obtain⟨t,p,f0,f1⟩:=X.two;go_wp2_with fail;refine(kR s _).mono ?_;rintro e K⟨rfl,rfl⟩;go_wp2;refine jF (v:=d? #[hV 0 [],jJ 70]) (by simp[results,Tryz.results291,go_sem,t,p,vL,Q]) rfl ⟨by rw[z];rfl,?_⟩;exact jP (jP ((n.setCell aa _).setCell aa _) _) _
def add_any(b:I)(l:E O)(hL:Bytes l)(n:O)(hn:n<18446744073709551616)(w:jC):jE Tryz.prog 317 #[hV b l,jK n] w (yY w (pc b l n)):=by
 go_in;go_wp2_with fail;refine(nI b l hL _).mono ?_;rintro e a⟨hb,⟨h,g,cap,hg,rfl,q⟩|⟨h,s,rfl⟩⟩
 .obtain⟨B,rfl,V,X,N,Q⟩:=lh h;have D:Hid (pc B l n=⟨B,uK B l n,0⟩):=by show pc B l n=_;rw[pc,B? h,dM]
  have W:w.heap.size+1<a.heap.size:=by have:=hb.size;simp at this;omega
  have α:w.heap.size+1<g:=by simp at hg;omega
  have f:=jR.new (w.alloc (m? #[jJ B,jL (bs l)] 129)) 129 #[jJ 0,aF];rw[b_]at f;have HZ:=ah (f.later hb);have T:=ah q;have o:=ah (kx (kx hb));have z1:=q.lt;have H:=ah N;have Y:=ah Q;clear h q hb f N Q;go_wp2_with fail;have j:l.length=2^B:=H;have R:Sl ((a.alloc (m? (jT B (bs l) g l.length cap) 457)).alloc (m? #[jK (n:I)] 22)) ((a.alloc (m? (jT B (bs l) g l.length cap) 457)).alloc (m? #[jK (n:I)] 22)).heap.size (M (aE a)) [(n:I)]:=PG _ (n:I) 22 _ (by simp);refine(Fu B g l.length cap 1 (bs l) _ l [(n:I)] V X j rfl (λx hx=>by rw[eM.1 hx];unfold U;omega) (by simp) _ R (λ_ ad e=>by cases e;show a.heap.size+1≠g;omega) ((T.alloc _).alloc _)).mono ?_;rintro e A⟨⟨v,rfl⟩,d,c⟩;have J:mx B l [(n:I)]=uK B l n:=by simp[mx]
  rw[J]at d;have F:Hid ((uK B l n).length=l.length):=tP _ _ _;have Lx:Hid (Bytes (uK B l n)):=(Ranks.add (l:=l) Y V X n).bytes;have K:jR A a 457 (jT B (bs l) g l.length cap):=((jR.new a _ _).alloc _).grown c (λe=>by injection e with e;omega);obtain⟨c0,c1,c2,c3⟩:=K.four;have G:=ah ((jP (jP o _) _).grown c (by simp;omega) (λk e=>by cases e;omega));have p:=ah (((HZ.alloc _).alloc _).grown c (λe=>by injection e with e;omega));have t:=ah d;clear d K c T o HZ H Y j R J;generalize uK B l n=L at*;go_wp2_with fail;refine(EO B (bs l) g l.length cap L F A Lx t).mono ?_;rintro e w3⟨rfl,m⟩;have r:=p.later m;obtain⟨z,y,f0,f1⟩:=r.two;go_wp2;refine jF (v:=d? #[hV B L,jJ 0]) (by simp[results,Tryz.results317,go_sem,z,y]) rfl ⟨by rw[D],?_⟩;exact((G.trans (m.mono G.size)).setCell (by show(aZ w);omega) _).setCell (by show(aZ w);omega) _
 have D:Hid (pc b l n=E0):=by show pc b l n=_;rw[pc,A? (by simp[h])]
 have W:w.heap.size+1<a.heap.size:=YV;have f:=jR.new (w.alloc (m? #[jJ b,jL (bs l)] 129)) 129 #[jJ 0,aF];rw[b_]at f;have hZ:=f.later hb;have o:=ah (kx (kx hb));obtain⟨z,y,f0,f1⟩:=hZ.two;have C:w.heap.size<a.heap.size:=jS;go_wp2_with fail;refine(kR s _).mono ?_;rintro e A⟨rfl,rfl⟩;go_wp2;refine jF (v:=d? #[hV 0 [],jJ 70]) (by simp[results,Tryz.results317,go_sem,z,y,vL,W,C]) rfl ⟨by rw[D];rfl,?_⟩;exact jP (jP ((o.setCell (by show(aZ w);omega) _).setCell (by show(aZ w);omega) _) _) _
section
attribute [local go_sem] db
def mrg(l m:E O)(ps:E O):E O:=ps.foldl (λl p=>nS l p (mJ m p)) l
def rk(l m:E O):E O:=mrg l m (cK m)
def Qm(l m:E O)(ps:E O)(p:O):mrg l m (ps++[p])=nS (mrg l m ps) p (mJ m p):=by simp[mrg]
def si(l m:E O)(ps:E O):(mrg l m ps).length=l.length:=by
 induction ps generalizing l with
 |nil=>rfl
 |cons p ps a=>exact(a _).trans (by simp[nS])
variable{m:E O}
def Ranks.mrg(h:Ranks B l)(a:Ranks B m)(ps:E O):Ranks B (mrg l m ps):=by
 induction ps generalizing l with
 |nil=>exact h
 |cons p ps b=>exact b (h.tell p (a.mJ p))
def oc(h:kD (B:I) l=t?):3<=B/\B<=8/\l.length=2^B/\Ranks B l:=by
 obtain⟨b,e,d,f,c,a⟩:=lh h;have:b=B:=jS;subst this;exact⟨d,f,c,a⟩
def l8(b:I)(l:E O)(c:I)(m:E O):Hr:=if kD b l=t?/\kD c m=t?/\c=b then⟨b,rk l m,0⟩else E0
def Yn(V:jC)(N B g b cap:O)(s:v?)(l m:E O)(a:E (At N))(W:jC):Prop:=
 By W g (mrg l m (a.map (·.1)))/\jR W b 457 (jT B s g l.length cap)/\(bY V W g)
variable{s:v?}
def Vg{V:jC}{N j cap:O}{Bd:O}(n:0<l.length)(q:V.heap.size<=Bd):bj3 Bd (Yn V N B g j cap s l m):=by
 rintro o W W' row⟨k,p,b⟩ a h;have c:∀r,row=M r->(aH W r):=λr e=>(h r e).2;exact⟨k.kept (by rw[si];exact n) a c,p.kept a c,⟨a.os.trans b.os,a.tape.trans b.tape,a.output.trans b.output,a_ b.size a.size,λi f d=>(a.block i (cn f b.size) (λe=>by have:=(h i e.symm).1;omega)).trans (b.block i f d)⟩⟩
def ui(w:jC)(a b c:x? jD)(d f e:jH):jR (((w.alloc (m? a d)).alloc (m? b f)).alloc (m? c e)) w d a/\jR (((w.alloc (m? a d)).alloc (m? b f)).alloc (m? c e)) (w.heap.size+1) f b/\jR (((w.alloc (m? a d)).alloc (m? b f)).alloc (m? c e)) (aN w) e c:=by
 refine⟨((jR.new w d a).alloc _).alloc _,?_,?_⟩
 .have h:=(jR.new (w.alloc (m? a d)) f b).alloc (m? c e);rwa[b_]at h
 have h:=jR.new ((w.alloc (m? a d)).alloc (m? b f)) e c;rwa[b_,b_]at h
def Nz(b c:I)(l m:E O)(hL:Bytes l)(G:Bytes m)(w:jC)(p:¬(kD b l=t?/\kD c m=t?/\c=b)):jE Tryz.prog 320 #[hV b l,hV c m] w (yY w E0):=by
 go_in;go_wp2_with fail;refine(nI b l hL _).mono ?_;rintro e f⟨hb,⟨z,g,cap,hg,rfl,AR⟩|⟨z,s,rfl⟩⟩
 .obtain⟨X,Y,β⟩:=ui w #[jJ b,jL (bs l)] #[jJ c,jL (bs m)] #[jJ 0,aF] 129 129 129;have C:=ah (X.later hb);have A:=ah (Y.later hb);have x:=ah (β.later hb);have r:=ah (kx (kx (kx hb)));have D:w.heap.size+1+1<f.heap.size:=YV;have q:w.heap.size+1<f.heap.size:=jS;have o:w.heap.size<f.heap.size:=jS;obtain⟨J,V,_,_⟩:=C.two;obtain⟨R,K,_,_⟩:=A.two;obtain⟨k,j,B,F⟩:=x.two;have Q:=ah p;have T:=ah z;go_wp2_with fail;refine(j_ c m G _).mono ?_;rintro e t⟨rfl,a⟩;have O5:=ah ((A.alloc _).later a);have W:=ah ((C.alloc _).later a);have y:=ah ((x.alloc _).later a);have n:=ah (r.trans ((kx a).mono r.size));have L:f.heap.size+1<=t.heap.size:=by have:=a.size;simpa using this
  obtain⟨J,V,_,_⟩:=W.two;obtain⟨R,K,_,_⟩:=O5.two;obtain⟨k,j,B,F⟩:=y.two
  cases H:kD c m with
  |false=>
   have d:w.heap.size+1+1<t.heap.size:=jS;go_wp2_with fail;refine(kR _ _).mono ?_;rintro e N⟨rfl,rfl⟩;go_wp2;refine jF (v:=d? #[hV 0 [],jJ 70]) (by simp[results,Tryz.results320,go_sem,k,j,vL,d]) rfl ⟨rfl,?_⟩;exact jP ((n.setCell (by show(aU w);omega) _).setCell (by show(aU w);omega) _) _
  |true=>
   have α:(c !=b)=t?:=by
    have h:=Q;simp;intro e;exact h ⟨T,H,e⟩
   have d:w.heap.size+1+1<t.heap.size:=jS;go_wp2_with fail;refine(kR _ _).mono ?_;rintro e N⟨rfl,rfl⟩;go_wp2;refine jF (v:=d? #[hV 0 [],jJ 70]) (by simp[results,Tryz.results320,go_sem,k,j,vL,d]) rfl ⟨rfl,?_⟩;exact jP ((n.setCell (by show(aU w);omega) _).setCell (by show(aU w);omega) _) _
 obtain⟨X,Y,β⟩:=ui w #[jJ b,jL (bs l)] #[jJ c,jL (bs m)] #[jJ 0,aF] 129 129 129;have x:=ah (β.later hb);have r:=ah (kx (kx (kx hb)));have D:w.heap.size+1+1<f.heap.size:=YV;have q:w.heap.size+1<f.heap.size:=jS;have o:w.heap.size<f.heap.size:=jS;obtain⟨k,j,B,F⟩:=x.two;go_wp2_with fail;refine(kR s _).mono ?_;rintro e t⟨rfl,rfl⟩;go_wp2;refine jF (v:=d? #[hV 0 [],jJ 70]) (by simp[results,Tryz.results320,go_sem,k,j,vL,D,q,o]) rfl ⟨rfl,?_⟩;exact jP (jP ((r.setCell (by show(aU w);omega) _).setCell (by show(aU w);omega) _) _) _
def Qp(B:O)(l m:E O)(w:jC)(A:kD B l=t?)(hm:kD B m=t?):bj2 cz 6 Tryz.prog 320 #[hV B l,hV B m] w (yY w ⟨B,rk l m,0⟩):=by
 have HR:=ah A;have HM:=ah hm;have hL:=kU A;have hM:=kU hm;clear A hm;refine bi7 Tryz.func320 rfl trivial ?_ rfl;simp only[Tryz.ntmps320,xb,ao,dk];refine bi4.2 ?_;go_wp2_with fail;refine(nI B l hL _).mono ?_;rintro e z⟨P,⟨A,g,cap,hg,rfl,AR⟩|⟨A,s,rfl⟩⟩
 rotate_left
 .exact H? HR.out (by simp[A])
 obtain⟨X,Y,Z⟩:=ui w #[jJ B,jL (bs l)] #[jJ B,jL (bs m)] #[jJ 0,.string ⟨#[]⟩] 129 129 129;have HX:=ah (X.later P);have HY:=ah (Y.later P);have HZ:=ah (Z.later P);have HB:=ah (kx (kx (kx P)));have hz:w.heap.size+1+1<z.heap.size:=by have:=P.size;simp at this;omega
 have hz0:w.heap.size+1<z.heap.size:=by omega
 have hz1:w.heap.size<z.heap.size:=by omega
 have hg1:w.heap.size+1+1<g:=by simp at hg;omega
 have d:=AR.lt;have BO:=ah AR;obtain⟨x0,x1,_,_⟩:=HX.two;obtain⟨y0,y1,_,_⟩:=HY.two;clear P AR X Y Z A hg;go_wp2_with fail;refine(j_ B m hM _).mono ?_;rintro e t⟨rfl,a⟩;have μ:=ah ((jR.new z 457 (jT B (bs l) g l.length cap)).later a);have O5:=ah ((HY.alloc _).later a);have Vj:=ah ((HX.alloc _).later a);have θ:=ah ((HZ.alloc _).later a);have δ:=ah ((BO.alloc _).later a);have R:=ah (HB.trans ((kx a).mono HB.size));have hs2:z.heap.size+1<=t.heap.size:=by have:=a.size;simpa using this
 clear a x0 x1 y0 y1 HX HY HZ HB BO;obtain⟨x0,x1,_,_⟩:=Vj.two;obtain⟨y0,y1,_,_⟩:=O5.two;rw[HM];go_wp2_with fail;refine(xu _ _).mono ?_;rintro e w'⟨rfl,rfl⟩;go_wp2_with fail;have hR:jR (t.alloc (m? #[jL (bs m)] 9)) t 9 #[jL (bs m)]:=jR.new _ _ _;have φ:=ah (μ.alloc (m? #[jL (bs m)] 9));have Ψ:=ah (θ.alloc (m? #[jL (bs m)] 9));have ω:=ah (δ.alloc (m? #[jL (bs m)] 9));have ν:=ah (jP R (m? #[jL (bs m)] 9));have hs3:(t.alloc (m? #[jL (bs m)] 9)).heap.size=t.heap.size+1:=by simp
 clear x0 x1 y0 y1 Vj O5 μ θ δ R;generalize t.alloc (m? #[jL (bs m)] 9)=V at*;obtain⟨zs,κ⟩:=mH (N:=m.length) (bu m.length) (λp hp=>dh.1 hp);have η:=ah κ;obtain⟨b1,b2,hl,Q⟩:=oc HR;obtain⟨_,_,T,α⟩:=oc HM;have H:m.length=l.length:=by rw[hl,T]
 have χ:0<l.length:=by rw[hl];exact ee _
 have Df:l.length<=256:=by rw[hl];exact(Ae b1 b2).2
 have aH0:m.length<=256:=by rw[H];exact Df
 have Yy:=ah H;have ψ:Hid (Ranks B l):=Q;have ξ:Hid (Ranks B m):=α;have hst:Yn V m.length B g z cap (bs l) l m [] V:=⟨ω,φ,N7 _ _⟩;clear κ hl T H Q α;refine(bi4 (n:=6)).1 ?_;refine bj9 rfl (by omega) (gf:=259) (lb:=#[jO t]) rfl trivial (enters_of Tryz.func259 (by kernel_rfl) rfl)
  (yw 5 (by omega) t g m hM zs η (by omega) V (by omega) hR)
  (λh k=>l_ h k) (qf (by omega)) (Below.refl _ _) (λ_=>rfl)
  (Yn V m.length B g z cap (bs l) l m) (λ_ _ _=>False) (Vg χ (by omega)) (λ_ _ _ _ _ h _ _=>h) hst
  (λx=>{tmps:=#[hV B l,hV B m,.pointer (M ⟨w.heap.size,0,Z⟩),.pointer (M ⟨w.heap.size+1,0,Z⟩),.pointer (M ⟨w.heap.size+1+1,0,Z⟩),.int o? 0,.pointer (M ⟨z.heap.size,0,Z⟩),j?,.int o? (x.1:I),.int p? ((mJ m x.1:O):I),
   .tuple #[g? (jT B (bs l) g l.length cap),j?],g? #[.int o? B,.string (bs l)],.tuple #[g? (jT B (bs l) g l.length cap),j?],g? (jT B (bs l) g l.length cap),j?,j?,.bool t?,
   .bool t?,g? #[.int o? B,.string (bs m)],.bool t?,.bool u?,.bool u?,.pointer (M ⟨w.heap.size+1,0,Z⟩),.int o? B,.pointer (M ⟨w.heap.size,0,Z⟩),.int o? B,.bool u?,.bool u?,.bool u?,undef,undef,j?,.bool u?,undef,undef,undef,
   .pointer (M (bS w)),jL (bs m),.func (.func 259) #[] #[jO t],jJ (x.1:I),.int p? ((mJ m x.1:O):I),undef,undef,undef,undef,undef,undef],defers:=[]}) ?assign ?body ?done ?stop
 case assign=>
  intro l x W K hK;gi_wp2;exact hK
 case body=>
  rintro l' G⟨p,hp⟩ W⟨F,J,b⟩ hlt;have hv:=Bk hM p;obtain⟨L,y⟩:∃L,mrg l m (G.map (·.1))=L:=⟨_,rfl⟩;have Δ:Hid (mrg l m ((G++[(⟨p,hp⟩:At m.length)]).map (·.1))=nS L p (mJ m p)):=by
   show _=_;rw[dH,<-y];exact Qm l m _ p
  have SP:Hid (L.length=l.length):=by show L.length=_;rw[<-y];exact si _ _ _
  rw[y]at F;clear y;have Ω:p<L.length:=by rw[SP,<-Yy];exact hp
  have HW:=ah J;have HG:=ah F;have hzW:=b.size;obtain⟨c0,c1,c2,c3⟩:=J.four;have ρ:=ah b;clear F J b;gi_wp2_with fail;refine⟨trivial,?_⟩;have HT:Hid (jE Tryz.prog 304 #[g? (jT B (bs l) g l.length cap),jJ (p:I),.int p? ((mJ m p:O):I)] W λe w'=>(∃v,e=a? v)/\By w' g (nS L p (mJ m p))/\(bY W w' g)):=by
   have:=te B (bs l) g cap p (mJ m p) L W Ω (by rw[SP];omega) HG;rw[SP]at this;exact this
  refine(d_ l' (jI.2 HT)).mono ?_;rintro e W2⟨⟨v,rfl⟩,hB2,d⟩;gi_wp2_with fail;refine⟨KeepsOthers.of_grownBy d (λj o e ho=>by cases e;exact HG.Si (by omega) ho),p8 (by omega) d,?_,HW.grown d (λe=>by injection e with e;omega),jW ρ d⟩;rw[Δ];exact hB2
 case done=>
  rintro D ys W hD rfl⟨F,J,b⟩ hK;rw[η]at F;obtain⟨c0,c1,c2,c3⟩:=J.four;have HG:Hid (By W g (rk l m)):=F;have Γ:Hid ((rk l m).length=l.length):=si _ _ _;have Lx:Hid (Bytes (rk l m)):=(Ranks.mrg ψ ξ _).bytes;have HZ4:=ah (Ψ.grown b (λe=>by injection e with e;omega));have γ:=ah (ν.grown b ν.size (λk e=>by cases e;omega));have Rg:=b.size;clear F J b;generalize rk l m=L at*;go_wp2_with fail;refine(EO B (bs l) g l.length cap L Γ W Lx HG).mono ?_;rintro e w3⟨rfl,f⟩;have C:=HZ4.later f;obtain⟨y0,y1,f0,f1⟩:=C.two;have β:((w3.setCell (aG w) (.int o? B)).setCell (bZ w) (.string (bs L))).heap[D]? =M (aY):=by
   rw[Below.heap_setCell _ _ _ _ (show D≠w.heap.size+1+1 by omega),Below.heap_setCell _ _ _ _ (show D≠w.heap.size+1+1 by omega),f.block D (oh hK)];exact hK
  have y_:Hid (Below w w ((w3.setCell (aG w) (.int o? B)).setCell (bZ w) (.string (bs L)))):=
   ((γ.trans (f.mono γ.size)).setCell (by show(aU w);omega) _).setCell (by show(aU w);omega) _
  have HD:=ah β;have Ξ:Hid (jR ((w3.setCell (aG w) (.int o? B)).setCell (bZ w) (.string (bs L))) (aN w) 129 #[jJ B,jL (bs L)]):=(C.kY 0 _).kY 1 _;clear β f C;go_wp2_with fail;refine⟨by simp,r? ⟨_,_,rfl,bi2 HD,?_⟩⟩;have Θ:=Ξ.kept (bj5 _ D cJ) (λr e=>by cases e;exact⟨_,HD,rfl⟩);obtain⟨q0,q1,_,_⟩:=Θ.two;exact⟨.tuple #[hV B L,jJ 0],by simp[results,Tryz.results320,go_sem,q0,q1],rfl,y_.trans (bj6 (w:=w) aa _ D _ _ (by omega) HD rfl rfl)⟩
 rintro D c G W _ _ h _;exact h.elim
def merge_any(b c:I)(l m:E O)(d:Bytes l)(e:Bytes m)(w:jC):jE Tryz.prog 320 #[hV b l,hV c m] w (yY w (l8 b l c m)):=by
 by_cases h:kD b l=t?/\kD c m=t?/\c=b
 .rw[l8,B? h];obtain⟨a,f,rfl⟩:=h;obtain⟨B,rfl,_⟩:=lh a;exact jI.1 (Qp B l m w a f)
 rw[l8,A? h];exact Nz b c l m d e w h
end
def Eo(x l:E O)(i:O):E O:=if mJ x (2*i)=0 then l else nS l i (mJ x (2*i)+1)
def Gx(x l:E O)(i:O):E O:=if mJ x (2*i+1)=0 then l else nS l i 1
def rl(x l:E O)(i:O):E O:=Gx x (Eo x l i) i
def lw(x l:E O)(ps:E O):E O:=ps.foldl (rl x) l
def qy(B:O)(x:E O):E O:=lw x (lz 63 B) (bu (2^B))
def Ug(x l:E O)(ps:E O)(p:O):lw x l (ps++[p])=rl x (lw x l ps) p:=by simp[lw]
def oe(l:E O)(p r:O):(nS l p r).length=l.length:=by simp[nS]
def GD(x l:E O)(i:O):(Eo x l i).length=l.length:=by unfold Eo;split<;>simp[oe]
def GB(x l:E O)(i:O):(Gx x l i).length=l.length:=by unfold Gx;split<;>simp[oe]
def Gz(x l:E O)(i:O):(rl x l i).length=l.length:=by unfold rl;rw[GB,GD]
def C7(x l:E O)(ps:E O):(lw x l ps).length=l.length:=by
 induction ps generalizing l with
 |nil=>rfl
 |cons p ps a=>exact(a _).trans (Gz _ _ _)
def Ranks.rl{B:O}{x l:E O}(b:Ranks (B+1) x)(c:B+1<=8)(h:Ranks B l)(i:O):Ranks B (rl x l i):=by
 have a:Ranks B (Eo x l i):=by
  unfold Eo;split
  .exact h
  exact h.tell i (by have:=b.mJ (2*i);omega)
 unfold YtfcnedcahoifoaaGreatDoor.Hl.rl Gx;split
 .exact a
 exact a.tell i jS
def Ranks.lw{x:E O}(c:Ranks (B+1) x)(a:B+1<=8)(h:Ranks B l)(ps:E O):Ranks B (lw x l ps):=by
 induction ps generalizing l with
 |nil=>exact h
 |cons p ps b=>exact b (Ranks.rl c a h p)
def lR(b:I)(l:E O):Hr:=if kD b l=t?/\b≠3 then⟨b-1,qy (b.toNat-1) l,0⟩else E0
def xJ(b:I)(l:E O)(g:Bytes l)(w:jC)(h:kD b l=u?):jE Tryz.prog 319 #[hV b l] w (yY w E0):=by
 have H:=ah h;go_in;go_wp2_with fail;refine(j_ b l g _).mono ?_;rintro e n⟨rfl,c⟩;rw[H];have a:=jR.new (w.alloc (m? #[jJ b,jL (bs l)] 129)) 129 #[jJ 0,aF];rw[b_]at a;have d:=a.later c;have j:=ah (kx (kx c));obtain⟨f,k,o,m⟩:=d.two;go_wp2;refine jF (v:=d? #[hV 0 [],jJ 70]) (by simp[results,Tryz.results319,go_sem,f,k,vL]) rfl ⟨rfl,?_⟩;exact(j.setCell (by show(aZ w);omega) _).setCell (by show(aZ w);omega) _
def Gv(l:E O)(t:Bytes l)(w:jC)(h:kD 3 l=t?):jE Tryz.prog 319 #[hV 3 l] w (yY w E0):=by
 have H:=ah h;go_in;go_wp2_with fail;refine(j_ 3 l t _).mono ?_;rintro e G⟨rfl,f⟩;rw[H];have j:=jR.new (w.alloc (m? #[jJ 3,jL (bs l)] 129)) 129 #[jJ 0,aF];have y:=(jR.new w 129 #[jJ 3,jL (bs l)]).alloc (m? #[jJ 0,aF] 129);rw[b_]at j;have x:=ah (j.later f);have r:=y.later f;have k:=ah (kx (kx f));obtain⟨C,D,_,_⟩:=r.two;go_wp2_with fail;refine(oG 2 _).mono ?_;rintro e p⟨a,⟨m,g,J,rfl,A⟩|⟨m,s,rfl⟩⟩
 .exact H? m B8
 have b:=x.later a;have n:=b.lt;have c:w.heap.size<p.heap.size:=jS;have d:=ah (k.trans (a.mono k.size));obtain⟨o,q,B,F⟩:=b.two;go_wp2_with fail;refine(kR s _).mono ?_;rintro e z⟨rfl,rfl⟩;go_wp2;refine jF (v:=d? #[hV 0 [],jJ 70]) (by simp[results,Tryz.results319,go_sem,o,q,vL,n,c]) rfl ⟨rfl,?_⟩;exact jP (jP ((d.setCell (by show(aZ w);omega) _).setCell (by show(aZ w);omega) _) _) _
def DM(b:I)(s:v?)(g n cap p r:O)(l:E O)(a:l.length=n)(w:jC)(c:p<l.length)(d:l.length<=65536)(h:By w g l):jE Tryz.prog 304 #[g? (jT b s g n cap),jJ p,c? p? r] w λe w'=>(∃v,e=a? v)/\By w' g (nS l p r)/\(bY w w' g):=by
 subst a;exact te b s g cap p r l w c d h
def Zk(w:jC)(b c g a N:O)(x l:E O)(wr:jC):Prop:=
 By wr g l/\jR wr a 457 (jT b ⟨#[]⟩ g N N)/\jR wr w 129 #[jJ (c:I),jL (bs x)]/\jR wr (w.heap.size+1) 129 #[jJ 0,aF]/\Below w w wr
def qx(B C:O)(x:E O)(w:jC)(h3:3<=B)(hC:C=B+1)(R:kD C x=t?):jE Tryz.prog 319 #[hV C x] w (yY w ⟨B,qy B x,0⟩):=by
 have HR:=ah R;have hL:=kU R;obtain⟨_,h8,F,y⟩:=oc R;have X:=ah F;have HK:=ah y;have HC:=ah hC;have ψ:(C:I)-1=(B:I):=by omega
 clear R F y hC;go_in;go_wp2_with fail;refine(j_ _ x hL _).mono ?_;rintro e w1⟨rfl,hb⟩;rw[HR];have Z1:=jR.new (w.alloc (m? #[jJ (C:I),jL (bs x)] 129)) 129 #[jJ 0,aF];have X1:=(jR.new w 129 #[jJ (C:I),jL (bs x)]).alloc (m? #[jJ 0,aF] 129);rw[b_]at Z1;have d:=ah (Z1.later hb);have b:=ah (X1.later hb);have HB:=ah (kx (kx hb));obtain⟨z,Q,_,_⟩:=b.two;go_wp2_with fail;refine(oG B _).mono ?_;rintro e V⟨q,⟨tR,g,hg,rfl,p⟩|⟨tR,s,rfl⟩⟩
 rotate_left
 .exact H? tR (by simp[nO];omega)
 rw[dM]at p⊢;obtain⟨N,hN,ν,θ,κ,Rx⟩:=Ea h3 (show B<=8 by omega);have γ:Hid (qy B x=lw x (de N 0) (bu N)):=by show qy B x=_;rw[qy,hN]
 rw[hN]at p⊢;have J:x.length=2*N:=by rw[X,HC,iI,hN];omega
 have ε:=oA x;rw[J]at ε;have ρ:=ah J;have ξ:=hg;have α:=d.later q;have Vj:=b.later q;have zx:=b.lt;have zz:=d.lt;have zg:=p.lt;have δ:=jR.new V 457 (jT B ⟨#[]⟩ g N N);have HI:Zk w B C g V N x (lw x (de N 0) (bu 0)) (V.alloc (m? (jT B ⟨#[]⟩ g N N) 457)):=⟨p.alloc _,δ,Vj.alloc _,α.alloc _,jP (HB.trans (q.mono HB.size)) _⟩;go_wp2_with fail;go_loopw[28] (λi wr=>∃k:O,k<=N/\i=c? o? k/\Zk w B C g V N x (lw x (de N 0) (bu k)) wr) (λi _=>N-(intOf i).toNat)
 case atStart=>exact⟨0,be _,rfl,HI⟩
 obtain⟨k,y,rfl,p,hW,hX,hZ,G⟩:=hrel;have H:(lw x (de N 0) (bu k)).length=N:=by rw[C7,ey]
 have l:=ah H;obtain⟨c0,c1,c2,T⟩:=hW.four;obtain⟨z,Q,_,_⟩:=hX.two;by_cases μ:k<N
 .have W:Hid (lw x (de N 0) (bu (k+1))=rl x (lw x (de N 0) (bu k)) k):=by show _=_;rw[fV];exact Ug _ _ _ _
  have m:=ah p;have b:=ah hX;have f:=ah hW;have d:=ah hZ;have c:=ah G;have ha:∀h:2*k<(bs x).size,((bs x)[2*k]'h).toNat=mJ x (2*k):=λh=>Iv hL h;have φ:∀h:2*k+1<(bs x).size,((bs x)[2*k+1]'h).toNat=mJ x (2*k+1):=λh=>Iv hL h;have η:=HK.mJ (2*k);have χ:=HK.mJ (2*k+1);generalize lw x (de N 0) (bu k)=L at*;have i1:(0:I)<=2*(k:I):=jS;have i2:2*(k:I)<2*(N:I):=jS;have i3:(0:I)<=2*(k:I)+1:=jS;have i4:2*(k:I)+1<2*(N:I):=jS;rcases Classical.em (mJ x (2*k)=0)with n|n<;>rcases Classical.em (mJ x (2*k+1)=0)with o|o
  .have d1:((((mJ x (2*k):O):I))!=0)=u?:=by simp;exact n
   have d2:((((mJ x (2*k+1):O):I))!=0)=u?:=by simp;exact o
   have t:Hid (rl x L k=L):=by show rl x L k=_;rw[rl,Eo,Gx,B? n,B? o]
   go_wp2;go_roundw
   case rel=>exact⟨k+1,jS,CJ,by rw[W,t];exact m,f,b,d,c⟩
   simp[intOf];omega
  .have d1:((((mJ x (2*k):O):I))!=0)=u?:=by simp;exact n
   have d2:((((mJ x (2*k+1):O):I))!=0)=t?:=by simp;exact o
   have t:Hid (rl x L k=nS (L) k 1):=by show rl x L k=_;rw[rl,Eo,Gx,B? n,A? o]
   go_wp2_with fail;refine(DM B ⟨#[]⟩ g N N k (1) (L) l.out _ (by have:=l.out;omega) (by have:=l.out;omega) m.out).mono ?_;rintro e wt⟨⟨v,rfl⟩,j,a⟩;have m:=ah j;have b:=ah (b.grown a (λe=>LR));have f:=ah (f.grown a (λe=>LR));have d:=ah (d.grown a (λe=>LR));have c:=ah (c.grown a c.size (λk e=>TP));have β:Hid ((nS (L) k (1)).length=N):=by show _=_;rw[oe];exact l
   obtain⟨c0,c1,c2,T⟩:=f.four;obtain⟨z,Q,_,_⟩:=b.two;go_wp2;go_roundw
   case rel=>exact⟨k+1,jS,CJ,by rw[W,t];exact m,f,b,d,c⟩
   simp[intOf];omega
  .have d1:((((mJ x (2*k):O):I))!=0)=t?:=by simp;exact n
   have d2:((((mJ x (2*k+1):O):I))!=0)=u?:=by simp;exact o
   have t:Hid (rl x L k=nS L k (mJ x (2*k)+1)):=by show rl x L k=_;rw[rl,Eo,Gx,A? n,B? o]
   go_wp2_with fail;refine(DM B ⟨#[]⟩ g N N k (mJ x (2*k)+1) (L) l.out _ (by have:=l.out;omega) (by have:=l.out;omega) m.out).mono ?_;rintro e wt⟨⟨v,rfl⟩,j,a⟩;have m:=ah j;have b:=ah (b.grown a (λe=>LR));have f:=ah (f.grown a (λe=>LR));have d:=ah (d.grown a (λe=>LR));have c:=ah (c.grown a c.size (λk e=>TP));have A:Hid ((nS (L) k (mJ x (2*k)+1)).length=N):=by show _=_;rw[oe];exact l
   obtain⟨c0,c1,c2,T⟩:=f.four;obtain⟨z,Q,_,_⟩:=b.two;go_wp2;go_roundw
   case rel=>exact⟨k+1,jS,CJ,by rw[W,t];exact m,f,b,d,c⟩
   simp[intOf];omega
  have d1:((((mJ x (2*k):O):I))!=0)=t?:=by simp;exact n
  have d2:((((mJ x (2*k+1):O):I))!=0)=t?:=by simp;exact o
  have t:Hid (rl x L k=nS (nS L k (mJ x (2*k)+1)) k 1):=by show rl x L k=_;rw[rl,Eo,Gx,A? n,A? o]
  go_wp2_with fail;refine(DM B ⟨#[]⟩ g N N k (mJ x (2*k)+1) (L) l.out _ (by have:=l.out;omega) (by have:=l.out;omega) m.out).mono ?_;rintro e wt⟨⟨v,rfl⟩,j,a⟩;have m:=ah j;have b:=ah (b.grown a (λe=>LR));have f:=ah (f.grown a (λe=>LR));have d:=ah (d.grown a (λe=>LR));have c:=ah (c.grown a c.size (λk e=>TP));have A:Hid ((nS (L) k (mJ x (2*k)+1)).length=N):=by show _=_;rw[oe];exact l
  obtain⟨c0,c1,c2,T⟩:=f.four;obtain⟨z,Q,_,_⟩:=b.two;go_wp2_with fail;refine(DM B ⟨#[]⟩ g N N k (1) (nS L k (mJ x (2*k)+1)) A.out _ (by have:=A.out;omega) (by have:=A.out;omega) m.out).mono ?_;rintro e wt⟨⟨v,rfl⟩,j,a⟩;have m:=ah j;have b:=ah (b.grown a (λe=>LR));have f:=ah (f.grown a (λe=>LR));have d:=ah (d.grown a (λe=>LR));have c:=ah (c.grown a c.size (λk e=>TP));have β:Hid ((nS (nS L k (mJ x (2*k)+1)) k (1)).length=N):=by show _=_;rw[oe];exact A
  obtain⟨c0,c1,c2,T⟩:=f.four;obtain⟨z,Q,_,_⟩:=b.two;go_wp2;go_roundw
  case rel=>exact⟨k+1,jS,CJ,by rw[W,t];exact m,f,b,d,c⟩
  simp[intOf];omega
 obtain rfl:k=N:=jS;rw[<-γ]at p l;have m:=ah p;have d:=ah hZ;have c:=ah G;have Lx:Hid (Bytes (qy B x)):=by
  show Bytes _;have y:=HK;rw[HC]at y;exact(Ranks.lw y jS (r7 B _) _).bytes
 generalize qy B x=L at*;go_wp2_with fail;refine(EO B ⟨#[]⟩ g k k L l wr Lx m).mono ?_;rintro e w3⟨rfl,D⟩;have Y:=d.later D;obtain⟨y0,y1,f0,f1⟩:=Y.two;go_wp2;refine jF (v:=d? #[hV B L,jJ 0]) (by simp[results,Tryz.results319,go_sem,y0,y1]) rfl ⟨rfl,?_⟩;exact((c.trans (D.mono c.size)).setCell (by show(aZ w);omega) _).setCell (by show(aZ w);omega) _
def rL(b:I)(l:E O)(c:Bytes l)(w:jC):jE Tryz.prog 319 #[hV b l] w (yY w (lR b l)):=by
 by_cases h:kD b l=t?
 .by_cases a:b=3
  .subst a;rw[lR,A? lV];exact Gv l c w h
  rw[lR,B? ⟨h,a⟩];obtain⟨C,rfl,d,f,_⟩:=lh h;have:=qx (C-1) C l w jS jS h;rw[show(((C-1:O)):I)=(C:I)-1 by omega]at this;exact this
 rw[lR,A? (λe=>h e.1)];exact xJ b l c w S6
section
attribute [local go_sem] db
def ra(g:O)(A B:jC):Prop:=A.heap.size<=B.heap.size/\B.heap[g]? =A.heap[g]?
def Et(g:O)(A:jC):ra g A A:=⟨ay _,rfl⟩
def Da{A B C:jC}(h:ra g A B)(k:ra g B C):ra g A C:=⟨a_ h.1 k.1,k.2.trans h.2⟩
def NN(d:g<w.heap.size)(W:jC)(l:O)(o a:Obj)(c:w.heap.size<=l)(h:W.heap[l]? =M o)(_:o.isCells=u?)(_:o.isWalk=u?):ra g W (W.putObj l a):=by
 have b:=bj6 aa W l o a c h ‹_› ‹_›;exact⟨b.size,b.block g d⟩
def D_(n:O)(hn:1<=n)(o:O)(b:E O)(Y:Bytes b)(a:E (At b.length))(c:a.map (·.1)=bu b.length)(y:b.length<=65536)(w:jC)(z:jR w o 9 #[jL (bs b)]):bl1 cz n Tryz.prog 259 #[jO o] (λx:At b.length=>#[br o? (x.1:I),br p? ((mJ b x.1:O):I)]) (ra o) (λX=>X=a) (λD=>D <+: a) b.length w:=λl J Jx W A _ _ R V=>by
 have m:a.length=b.length:=by rw[<-ax (f:=(·.1)),c,fo]
 have α:=oA b;have HZ:=ah c;have r:=z.later A;have HB:=ah z;have s:=r.one;have HW:=ah A;clear c z r A;refine bj1 Tryz.func259 rfl trivial ?_ rfl;simp only[Tryz.ntmps259,xb,ao,dk];gi_wp2;gi_loopw[6] (λi wr=>∃k:O,k<=a.length/\i=c? o? k/\J (a.take k) wr/\ra o W wr)
  (λi _=>a.length-(intOf i).toNat)
 case atStart=>exact⟨0,be _,rfl,V,Et _ _⟩
 obtain⟨k,hk,rfl,j,p⟩:=hrel;by_cases d:k<a.length
 .have L:wr.cell? ⟨o,0,Z⟩=M (f? (bs b)):=(co p.2).trans s;have K:(a[k]).1=k:=by
   have:=C? (λt=>t[k]?) HZ;simp[d,m▸d]at this;exact this
  have H:a.take (k+1)=a.take k++[a[k]]:=aj d;have F:=ah H;obtain⟨fn,G,v,N,hy,T⟩:=R _ (a[k]) wr j (by simp;omega);rw[K]at hy;have Q:∀h:k<(bs b).size,((bs b)[k]'h).toNat=mJ b k:=λh=>Iv Y h;clear K H s;gi_wp2;try simp only[Q]
  gi_wp2;refine T.mono ?_;rintro e W3(⟨rfl,B,C⟩|⟨rfl,g⟩)
  .gi_wp2;go_roundw
   case rel=>exact⟨k+1,by omega,by simp,by rw[F];exact B,Da p C⟩
   simp[intOf];omega
  gi_wp2;refine jF (bj7 rfl _ _ _) rfl ?_;refine⟨⟨_,rfl⟩,s? ⟨_,?_,g⟩⟩;rw[<-F];exact eS _ _
 obtain rfl:k=a.length:=by omega
 gi_wp2;go_end0;exact⟨⟨_,rfl⟩,r? ⟨_,dP,j⟩⟩
def wt(r:O):O:=2^(32-min r 32)
def rf(l:E O)(ps:E O):z?:=ps.any λp=>decide (mJ l p≠0)
def qS(l:E O)(ps:E O):O:=(ps.map λp=>wt (mJ l p)).sum
def cntF(l:E O)(ps:E O):O:=if rf l ps=t? then 7*l.length*l.length*4294967296/(10*qS l ps)else 0
def vH(b:I)(l:E O):O:=if kD b l=t? then cntF l (cK l)else 0
def VJ(r:O):1<=wt r/\wt r<=4294967296:=
 ⟨ee _,a_ (ep B8 (show 32-min r 32<=32 by omega)) B8⟩
def FP(l ps:E O)(p:O):rf l (ps++[p])=(rf l ps||decide (mJ l p≠0)):=by simp[rf]
def Jl(l ps:E O)(p:O):qS l (ps++[p])=qS l ps+wt (mJ l p):=by simp[qS]
def FH(l ps:E O):ps.length<=qS l ps/\qS l ps<=ps.length*4294967296:=by
 induction ps with
 |nil=>simp[qS]
 |cons p ps a=>
  have:=VJ (mJ l p);simp only[qS,df,List.sum_cons,c_]at a⊢;omega
def WF(a r:O)(h:a<=1099511627776):IntKind.u64.wrap ((a:I)+IntKind.u64.wrap (2^(32-min ((r:O):I) 32).toNat))=((a+wt r:O):I):=by
 have b:=VJ r;have e:(2:I)^(32-min ((r:O):I) 32).toNat=((wt r:O):I):=by
  rw[show(32-min ((r:O):I) 32).toNat=32-min r 32 by omega];simp[wt]
 rw[e];simp only[iw];omega
def Ub(n:O):((n:I)!=0)=decide (n≠0):=by
 rw[gU];simp
def xS(b:I)(l:E O)(a:Bytes l)(w:jC)(h:kD b l=u?):jE Tryz.prog 318 #[hV b l] w λe w'=>e=a? (c? n? 0)/\Below w w w':=by
 have H:=ah h;go_in;go_wp2_with fail;refine(j_ b l a _).mono ?_;rintro e f⟨rfl,d⟩;rw[H];have c:=ah (kx d);go_wp2;go_ret;exact⟨rfl,c⟩
def WE(V:jC)(N a:O)(l:E O)(b:E (At N))(W:jC):Prop:=
 jR W a 4 #[h? (rf l (b.map (·.1)))]/\jR W (a+1) 22 #[jK ((qS l (b.map (·.1)):O):I)]/\Below a V W
def Ff{V:jC}{N:O}{Bd:O}(h:b<=V.heap.size)(hV:V.heap.size<=Bd):bj3 Bd (WE V N b l):=by
 rintro j W W' row⟨m,g,d⟩ c f;have a:∀r,row=M r->(aH W r):=λr e=>(f r e).2;exact⟨m.kept c a,g.kept c a,d.grown c (a_ h d.size) (λk e=>by have:=(f k e).1;omega)⟩
def R8(B:O)(l:E O)(w:jC)(G:kD B l=t?):bj2 cz 6 Tryz.prog 318 #[hV B l] w λe w'=>e=a? (.int n? ((cntF l (bu l.length):O):I))/\Below w w w':=by
 have HR:=ah G;have hL:=kU G;obtain⟨b1,b2,X,hk⟩:=oc G;have ν:8<=l.length:=by rw[X];exact(Ae b1 b2).1
 have Df:l.length<=256:=by rw[X];exact(Ae b1 b2).2
 have ξ:=oA l;clear G X hk;refine bi7 Tryz.func318 rfl trivial ?_ rfl;simp only[Tryz.ntmps318,xb,ao,dk];refine bi4.2 ?_;go_wp2_with fail;refine(j_ B l hL _).mono ?_;rintro e a⟨rfl,g⟩;rw[HR];have L:=(jR.new w 129 #[jJ B,jL (bs l)]).later g;have HX:=ah L;have J:=ah (kx g);have zx:=L.lt;obtain⟨x0,x1,_,_⟩:=L.two;clear g L;go_wp2_with fail;refine(xu _ _).mono ?_;rintro e w'⟨rfl,rfl⟩;go_wp2_with fail;obtain⟨S,U,R⟩:=ui a #[.bool u?] #[jK 0] #[jL (bs l)] 4 22 9;have A:Below a a (((a.alloc (m? #[.bool u?] 4)).alloc (m? #[jK 0] 22)).alloc (m? #[jL (bs l)] 9)):=jP (jP (jP (jQ _) _) _) _;have hz:(((a.alloc (m? #[.bool u?] 4)).alloc (m? #[jK 0] 22)).alloc (m? #[jL (bs l)] 9)).heap.size=a.heap.size+3:=lV;obtain⟨zs,α⟩:=mH (N:=l.length) (bu l.length) (λp z=>dh.1 z);have F:=ah α;have HX:=ah (HX.later A);have J:=ah (J.trans (A.mono J.size));generalize((a.alloc (m? #[.bool u?] 4)).alloc (m? #[jK 0] 22)).alloc (m? #[jL (bs l)] 9)=V at*;have δ:WE V l.length a l [] V:=⟨S,U,Below.refl _ _⟩;have ρ:=ah R;refine(bi4 (n:=6)).1 ?_;refine bj9 rfl jS (gf:=259) (lb:=#[.pointer (M ⟨a.heap.size+1+1,0,Z⟩)]) rfl trivial (enters_of Tryz.func259 oo rfl)
  (D_ 5 jS (a.heap.size+1+1) l hL zs F jS V R)
  (λh k=>Da h k) (NN jS) (Below.refl _ _) (λ_=>rfl)
  (WE V l.length a l) (λ_ _ _=>False) (Ff jS aa) (λ_ _ _ _ _ h _ _=>h) δ
  (λx=>{tmps:=#[hV B l,aV w,.int n? 0,aV a,.pointer (M (aE a)),undef,.int p? ((mJ l x.1:O):I),undef,
   g? #[.int o? B,.string (bs l)],.bool t?,.bool u?,.pointer (M ⟨w.heap.size,1,Z⟩),.string (bs l),.func (.func 259) #[] #[.pointer (M (aG a))],.int o? (x.1:I),.int p? ((mJ l x.1:O):I),
   undef,undef,undef,undef,undef,undef,undef,undef,undef,undef,undef,undef,undef,undef,undef,undef,undef,undef,undef,undef,undef,undef,undef,undef,undef],defers:=[]}) ?assign ?body ?done ?stop
 case assign=>
  intro l x W K H;gi_wp2;exact H
 case body=>
  rintro l' b⟨p,z⟩ W⟨j,o,g⟩ θ;have hv:=Bk hL p;have d:=FH l (b.map (·.1));rw[ax]at d;have γ:Hid (rf l ((b++[(⟨p,z⟩:At l.length)]).map (·.1))=(rf l (b.map (·.1))||decide (mJ l p≠0))):=by
   show _=_;rw[dH];exact FP l _ p
  have β:Hid (qS l ((b++[(⟨p,z⟩:At l.length)]).map (·.1))=qS l (b.map (·.1))+wt (mJ l p)):=by
   show _=_;rw[dH];exact Jl l _ p
  generalize rf l (b.map (·.1))=Y at*;generalize qS l (b.map (·.1))=s at*;have HS:=ah j;have HU:=ah o;have S1:=ah g;have T:=j.one;have fs:=j.frozen 0;have cu:=o.one;have fu:=o.frozen 0;have zs:=j.lt;have zu:=o.lt;have HV:=ah (WF s (mJ l p) jS);have HK:Hid (∀x y,ra (aN a) W ((W.setCell ⟨a,0,Z⟩ x).setCell (aE a) y)):=λx y=>
   ⟨by simp[bj],by rw[Below.heap_setCell _ _ _ _ (show a.heap.size+1+1≠a.heap.size+1 by omega),Below.heap_setCell _ _ _ _ (show a.heap.size+1+1≠a.heap.size by omega)]⟩
  have HF:Hid (∀x y,WE V l.length a l (b++[(⟨p,z⟩:At l.length)]) ((W.setCell ⟨a,0,Z⟩ (.bool x)).setCell (aE a) (.int n? y))\/¬(x=(Y||decide (mJ l p≠0))/\y=((s+wt (mJ l p):O):I))):=by
   intro x y;by_cases r:x=(Y||decide (mJ l p≠0))/\y=((s+wt (mJ l p):O):I)
   .refine r? ⟨?_,?_,(S1.setCell aa _).setCell (by show(aZ a);omega) _⟩
    .rw[γ,<-r.1];exact(HS.kY 0 _).far (by show a.heap.size≠a.heap.size+1;omega) _
    rw[β,<-r.2];exact(HU.far (by show(dL a);omega) _).kY 0 _
   exact s? r
  cases Y with
  |true=>
   gi_wp2_with fail;refine⟨(b7 _ _ _).trans (b7 _ _ _),HK _ _,?_⟩;exact(HF _ _).resolve_right (λh=>h ⟨rfl,HV⟩)
  |false=>
   gi_wp2_with fail;refine⟨(b7 _ _ _).trans (b7 _ _ _),HK _ _,?_⟩;exact(HF.out _ _).resolve_right (λh=>h ⟨by simp[Ub],HV.out⟩)
 case done=>
  rintro D ys W hD rfl⟨j,o,g⟩ H;rw[F]at j o;have T:=j.one;have cu:=o.one;have hX:=HX.below g jS;obtain⟨x0,x1,_,_⟩:=hX.two;have Th:=ah (J.trans (g.mono jS));have d:=FH l (cK l);rw[fo]at d;have Wv:=ah H;have Q:Hid (cntF l (cK l)=if rf l (cK l)=t? then 7*l.length*l.length*4294967296/(10*qS l (cK l))else 0):=rfl;have C:=ah (Th.trans (bj6 (w:=w) aa _ D _ cJ jS H rfl rfl));have hq:∃q:O,7*l.length*l.length=q/\q<=458752:=⟨_,rfl,io (Nat.mul_le_mul_left 7 Df) Df⟩;obtain⟨q,m,μ⟩:=hq;have η:IntKind.u64.wrap (7*(l.length:I)*(l.length:I))=(q:I):=by
   rw[<-m,iw];have e:7*(l.length:I)*(l.length:I)=((7*l.length*l.length:O):I):=lV;rw[e,m];omega
  have HQ:=ah m;obtain⟨κ,ε⟩:=d;generalize qS l (cK l)=s at*
  cases t:rf l (cK l)with
  |false=>
   rw[t]at T Q;have HC:Hid (cntF l (cK l)=0):=by show cntF _ _=0;rw[Q];simp
   go_wp2_with fail;refine⟨lV,r? ⟨_,_,rfl,bi2 Wv,?_⟩⟩;exact⟨.int n? 0,by simp[results,Tryz.results318,go_sem],by rw[HC];rfl,C⟩
  |true=>
   rw[t]at T Q;have HC:Hid (((cntF l (cK l):O):I)=(q:I)*4294967296/(10*(s:I))):=by show((cntF _ _:O):I)=_;rw[Q,HQ];simp
   go_wp2_with fail;refine⟨lV,r? ⟨_,_,rfl,bi2 Wv,?_⟩⟩;refine⟨.int n? ((q:I)*4294967296/(10*(s:I))),by simp[results,Tryz.results318,go_sem],by rw[HC],C⟩
 rintro D c b W _ _ h _;exact h.elim
def count_any(b:I)(l:E O)(a:Bytes l)(w:jC):jE Tryz.prog 318 #[hV b l] w λe w'=>e=a? (c? n? ((vH b l:O):I))/\Below w w w':=by
 by_cases h:kD b l=t?
 .rw[vH,B? h];obtain⟨B,rfl,_⟩:=lh h;exact jI.1 (R8 B l w h)
 rw[vH,A? h];exact xS b l a w S6
end
end Hl
end Go.Proofs.YtfcnedcahoifoaaGreatDoor

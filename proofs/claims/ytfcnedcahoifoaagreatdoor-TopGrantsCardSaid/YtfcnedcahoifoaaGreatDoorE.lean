import Derived.BigRegionIn
import Derived.Laws.Shifts
import Derived.Stop.RegionWithIn
import Derived.Test.YtfcnedcahoifoaaGreatDoorC
namespace Go.Proofs.YtfcnedcahoifoaaGreatDoor
open Go.RowKit
open _root_.Array renaming getElem?_eq_some_iff→aw
open _root_.ByteArray renaming size_extract→fI
open _root_.Go renaming Addr→jG,CallsIn→bj2,Calls→jE,Code→bk9,Ending→bi6,Exit→bk7,KeepsOthers→bj4,Oper→bk0,OwnFrom→bj3,Program→bi3,SeqStopsK→bl1,TypeId→jH,Value→jD,World→jC,YieldAt→bl4,belowK_b→bj6,bodyPost_end→bl6,bodyPost_ret→jF,callsIn_of_wp_marks→bi7,callsIn_of_wp→bj1,callsIn_wide→jI,grownBy_putObj'→bj5,info_parts→bi5,results_cell_row→bl2,results_none→bj7,rounds_succ→bi9,run_takeDeferred→bi2,wpIn_rangeFunc_ownF→bj9,wpIn_wide→bi4,wp_loop_rounds→bj8
open _root_.Go.CallsIn renaming inRound→d_
open _root_.Go.Exit renaming noGoto_ret→cf
open _root_.Go.Fence renaming wide→cz
open _root_.Go.Instr renaming typeAssert→dd
open _root_.Go.IntWalk renaming i64_in→dv,wrap64_in→e_
open _root_.Go.KeepsOthers renaming setCell→b7
open _root_.Go.Lib renaming BuilderAtF→fN,IsBuilderF→dX,OthersKept→eh,byteCells→dV,hid→ai,strCells→jh
open _root_.Go.Oper renaming semAt_some→db
open _root_.Go.Region renaming Mode→fD
open _root_.Go.RowKit renaming intOf→av
open _root_.Go.Value renaming int→br
open _root_.Go.World renaming cell?_of_block→co,cell?_setCell_other→eX,size_alloc→b_
open _root_.Int renaming emod_lt_of_pos→jk,natCast_mul→eG,toNat_natCast→dM
open _root_.List renaming append_nil→eB,drop_eq_getElem_cons→dN,drop_eq_nil_of_le→ei,eq_of_mem_replicate→gh,foldl_append→fE,getElem?_append_left→eL,getElem?_append_right→d7,getElem?_cons_succ→bo,getElem?_cons_zero→bm,getElem?_toArray→bh,length_drop→dr,length_nil→dp,length_replicate→ey,length_take→cv,length→ez,map_append→dH,map_cons→df,map_nil→jA,map_set→iJ,mem_append→ed,mem_map→dq,mem_or_eq_of_mem_set→dO,mem_range→dh,mem_singleton→eM,range→bu,replicate→de,setIfInBounds_toArray→bd,set_cons_succ→am,set_cons_zero→ak,take_length→dP,take_of_length_le→cl,take_prefix→eS,take_succ_eq_append_getElem→aj,take_zero→fO
open _root_.Nat renaming add_mul→iY,div_lt_of_lt_mul→iZ,le_refl→ay,le_succ→dU,le_trans→a_,lt_of_lt_of_le→cn,lt_or_ge→fB,mod_lt→jj,mul_le_mul_right→fZ,mul_le_mul→io,reduceAdd→ao,reduceSub→dk,zero_le→be
open _root_.Bool renaming false→u?,true→t?
open _root_.Go.Ending renaming returned→a?
open _root_.Go.IntKind renaming i64→o?,u64→n?
open _root_.Go.Obj renaming cells→m?
open _root_.Go.Value renaming agg→g?,bool→h?,iface→i?,int→c?,nilIface→j?,pointer→e?,slice→b?,string→f?,tuple→d?
open _root_.Option renaming none→Z,some→M
open _root_.Or renaming inl→r?,inr→s?
open _root_ renaming Array→x?,Bool→z?,ByteArray→v?,Int→I,List→E,Nat→O,Option→w?,UInt8→y?,absurd→H?,congrArg→C?,if_neg→A?,if_pos→B?
set_option maxRecDepth 100000
set_option maxHeartbeats 16000000
set_option linter.unusedVariables false
set_option linter.unusedSimpArgs false
set_option linter.defProp false
instance i6_(x0:jC)(x1:O)(x2:O)(x3:w? jG)(x4:E I)(x5:O)(x6:I):CoeOut (ag9 6 x0 x1 x2 x3 x4 x5 x6) jC:=⟨λ_=>(((((x0.alloc (m? #[jJ x1,jJ x2,jN x3 x4 x5] 131)).alloc (m? #[jJ x1,jJ x2,jN x3 x4 x5] 131)).alloc (m? #[jK 18446744073709551615] 22)).alloc (m? #[jJ x1,jJ x2,jN x3 x4 x5] 216)).alloc (m? #[jK x6] 22))⟩
structure SbP where
def bP:SbP:=⟨⟩
instance aU9:CoeOut SbP Obj:=⟨λ_=>(m? #[jJ 0,jJ 0,jM] 216)⟩
instance aX8:CoeOut (Cp 17) Obj:=⟨λ_=>(m? #[f? ⟨#[110,111,32,99,111,117,110,116,101,114,115,32,111,102,32,116,104,105,115,32,107,105,110,100]⟩] 281)⟩
instance aW5(x0:v?):CoeOut (sH 53 x0) Obj:=⟨λ_=>(m? #[jL x0] 281)⟩
instance aW0:CoeOut (Cp 66) Obj:=⟨λ_=>(m? #[jJ 0,jJ 0,jM] 131)⟩
namespace Cm
def sat(a b:I):I:=if 18446744073709551615-b<a then cM else a+b
def ET(c row h:I):I:=(h/4294967296+row*(h%4294967296))%c
def place(c:O)(h:I)(k:O):O:=k*c+(ET c k h).toNat
def places(r c:O)(h:I):E O:=(bu r).map (place c h)
def UR(f:O->I->I)(l:E I)(p:O):E I:=l.set p (f p (nth l p))
def lL(f:O->I->I)(l:E I)(ps:E O):E I:=ps.foldl (UR f) l
variable{a b:I}
def uQ(d:0<=a)(c:0<=b):0<=sat a b/\sat a b<=18446744073709551615:=by unfold sat;split<;>omega
variable{r c:I}
def rD(h:mX r c=t?):∃R C:O,r=R/\c=C/\1<=R/\R<=4/\(C=4\/C=8\/C=16\/C=32):=by
 obtain⟨b,d,a⟩:=tl h;exact⟨r.toNat,c.toNat,jS,jS,jS,jS,jS⟩
def lh{n:O}(h:kP r c n=t?):mX r c=t?/\(n:I)=r*c:=by simpa[kP]using h
def CD{R C:O}(b:R<=4)(a:C=4\/C=8\/C=16\/C=32):R*C<=128:=by rcases a with rfl|rfl|rfl|rfl<;>omega
def My(a:0<c)(row h:I):0<=ET c row h/\ET c row h<c:=⟨Int.emod_nonneg _ jS,jk _ a⟩
variable{k:O}
def Qe{r c:O}(b:0<c)(h:I)(a:k<r):place c h k<r*c:=by
 have d:=My (c:=c) jS k h;have e:k*c+c<=r*c:=by rw[<-Nat.succ_mul];exact fZ c a
 unfold place;omega
def CO{r c:O}(b:0<c)(h:I):∀p∈places r c h,p<r*c:=by
 intro p a;obtain⟨k,d,rfl⟩:=dq.1 a;exact Qe b h (dh.1 d)
def Cd(r c:O)(h:I):(places r c h).length=r:=by simp[places]
def Kf(f:O->I->I)(l:E I)(p:O):(UR f l p).length=l.length:=by simp[UR]
def Ik(f:O->I->I)(l:E I)(ps:E O)(p:O):lL f l (ps++[p])=UR f (lL f l ps) p:=by simp[lL]
def mT(f:O->I->I)(l:E I)(ps:E O):(lL f l ps).length=l.length:=by
 induction ps generalizing l with
 |nil=>rfl
 |cons p ps a=>exact(a _).trans (Kf _ _ _)
def _root_.Go.Proofs.YtfcnedcahoifoaaGreatDoor.Us.set{l:E I}(h:Us l)(p:O){v:I}(b:U v):Us (l.set p v):=λx c=>by
 rcases dO c with a|a
 .exact h x a
 rw[a];exact b
def _root_.Go.Proofs.YtfcnedcahoifoaaGreatDoor.Us.lL{f:O->I->I}(hf:∀p o,U o->U (f p o)):∀{ps:E O}{l:E I},Us l->Us (lL f l ps)
 |[],_,h=>h
 |p::ps,l,h=>Us.lL hf (l:=UR f l p) (ps:=ps) (h.set p (hf p _ (rI h p)))
def oa(a b:I)(m:U a)(k:U b)(w:jC)(g off cap:O)(n:w.cell? ⟨g,off,Z⟩=M (c? n? a))(o:w.cell? ⟨g,off+1,Z⟩=M (c? n? b)):jE Tryz.prog 335 #[b? (bH g off) 2 cap] w λe c=>e=a? (c? n? (sat a b))/\w=c:=by
 obtain⟨l,j⟩:=m;obtain⟨f,d⟩:=k;by_cases h:18446744073709551615-b<a
 .go_in;go_wp2;refine bj8 3 ?_;rw[bi9];go_wp2;rw[bi9];go_wp2;go_ret;exact⟨mL (by simp[sat,h]),rfl⟩
 go_in;go_wp2;refine bj8 3 ?_;rw[bi9];go_wp2;rw[bi9];go_wp2;rw[bi9];go_wp2;go_ret;exact⟨mL (by rw[sat,A? jS]),rfl⟩
abbrev sC(s:v?):jD:=i? 281 (g? #[jL s])
def wK(w:jC):jE Tryz.prog 107 #[j?] w λe a=>e=a? (c? o? 0)/\w.alloc (m? #[aF] 281)=a:=by
 have b:∀w,(dd j? 171 281 t?).run Tryz.prog w=.ok (d? #[g? #[aF],h? u?]) w:=λ_=>oo;go_in;go_wp2;go_ret;exact⟨rfl,rfl⟩
def kR(s:v?)(w:jC):jE Tryz.prog 107 #[sC s] w λe a=>e=a? (c? o? 80)/\w.alloc (lz 53 s)=a:=by
 have b:∀w,(dd (sC s) 171 281 t?).run Tryz.prog w=.ok (d? #[g? #[jL s],h? t?]) w:=λ_=>oo;go_in;go_wp2;go_ret;exact⟨rfl,rfl⟩
def K6(C:I)(k:O)(h:I)(a:U h)(c:k<=4)(b:1<=C):0<=(k:I)*(h%4294967296)/\(k:I)*(h%4294967296)<=17179869180/\0<=(h/4294967296+(k:I)*(h%4294967296))%C/\(h/4294967296+(k:I)*(h%4294967296))%C<C:=by
 obtain⟨d,e⟩:=a;have:k=0\/k=1\/k=2\/k=3\/k=4:=jS;exact⟨by rcases this with rfl|rfl|rfl|rfl|rfl<;>omega,by rcases this with rfl|rfl|rfl|rfl|rfl<;>omega,Int.emod_nonneg _ jS,jk _ jS⟩
def UP(r:I)(C:O)(A:w? jG)(n cap k:O)(h:I)(a:U h)(d:k<=4)(l:1<=C)(c:C<=32)(w:jC):jE Tryz.prog 280 #[g? #[jJ r,jJ C,b? A n cap],jJ k,jK h] w λe b=>e=a? (c? o? (ET C k h))/\w.alloc (m? #[jJ r,jJ C,b? A n cap] 216)=b:=by
 obtain⟨p1,j,f,m⟩:=K6 C k h a d jS;obtain⟨g,o⟩:=a;go_in;go_wp2;go_ret;exact⟨mL (by rw[ET]),rfl⟩
def BL(w:jC)(r c:I)(e:bi6)(w':jC):Prop:=
 Below w w w'/\((mX r c=t?/\∃g,w.heap.size<=g/\e=a? (d? #[g? #[jJ r,jJ c,b? (aC g) (r*c).toNat (r*c).toNat],j?])/\jR w' g 22 ((de (r*c).toNat (0:I)).map (br n?)).toArray)\/
  (mX r c=u?/\∃s,e=a? (d? #[cX,sC s])))
def Tryz.p_:(Tryz.prog.info? 22).map (λi=>(i.zero,i.size,i.bytes))=M (M (c? n? 0),1,8):=oo
def Qt(n:O):madeCells #[jK 0] n=((de n (0:I)).map (br n?)).toArray:=by
 apply Array.ext
 .simp[size_madeCells]
 intro i a b;simp[madeCells,Nat.mod_one]
def oG(r c:I)(w:jC):jE Tryz.prog 106 #[jJ r,jJ c] w (BL w r c):=by
 cases a:mX r c with
 |false=>
  have H:=ah a;clear a;go_in;go_wp2_with fail;refine(qV r c _).mono ?_;rintro e l⟨rfl,rfl⟩;rw[H];go_wp2;exact jF (v:=d? #[cX,sC _]) (by simp[results,Tryz.results106,go_sem];rfl) rfl ⟨jP (jQ _) _,s? ⟨H,_,rfl⟩⟩
 |true=>
  obtain⟨R,C,rfl,rfl,t,o,k⟩:=rD a;have s:=CD o k;obtain⟨p,f,b,d,g⟩:=bi5 Tryz.p_;have m:∀W,(Instr.makeSlice 33 (c? o? ((R:I)*(C:I))) (c? o? ((R:I)*(C:I)))).run Tryz.prog W=.ok (b? (aM W) (R*C) (R*C)) (W.alloc (m? (madeCells (br n? 0).cells (R*C)) 22)):=λW=>by
   have:=vo (P:=Tryz.prog) 33 22 p (c? n? 0) Tryz.underlying33 f b d o? o? (R*C) (R*C) aa (by rw[g];omega) jS W;rwa[eG]at this
  have n:0<=(R:I)*(C:I):=by rw[<-eG];omega
  have q:(R:I)*(C:I)<=128:=by rw[<-eG];omega
  have H:=ah a;clear a k;go_in;go_wp2_with fail;refine(qV _ _ _).mono ?_;rintro e l⟨rfl,rfl⟩;rw[H];go_wp2_with fail;have j:((R:I)*(C:I)).toNat=R*C:=by rw[<-eG,dM]
  refine jF (v:=d? #[g? #[jJ R,jJ C,b? (M (aE w)) (R*C) (R*C)],j?]) (by simp[results,Tryz.results106,go_sem]) rfl
   ⟨jP (jP (jQ _) _) _,r? ⟨H,w.heap.size+1,dU _,by rw[j],?_⟩⟩
  rw[j,<-Qt];have h:=jR.new (w.alloc (m? #[jJ R,jJ C,b? (M (aE w)) (R*C) (R*C)] 216)) 22 (madeCells #[jK 0] (R*C));rw[b_]at h;exact h
def BM(w:jC)(r c:I)(l:E I)(e:bi6)(w':jC):Prop:=
 Below w w w'/\((kP r c l.length=t?/\∃g,w.heap.size<=g/\e=a? (d? #[g? #[jJ r,jJ c,b? (aC g) l.length l.length],j?])/\jR w' g 22 (l.map (br n?)).toArray)\/
  (kP r c l.length=u?/\∃s,e=a? (d? #[cX,sC s])))
def nI(r c:I)(A:w? jG)(l:E I)(cap:O)(w:jC)(L:Sl w w A l):jE Tryz.prog 331 #[bR r c A l cap] w (BM w r c l):=by
 cases j:kP r c l.length with
 |false=>
  have H:=ah j;clear j;go_in;go_wp2_with fail;refine(j_ r c A l.length cap _).mono ?_;rintro e V⟨rfl,rfl⟩;rw[H];go_wp2;exact jF (v:=d? #[cX,sC _]) (by simp[results,Tryz.results331,go_sem];rfl) rfl ⟨jP (jP (jP (jQ _) _) _) _,s? ⟨H,_,rfl⟩⟩
 |true=>
  obtain⟨D,hl⟩:=lh j;have C:(r*c).toNat=l.length:=jS;have HN:=ah C;have H:=ah j;have t:=ah D;have F:Below w w (((w.alloc (aK r c A l cap)).alloc bP).alloc (aK r c A l cap)):=jP (jP (jP (jQ _) _) _) _;have X:=ah (((jR.new w 131 #[jJ r,jJ c,jN A l cap]).alloc bP).alloc (aK r c A l cap));have Y:=ah ((jR.new (w.alloc (aK r c A l cap)) 216 #[jJ 0,jJ 0,jM]).alloc (aK r c A l cap));have q:=ah (L.later F);simp only[b_]at X Y;clear j D hl C L;go_in;go_wp2_with fail;refine(j_ r c A l.length cap _).mono ?_;rintro e V⟨rfl,rfl⟩;rw[H];go_wp2_with fail;refine(oG r c _).mono ?_;rintro e R⟨b,⟨_,g,K,rfl,a⟩|⟨J,_⟩⟩
  .rw[HN]at a⊢;have T1:=Below.two F b;replace X:=ah (X.later b);replace Y:=ah (Y.later b);replace q:=ah (q.later b);have G:=ah a;have α:w.heap.size+3<=g:=by simpa using K
   clear K a b;have W:=X.c2;have z0:=X.lt;have β:=G.lt;obtain⟨i0,m,s,k,B⟩:=bi5 Tryz.p_;have T:=ah (G.alloc (m? #[jJ r,jJ c,b? (aC g) l.length l.length] 216));have Q:=ah (q.later (jP (jQ _) (m? #[jJ r,jJ c,b? (aC g) l.length l.length] 216)));have γ:R.heap.size≠w.heap.size+1:=by have:=Y.lt;omega
   go_wp2_with(
    refine sM rfl (.tmp 22) (.tmp 24) 33 33 rfl 22 Tryz.underlying33 (by rw[m];simp[k]) g l.length l.length cap A rfl rfl _ 22 T lV (l.map (br n?)) lV _ Q Ed ?_
    intro N n d o
    have G2:=ah n
    have h:=ah ((Y.alloc (m? #[jJ r,jJ c,b? (aC g) l.length l.length] 216)).grown d (λe=>TP))
    have p:=ah ((jR.new R 216 #[jJ r,jJ c,b? (aC g) l.length l.length]).grown d (λe=>TP))
    have T2:Below w w N:=ly (jP T1 _) d jS
    clear n d o W T Q m s k B
    have y0:=h.c0
    have y1:=h.c1
    have y2:=h.c2
    have q0:=p.c0
    have q1:=p.c1
    have q2:=p.c2
    have f0:=h.frozen 0
    have f1:=h.frozen 1
    have f2:=h.frozen 2)
   have f:=h.zS (x:=c? o? r) (y:=c? o? c) (z:=b? (aC g) l.length l.length);have k0:=f.c0;have k1:=f.c1;have k2:=f.c2;exact jF (v:=d? #[g? #[jJ r,jJ c,b? (aC g) l.length l.length],j?]) (by simp[results,Tryz.results331,go_sem,k0,k1,k2]) rfl
    ⟨((T2.setCell lV _).setCell lV _).setCell lV _,r? ⟨H,g,jS,rfl,((jR.far (jR.far (jR.far (show jR N g _ _ from G2) mO _) mO _) mO _))⟩⟩
  rw[t]at J;cases J
def Cm.none:Cm:=⟨0,0,[]⟩
def BK(w:jC)(x:Cm×I)(e:bi6)(w':jC):Prop:=
 Below w w w'/\∃v,e=a? (d? #[g? #[jJ x.1.r,jJ x.1.c,v],jJ x.2])/\Held w' w v x.1.l
def newF(r c:I):Cm×I:=if mX r c=t? then(⟨r,c,de (r*c).toNat 0⟩,0)else(Cm.none,80)
def JW(r c:I)(A:w? jG)(n cap:O):∀v∈ #[br o? r,jJ c,b? A n cap],∀n,v≠br n? n:=by
 intro v a n e;subst e;simp at a
variable{w:jC}{A:w? jG}{l:E I}
def nh{b base:O}{t:jH}{e c2:I}{A2:w? jG}{n n2 cap a:O}(d:jR w b t #[jJ r,jJ c,b? A n cap])(h:Held w base (b? A2 n2 a) l):Held (((w.setCell ⟨b,0,.none⟩ (c? o? e)).setCell ⟨b,1,.none⟩ (c? o? c2)).setCell ⟨b,2,.none⟩ (b? A2 n2 a)) base (b? A2 n2 a) l:=
 G9 h d (JW r c A n cap) (Di w b _ _ _) d.zS
def nw{a:jC}{b:O}(h:Below a a w)(c:a.heap.size<=b)(x y z:jD):Below a a (((w.setCell ⟨b,0,.none⟩ x).setCell ⟨b,1,.none⟩ y).setCell ⟨b,2,.none⟩ z):=
 ly h (Di w b x y z) c
def new_any(r c:I)(w:jC):jE Tryz.prog 76 #[jJ r,jJ c] w (BK w (newF r c)):=by
 have Y:=ah (jR.new w 131 #[jJ 0,jJ 0,b? .none 0 0]);have F:Below w w (w.alloc (m? #[jJ 0,jJ 0,b? .none 0 0] 131)):=jP (jQ _) _;go_in;go_wp2_with fail;refine(oG r c _).mono ?_;rintro e a⟨b,⟨D,g,J,rfl,f⟩|⟨H,s,rfl⟩⟩
 .have o:Hid (newF r c=(⟨r,c,de (r*c).toNat 0⟩,0)):=by show newF r c=_;rw[newF,B? D]
  replace Y:=ah (Y.later b);have h:=Below.two F b;have G:=ah f;have R:w.heap.size+1<=g:=by simpa using J
  clear D f b J;have m:=Y.c0;have k:=Y.c1;have j:=Y.c2;have n:=Y.frozen 0;have p:=Y.frozen 1;have l:=Y.frozen 2;have X:=Y.lt;go_wp2_with fail;clear m k j n p l;have α:=ah (jR.new a 216 #[jJ r,jJ c,b? (aC g) (r*c).toNat (r*c).toNat]);replace Y:=ah (Y.alloc (m? #[jJ r,jJ c,b? (aC g) (r*c).toNat (r*c).toNat] 216));replace G:=ah (G.alloc (m? #[jJ r,jJ c,b? (aC g) (r*c).toNat (r*c).toNat] 216));replace h:=jP h (m? #[jJ r,jJ c,b? (aC g) (r*c).toNat (r*c).toNat] 216);generalize a.alloc (m? #[jJ r,jJ c,b? (aC g) (r*c).toNat (r*c).toNat] 216)=W at*;have m:=Y.c0;have k:=Y.c1;have j:=Y.c2;have n:=Y.frozen 0;have p:=Y.frozen 1;have l:=Y.frozen 2;have L:=Y.lt;have Q:=α.c0;have V:=α.c1;have N:=α.c2;have T:=α.lt;have B:a.heap.size≠w.heap.size:=jS;have C:w.heap.size≠a.heap.size:=jS;go_region_held3 (λd=>d.cell? ⟨a,0,Z⟩=M (c? o? r)/\d.cell? ⟨a,1,Z⟩=M (c? o? c)/\d.cell? ⟨a,2,Z⟩=M (b? (aC g) (r*c).toNat (r*c).toNat)) (go_keep) (first|(go_at_call 107;refine(wK _).mono ?_;rintro e d⟨rfl,rfl⟩));have K:=(Y.zS (x:=c? o? r) (y:=c? o? c) (z:=(b? (aC g) (r*c).toNat (r*c).toNat))).alloc (m? #[aF] 281);have q:=K.c0;have A:=K.c1;have t:=K.c2;go_wp2;refine jF (v:=d? #[g? #[jJ r,jJ c,(b? (aC g) (r*c).toNat (r*c).toNat)],jJ 0]) (by simp[results,Tryz.results76,go_sem,q,A,t]) rfl
   ⟨(jP (nw h aa _ _ _) _).drew,(b? (aC g) (r*c).toNat (r*c).toNat),by rw[o],?_⟩
  rw[o];exact(nh Y (by have:=jR.held (base:=w.heap.size) G jS;rwa[ey]at this)).later (jP (jQ _) _).drew
 have o:Hid (newF r c=(Cm.none,80)):=by show newF r c=_;rw[newF,A? (by simp[H])]
 replace Y:=ah (Y.later b);have h:=Below.two F b;clear H b;have m:=Y.c0;have k:=Y.c1;have j:=Y.c2;have n:=Y.frozen 0;have p:=Y.frozen 1;have l:=Y.frozen 2;have X:=Y.lt;go_wp2_with fail;clear m k j n p l;have α:=ah (jR.new a 216 #[jJ 0,jJ 0,jM]);replace Y:=ah (Y.alloc bP);replace h:=jP h bP;generalize a.alloc bP=W at*;have m:=Y.c0;have k:=Y.c1;have j:=Y.c2;have n:=Y.frozen 0;have p:=Y.frozen 1;have l:=Y.frozen 2;have L:=Y.lt;have Q:=α.c0;have V:=α.c1;have N:=α.c2;have T:=α.lt;have B:a.heap.size≠w.heap.size:=jS;have C:w.heap.size≠a.heap.size:=jS;go_region_held3 (λd=>d.cell? ⟨a,0,Z⟩=M (c? o? 0)/\d.cell? ⟨a,1,Z⟩=M (c? o? 0)/\d.cell? ⟨a,2,Z⟩=M (b? Z 0 0)) (go_keep) (first|(go_at_call 107;refine(kR s _).mono ?_;rintro e d⟨rfl,rfl⟩));have K:=(Y.zS (x:=c? o? 0) (y:=c? o? 0) (z:=aO)).alloc (lz 53 s);have q:=K.c0;have A:=K.c1;have t:=K.c2;go_wp2;refine jF (v:=d? #[g? #[jJ 0,jJ 0,aO],jJ 80]) (by simp[results,Tryz.results76,go_sem,q,A,t]) rfl
  ⟨(jP (nw h aa _ _ _) _).drew,aO,by rw[o];rfl,?_⟩
 rw[o];exact(nh Y (rN _ _)).later (jP (jQ _) _).drew
section
open Go.RowKit Go.Shelf
attribute [local go_sem] db
def ae8(r:I)(C:O)(A:w? jG)(n cap k:O)(h:I)(d:U h)(g:k<=4)(f:1<=C)(a:C<=32)(w:jC):jE Tryz.prog 280 #[g? #[jJ r,jJ C,b? A n cap],jJ k,jK h] w λe c=>e=a? (c? o? (ET C k h))/\Below w w c:=
 (UP r C A n cap k h d g f a w).mono λ_ _⟨j,b⟩=>⟨j,by rw[<-b];exact jP (jQ _) _⟩
def Fx(r c:I)(A:w? jG)(n cap:O)(h:I)(w:jC):jE Tryz.prog 333 #[g? #[jJ r,jJ c,.slice A n cap],jK h] w λe a=>e=a? (.func (.func 339) #[] #[jO w,.pointer (M (aE w))])/\ (w.alloc (m? #[jJ r,jJ c,.slice A n cap] 216)).alloc (cD h)=a:=by
 go_in;go_wp2;go_ret;exact⟨rfl,rfl⟩
def MJ(r c:I)(A:w? jG)(n cap:O)(w:jC):jE Tryz.prog 336 #[g? #[jJ r,jJ c,.slice A n cap]] w λe a=>e=a? (.func (.func 340) #[] #[jO w])/\ w.alloc (m? #[jJ r,jJ c,.slice A n cap] 216)=a:=by
 go_in;go_wp2;go_ret;exact⟨rfl,rfl⟩
def all1_in(n:O)(hn:1<=n)(l t n₀ g N cap:O)(r c:I)(A:w? jG)(b:E (At N))(h:b.map (·.1)=bu N)(hN:N<=65536)(R:t<n₀)(hg:t≠g)(J K:E (At N)->jC->Prop)(X:∀a x W,J a W->a.length<N->bl4 cz (n-1) Tryz.prog l #[jJ (x.1:I)] W λe j=> (e=a? (h? t?)/\J (a++[x]) j/\kZ n₀ g W j)\/(e=a? (h? u?)/\K (a++[x]) j))(W:jC) (Q:jR W t 216 #[jJ r,jJ c,b? A N cap]) (h0:J [] W):bj2 cz n Tryz.prog 340 #[cG l,jO t] W λe j=>(∃v,e=a? v)/\ ((∃G,G=b/\J G j)\/(∃a,a <+: b/\K a j)):=by
 have f:b.length=N:=by have:=C? ez h;simpa using this
 have HZ:=ah h;have C:=ah f;clear h f;have T:=Q.c2;refine bj1 Tryz.func340 rfl trivial ?_ rfl;simp only[Tryz.ntmps340,xb,ao,dk];gi_wp2;gi_loopw[8] (λi wr=>∃k:O,k<=N/\i=c? o? k/\J (b.take k) wr/\kZ n₀ g W wr)
  (λi _=>N-(intOf i).toNat)
 case atStart=>exact⟨0,be _,rfl,h0,og _ _ _⟩
 obtain⟨k,hk,rfl,o,z⟩:=hrel;by_cases p:k<N
 .have d:k<b.length:=by rw[C];exact p
  have H:(b[k]).1=k:=by
   have:=C? (·[k]?) HZ;simp[d,p]at this;exact this
  have F:b.take (k+1)=b.take k++[b[k]]:=aj d;obtain⟨fn,D,s,L,hy,Y⟩:=X _ (b[k]) wr o mO;rw[H]at hy;have B:=ah F;clear H F T;gi_wp2;refine Y.mono ?_;rintro e W3(⟨rfl,w,y⟩|⟨rfl,m⟩)
  .gi_wp2;go_roundw
   case rel=>exact⟨k+1,jS,lV,by rw[B];exact w,l_ z y⟩
   simp[intOf];omega
  gi_wp2;refine jF (bj7 rfl _ _ _) rfl ?_;refine⟨⟨_,rfl⟩,s? ⟨_,?_,m⟩⟩;rw[<-B];exact eS _ _
 obtain rfl:k=N:=jS;gi_wp2;go_end0;exact⟨⟨_,rfl⟩,r? ⟨_,cl (by rw[C];exact ay _),o⟩⟩
def all_stops(n:O)(h:1<=n)(a n₀ g N cap:O)(r c:I)(A:w? jG)(b:E (At N))(d:b.map (·.1)=bu N)(m:N<=65536)(e:a<n₀)(t:a≠g)(w:jC)(j:jR w a 216 #[jJ r,jJ c,b? A N cap]):bl1 cz n Tryz.prog 340 #[jO a] (λx:At N=>#[br o? (x.1:I)]) (kZ n₀ g) (λs=>s=b) (λf=>f <+: b) N w:=λl J q W p _ _ k o=>
 all1_in n h l a n₀ g N cap r c A b d m e t J q k W (j.later p) o
def Pi(n:O)(hn:1<=n)(l D F n₀ g R C nn cap M:O)(A:w? jG)(h:I)(hh:U h)(ε:R<=4)(Mk:1<=C)(B:C<=32)(f:E (At M))(q:f.map (·.1)=places R C h)(L:D<n₀)(hg:D≠g)(Zd:F<n₀)(N:F≠g)(J Jx:E (At M)->jC->Prop)(W:jC) (δ:n₀<=W.heap.size) (hJ:AbidesFrom W J)(hY:∀a x W,J a W->a.length<R->bl4 cz (n-1) Tryz.prog l #[jJ (x.1:I)] W λe r=> (e=a? (h? t?)/\J (a++[x]) r/\kZ n₀ g W r)\/(e=a? (h? u?)/\Jx (a++[x]) r))(X:jR W D 216 #[jJ R,jJ C,b? A nn cap]) (V:jR W F 22 #[jK h]) (h0:J [] W):bj2 cz n Tryz.prog 339 #[cG l,jO D,jO F] W λe r=>(∃v,e=a? v)/\ ((∃ys,ys=f/\J ys r)\/(∃a,a <+: f/\Jx a r)):=by
 have o:f.length=R:=by have:=C? ez q;simpa[Cd]using this
 have HZ:=ah q;have Y:=ah o;clear q o;have hc:=X.c0;refine bj1 Tryz.func339 rfl trivial ?_ rfl;simp only[Tryz.ntmps339,xb,ao,dk];gi_wp2;gi_loopw[8] (λi wr=>∃k:O,k<=R/\i=c? o? k/\J (f.take k) wr/\kZ n₀ g W wr)
  (λi _=>R-(intOf i).toNat)
 case atStart=>exact⟨0,be _,rfl,h0,og _ _ _⟩
 obtain⟨k,hk,rfl,s,j⟩:=hrel;by_cases w:k<R
 .have m:k<f.length:=by rw[Y];exact w
  have hx:(f[k]).1=place C h k:=by
   have:=C? (·[k]?) HZ;simp[m,w,places]at this;exact this
  have ht:f.take (k+1)=f.take k++[f[k]]:=aj m;have HT:=ah ht;have K:(((f[k]).1:O):I)=((place C h k:O):I):=by rw[hx]
  have t:=X.but j L hg;have B2:=V.but j Zd N;have c0:=t.c0;have c1:=t.c1;have c2:=t.c2;have d0:=B2.one;have z1:=t.lt;have z2:=B2.lt;clear hx ht hc;have η:k*C<=128:=a_ (io (show k<=4 by omega) B) jS;have m1:0<=(k:I)*(C:I):=by rw[<-eG];omega
  have m2:(k:I)*(C:I)<=128:=by rw[<-eG];omega
  obtain⟨m3,m4⟩:=My (c:=C) jS k h;have y:((place C h k:O):I)=(k:I)*(C:I)+ET C k h:=by unfold place;rw[Int.natCast_add,eG];omega
  rw[y]at K;have w1:IntKind.i64.wrap ((k:I)*(C:I))=(k:I)*(C:I):=dv _ jS;have w2:IntKind.i64.wrap ((k:I)*(C:I)+ET C k h)=(k:I)*(C:I)+ET C k h:=dv _ jS;clear y;gi_wp2;gi_region_with(first
   |(
    refine⟨trivial,?_⟩
    refine(jI.2 (ae8 _ C A nn cap k h hh jS Mk B _)).mono ?_
    rintro e W2⟨rfl,H⟩
    have p:Below wr wr W2:=Below.two (jQ wr).drew H
    have T:=sF hJ s p
    obtain⟨fn,β,G,α,hy,hR⟩:=hY _ (f[k]) W2 T mO
    rw[K]at hy
    have Q:=(t.later p).c1)
   |(
    refine(hR.mono zE).mono ?_
    rintro e W3⟨b,rfl,d⟩))
  all_goals clear hy hR Q w1 w2 K
  all_goals cases b
  all_goals gi_wp2
  all_goals first
   |(
    refine jF (bj7 rfl _ _ _) rfl ?_
    refine⟨⟨_,rfl⟩,s? ⟨_,?_,d⟩⟩
    rw[<-HT];exact eS _ _)
   |(
    go_roundw
    case rel=>exact⟨k+1,jS,lV,by rw[HT];exact d.1,l_ j (l_ (pD (by have:=j.1;omega) p) d.2)⟩
    simp[intOf];omega)
 obtain rfl:k=R:=jS;gi_wp2;go_end0;exact⟨⟨_,rfl⟩,r? ⟨_,cl (by rw[Y];exact ay _),s⟩⟩
def zM(n:O)(r:1<=n)(a b n₀ g R C q cap M:O)(A:w? jG)(h:I)(y:U h)(k:R<=4)(v:1<=C)(o:C<=32)(c:E (At M))(d:c.map (·.1)=places R C h)(e:a<n₀)(z:a≠g)(D:b<n₀)(f:b≠g)(w:jC)(G:n₀<=w.heap.size)(t:jR w a 216 #[jJ R,jJ C,b? A q cap]) (m:jR w b 22 #[jK h]):bl1 cz n Tryz.prog 339 #[jO a,jO b] (λx:At M=>#[br o? (x.1:I)]) (kZ n₀ g) (λK=>K=c) (λp=>p <+: c) R w:=λl J H W j s _ B F=>
 Pi n r l a b n₀ g R C q cap M A h y k v o c d e z D f J H W (by have:=j.size;omega) s B (t.later j) (m.later j) F
end
section
variable{P:bi3}{md:fD}{ops:x? bk0}{Q:bk7->Act->jC->Prop}{l n:O}
end
section
open Go.RowKit Go.Shelf
attribute [local go_sem] db
def TB(l:E I)(p:O)(v:I):(l.map (br n?)).toArray.setIfInBounds p (c? n? v)=((l.set p v).map (br n?)).toArray:=by simp[iJ]
def ChI(w:jC)(N g b bt:O)(l:E I)(f:O->I->I)(r c:I)(cap:O)(to:jD)(a:E (At N))(W:jC):Prop:=
 jR W g 22 ((lL f l (a.map (·.1))).map (br n?)).toArray/\jR W b 216 #[jJ r,jJ c,b? (aC g) N cap]/\jR W bt 490 #[to]/\(bY w W g)
variable{N g B:O}
def MT{o bt:O}{f:O->I->I}{cap:O}{to:jD}(t:w.heap.size<=B):bj3 B (ChI w N g o bt l f r c cap to):=by
 rintro s W v h⟨p,q,n,d⟩ a m;have b:∀r,h=M r->(aH W r):=λr e=>(m r e).2;exact⟨p.kept a b,q.kept a b,n.kept a b,⟨a.os.trans d.os,a.tape.trans d.tape,a.output.trans d.output,a_ d.size a.size,λi k j=>(a.block i (cn k d.size) (λe=>by have:=(m i e.symm).1;omega)).trans (d.block i k j)⟩⟩
def vJ(w:jC)(N g cap R:O)(r c:I)(l:E I)(hl:l.length=N)(μ:Us l)(hN:N<=65536)(G:jR w g 22 (l.map (br n?)).toArray)(zs:E (At N))(gf:O) (lb:x? jD) (eg:∀j w,(callFunc gf j).run Tryz.prog w=.ok (.enter gf j) w) {Sp:E (At N)->Prop}(Y:bl1 cz 5 Tryz.prog gf lb (λx:At N=>#[br o? (x.1:I)]) (kZ w g) (λys=>ys=zs) Sp R w)(s:O) (y:x? jD) (et:∀j w,(callFunc s j).run Tryz.prog w=.ok (.enter s j) w) (f:O->I->I) (hf:∀p o,U o->U (f p o))(ε:∀(x:At N)(o:I)(W:jC),U o->kZ w.heap.size g w W->jE Tryz.prog s (#[c? o? (x.1:I),c? n? o]++y) W λe W'=>e=a? (c? n? (f x.1 o))/\(bJ W W')):bj2 cz 6 Tryz.prog 332 #[g? #[jJ r,jJ c,b? (aC g) N cap],lI 38 gf lb,lI 38 s y] w λe T=>(∃v,e=a? v)/\ jR T g 22 ((lL f l (zs.map (·.1))).map (br n?)).toArray/\(bY w T g):=by
 have ψ:=G.lt;have α:=ah hl;clear hl;refine bi7 Tryz.func332 rfl trivial ?_ rfl;simp only[Tryz.ntmps332,xb,ao,dk];refine bi4.2 ?_;go_wp2_with fail;have ν:ChI w N g w (w.heap.size+1) l f r c cap (lI 38 s y) [] ((w.alloc (m? #[jJ r,jJ c,b? (aC g) N cap] 216)).alloc (m? #[lI 38 s y] 490)):=by
  refine⟨(G.alloc _).alloc _,(jR.new w _ _).alloc _,?_,kH (jP (jP (jQ _) _) _) _⟩;have:=jR.new (w.alloc (m? #[jJ r,jJ c,b? (aC g) N cap] 216)) 490 #[lI 38 s y];rwa[b_]at this
 have κ:Below w w ((w.alloc (m? #[jJ r,jJ c,b? (aC g) N cap] 216)).alloc (m? #[lI 38 s y] 490)):=jP (jP (jQ _) _) _;have Γ:((w.alloc (m? #[jJ r,jJ c,b? (aC g) N cap] 216)).alloc (m? #[lI 38 s y] 490)).heap.size=w.heap.size+2:=lV;generalize((w.alloc (m? #[jJ r,jJ c,b? (aC g) N cap] 216)).alloc (m? #[lI 38 s y] 490))=W0 at*;refine(bi4 (n:=6)).1 ?_;refine bj9 rfl jS (gf:=gf) (lb:=lb) rfl trivial eg Y (λh k=>l_ h k) (qf jS) κ (λ_=>rfl)
  (ChI w N g w (w.heap.size+1) l f r c cap (lI 38 s y)) (λ_ _ _=>False) (MT jS) (λ_ _ _ _ _ h _ _=>h) ν
  (λx=>{tmps:=#[g? #[jJ r,jJ c,b? (aC g) N cap],lI 38 gf lb,lI 38 s y,jO w,undef,e? (M (aE w)),jJ (x.1:I),lI 38 gf lb,jJ (x.1:I),undef,undef,undef,undef,undef,undef,undef,undef,undef,undef,undef,undef,undef,undef],defers:=[]}) ?assign ?body ?done ?stop
 case assign=>
  intro l x W K q;gi_wp2;exact q
 case body=>
  rintro l' C⟨p,hp⟩ W⟨z,H,J,m⟩ ρ;obtain⟨L,hL⟩:∃L,lL f l (C.map (·.1))=L:=⟨_,rfl⟩;have HL:Hid (lL f l ((C++[(⟨p,hp⟩:At N)]).map (·.1))=UR f L p):=by
   show _=_;rw[dH,<-hL];exact Ik f l _ p
  have t:L.length=N:=by rw[<-hL];exact(mT _ _ _).trans α
  have V:Us L:=by rw[<-hL];exact Us.lL hf μ
  rw[hL]at z;clear hL;obtain⟨o,ho⟩:∃o,nth L p=o:=⟨_,rfl⟩;have η:U o:=by rw[<-ho];exact rI V p
  have cg:W.cell? ⟨g,p,Z⟩=M (c? n? o):=by
   rw[z.cell,<-ho];have hx:p<L.length:=by rw[t];exact hp
   simp[nth,hx]
  have HO:Hid (UR f L p=L.set p (f p o)):=by show UR f L p=_;rw[UR,ho]
  have HG:=ah z;have HW:=ah H;have F:=ah J;have SO:=ah t;have fg:=z.frozen p;have c2:=H.c2;have d0:=J.one;have z1:=H.lt;have z2:=J.lt;have z3:=z.lt;have ω:(0:I)<=p:=jS;have χ:((p:O):I)<(N:I):=jS;have YA:Hid (kZ w g w W.drew):=⟨m.size,(p8 aa m).2⟩;clear t ho z H J V;gi_wp2_with fail;refine qQ (S:=λT=>T.cell? ⟨w,2,Z⟩=M (b? (aC g) N cap)/\T.cell? (aE w)=M (lI 38 s y)) oo oo (by rintro⟨_,_,h⟩;exact h) ⟨c2,d0⟩ (λd=>?_);refine re d ?_;refine pL 11 λK q=>?_;go_simp;refine q.out _ _ ⟨c2,d0⟩ (λd=>?_);clear q K;refine az ?_;refine pL 12 λK q=>?_;go_simp;refine(ε ⟨p,hp⟩ o W.drew η YA).mono ?_;rintro e W2⟨rfl,γ⟩;have b:Below W W W2:=Below.two (jQ W).drew γ;have θ:=(HW.later b).c2;have β:=(F.later b).one;have φ:=(b.cell (p:=⟨g,p,Z⟩) z3).trans cg;have ξ:=(HG.later b).frozen p;refine q.out _ _ ⟨θ,β⟩ (λd=>?_);clear q K;refine az ?_;refine re d ?_;refine pL 14 λK q=>?_;go_simp;refine q.out _ _ ⟨((HW.later b).far (p:=⟨g,p,Z⟩) (by show w.heap.size≠g;omega) _).c2,((F.later b).far (p:=⟨g,p,Z⟩) (by show w.heap.size+1≠g;omega) _).one⟩ (λd=>?_);clear q K;refine az ?_;refine hdn ?_;refine⟨(ky b).trans (b7 _ _ _),l_ (pD m.size b) (p8 (a_ m.size b.size) (k6 W2 g p _)),?_,(HW.later b).far (by show w.heap.size≠g;omega) _,(F.later b).far (by show w.heap.size+1≠g;omega) _,jW (jW m (kH b _)) (k6 W2 g p _)⟩;rw[HL,HO];have:=(HG.later b).kY p (c? n? (f p o));rwa[TB]at this
 case done=>
  rintro D ys W hD rfl⟨z,H,J,m⟩ q;gi_wp2;refine⟨lV,r? ⟨_,_,rfl,bi2 q,?_⟩⟩;have δ:∀r,M D=M r->(aH W r):=λr e=>by cases e;exact⟨_,q,rfl⟩
  exact⟨d? #[],bj7 rfl _ _ _,⟨_,rfl⟩,z.kept (bj5 _ D cJ) δ,(MT (B:=W0.heap.size) jS ys W _ (M D) ⟨z,H,J,m⟩ (bj5 _ D cJ) (λr e=>by cases e;exact⟨hD,_,q,rfl⟩)).2.2.2⟩
 rintro D c C W _ _ h _;exact h.elim
end
def Sx(p:O)(o n:I)(g:U o)(d:U n)(b:O)(w:jC)(f:jR w b 22 #[jK n]):jE Tryz.prog 334 #[jJ p,jK o,jO b] w λe a=>e=a? (c? n? (sat o n))/\Below w w a:=by
 have h:=f.one;go_in;go_wp2_with fail;have c:=jR.new w 22 #[jK o,jK n];refine(oa o n g d _ w 0 2 (c.cell 0) (c.cell 1)).mono ?_;rintro e a⟨rfl,rfl⟩;go_wp2;go_ret;exact⟨rfl,jP (jQ _) _⟩
def J3(p:O)(o:I)(t:U o)(b:O)(r c:I)(A:w? jG)(m:E I)(cap:O)(k:Us m)(j:p<m.length)(z:m.length<=65536)(w:jC)(l:jR w b 131 #[jJ r,jJ c,jN A m cap])(n:Sl w w A m):jE Tryz.prog 338 #[jJ p,jK o,jO b] w λe f=>e=a? (c? n? (sat o (nth m p)))/\Below w w f:=by
 have y:=l.c2;obtain⟨g,q,rfl,B,d⟩:=n.at_ jS;have s:=d p j;have hU:=rI k p;obtain⟨x,a⟩:∃x,nth m p=x:=⟨_,rfl⟩;rw[a]at s hU⊢;have v:=ah a;clear d a;go_in;go_wp2_with fail;have h:=jR.new w 22 #[jK o,jK x];refine(oa o x t hU _ w 0 2 (h.cell 0) (h.cell 1)).mono ?_;rintro e f⟨rfl,rfl⟩;go_wp2;go_ret;exact⟨rfl,jP (jQ _) _⟩
def lA(H p:O):O:=p/H*(2*H)+p%H
def RJ{R H p:O}(c:0<H)(a:p<R*H):lA H p+H<R*(2*H):=by
 have d:p/H<R:=iZ (by rw[Nat.mul_comm];exact a);have e:=jj p c;have b:(p/H+1)*(2*H)<=R*(2*H):=fZ _ d;rw[iY]at b;unfold lA;omega
def Ka(p R H:O)(o:I)(hH:0<H)(L:H<=32)(V:R<=4)(x:p<R*H)(b s:O)(A A2:w? jG)(m:E I)(n2 h cap:O)(y:Us m)(J:m.length=R*(2*H))(w:jC)(z:jR w b 216 #[jJ R,jJ H,b? A2 n2 h]) (r:jR w s 131 #[jJ R,jJ (2*H:O),jN A m cap]) (Q:Sl w w A m):jE Tryz.prog 337 #[jJ p,jK o,jO b,jO s] w λe a=>e=a? (c? n? (sat (nth m (lA H p)) (nth m (lA H p+H))))/\Below w w a:=by
 have C:=RJ hH x;have γ:lA H p+H<m.length:=jS;have j:R*(2*H)<=256:=a_ (io V (show 2*H<=64 by omega)) jS;obtain⟨g,d,rfl,hg,c⟩:=Q.at_ jS;have x1:=c (lA H p) jS;have x2:=c (lA H p+H) jS;have D:=rI y (lA H p);have u2:=rI y (lA H p+H);generalize nth m (lA H p)=l at*;generalize nth m (lA H p+H)=n at*;have f:(p:I)/(H:I)*((2*H:O):I)+(p:I)%(H:I)=((lA H p:O):I):=by unfold lA;simp
 have t:p/H<R:=iZ (by rw[Nat.mul_comm];exact x);have v:(p:I)/(H:I)=((p/H:O):I):=lV;have k:wrap64 (wrap64 (wrap64 ((p:I)/(H:I))*(2*(H:I)))+(p:I)%(H:I))=((lA H p:O):I):=by
  have X:((2*H:O):I)=2*(H:I):=jS;rw[X]at f;have h0:0<=(p:I)%(H:I):=Int.emod_nonneg _ jS;have h1:(p:I)%(H:I)<H:=jk _ jS;have N:0<=(p:I)/(H:I):=Int.ediv_nonneg jS jS;have h2:0<=(p:I)/(H:I)*(2*(H:I)):=Int.mul_nonneg N jS;rw[e_ ((p:I)/(H:I)) jS,e_ ((p:I)/(H:I)*(2*(H:I))) jS,e_ _ jS];exact f
 clear v t;have b2:=z.c1;have z1:=z.lt;have z2:=r.lt;have b3:=r.c1;have b4:=r.c2;have K:(H:I)≠0:=jS;have G:m.length<=256:=jS;clear c J C j;go_in;go_wp2;go_quiet(fail);rw[k];clear f k;generalize lA H p=q at*;have W:(0:I)<=q:=jS;have B:(q:I)<m.length:=jS;have T:(0:I)<=q+(H:I):=jS;have F:(q:I)+(H:I)<m.length:=jS;have α:IntKind.i64.wrap ((q:I)+(H:I))=(q:I)+(H:I):=dv _ jS;have Y:q<m.length:=jS;have β:((q:I)+(H:I)).toNat=q+H:=jS;go_wp2;go_region_held3 (λa=>a.cell? ⟨b,1,Z⟩=M (c? o? H)/\a.cell? ⟨s,2,Z⟩=M (b? (bH g d) m.length cap)/\a.cell? ⟨g,d+q,Z⟩=M (c? n? l)/\a.cell? ⟨g,d+(q+H),Z⟩=M (c? n? n)) (go_keep)
  (first|(go_at_call 335;refine(oa l n D u2 _ w 0 2 ?_ ?_).mono ?_;(exact(jR.new (w.drewN _) 22 #[jK l,jK n]).cell 0);(exact(jR.new (w.drewN _) 22 #[jK l,jK n]).cell 1);rintro e a⟨rfl,rfl⟩))
 go_wp2;go_ret;exact⟨rfl,jP (below_drewN (jQ _) _) _⟩
theorem Il(X:jC)(g R C Bw Bh bn cap:Nat)(h n:Int)(hh:U h)(hn:U n)(l:List Int)(hl:l.length=R*C)(hU:Us l)(hR:R≤4)(Mk:1≤C)(hC2:C≤32)(G:jR X g 22 (l.map (br .u64)).toArray)
 (hBw:jR X Bw 216 #[jJ R,jJ C,.slice (aC g) l.length cap]) (Zd:jR X Bh 22 #[jK h]) (hbn:jR X bn 22 #[jK n]) (n1:Bw≠g) (n2:Bh≠g) (n3:bn≠g):
 jE Tryz.prog 332 #[.agg #[jJ R,jJ C,.slice (aC g) l.length cap],.func (.func 339) #[] #[jO Bw,jO Bh],.func (.func 334) #[] #[jO bn]] X fun e w'=>(∃v,e=.returned v)∧
  jR w' g 22 ((lL (fun _ o=>sat o n) l (places R C h)).map (br .u64)).toArray∧(bY X w' g):=by
 have hm:R*C≤128:=a_ (io hR hC2) jS
 obtain⟨zs,hzs⟩:=mH (N:=l.length) (places R C h) (by rw[hl];exact CO Mk h)
 have:=vJ X l.length g cap R R C l rfl hU jS G zs 339 #[jO Bw,jO Bh] (enters_of Tryz.func339 oo rfl)
  (zM 5 jS Bw Bh X g R C l.length cap l.length (aC g) h hh hR Mk hC2 zs hzs hBw.lt n1 Zd.lt n2 X aa hBw Zd)
  334 #[.pointer (aC bn)] (enters_of Tryz.func334 oo rfl) (fun _ o=>sat o n) (fun _ o ho=>uQ ho.1 hn.1)
  (fun x o W ho hk=>Sx x.1 o n ho hn bn W (hbn.but hk hbn.lt n3))
 rw[hzs]at this
 exact jI.1 this
def xX(x:Cm)(h n:I):Cm×I:=if kP x.r x.c x.l.length=t? then(⟨x.r,x.c,lL (λ_ o=>sat o n) x.l (places x.r.toNat x.c.toNat h)⟩,0)else(Cm.none,80)
def add_any(r c:Int)(A:Option jG)(l:List Int)(cap:Nat)(h n:Int)(hh:U h)(hn:U n)(hU:Us l)(w:jC)(hS:Sl w w A l):jE Tryz.prog 327 #[bR r c A l cap,jK h,jK n] w (BK w (xX ⟨r,c,l⟩ h n)):=by
 have H:Below w w (((w.alloc (aK r c A l cap)).alloc (cD n)).alloc (rO 66)):=jP (jP (jP (jQ _) _) _) _;have k:=ah ((jR.new (w.alloc (aK r c A l cap)) 22 #[jK n]).alloc (rO 66));have Y:=ah (jR.new ((w.alloc (aK r c A l cap)).alloc (cD n)) 131 #[jJ 0,jJ 0,jM]);have HS:=ah (hS.later H);simp only[b_]at k Y;clear hS;go_in;go_wp2_with fail;refine(nI r c A l cap _ HS).mono ?_;rintro e m⟨a,⟨D,g,V,rfl,j⟩|⟨hf,s,rfl⟩⟩
 .have t:Hid (xX ⟨r,c,l⟩ h n=(⟨r,c,lL (λ_ o=>sat o n) l (places r.toNat c.toNat h)⟩,0)):=by show xX _ _ _=_;rw[xX,if_pos D]
  obtain⟨Q,T⟩:=lh D;obtain⟨R,C,rfl,rfl,q1,q2,q3⟩:=rD Q;have HL:Hid (l.length=R*C):=by show l.length=_;rw[<-eG]at T;omega
  have Mk:1<=C:=jS;have N:C<=32:=jS;have γ:w.heap.size+3<=g:=by simpa using V
  replace k:=ah (k.later a);replace Y:=ah (Y.later a);have p:=Below.two H a;have G:=ah j;clear j a V T Q D q3;go_wp2_with fail;have δ:=ah (jR.new m 216 #[jJ R,jJ C,.slice (aC g) l.length l.length]);replace k:=ah (k.alloc (.cells #[jJ R,jJ C,.slice (aC g) l.length l.length] 216));replace Y:=ah (Y.alloc (.cells #[jJ R,jJ C,.slice (aC g) l.length l.length] 216));have zg:=G.lt;replace G:=ah (G.alloc (.cells #[jJ R,jJ C,.slice (aC g) l.length l.length] 216));replace p:=jP p (.cells #[jJ R,jJ C,.slice (aC g) l.length l.length] 216);generalize m.alloc (.cells #[jJ R,jJ C,.slice (aC g) l.length l.length] 216)=W at*;have x0:=δ.c0;have x1:=δ.c1;have x2:=δ.c2;have z0:=Y.lt;have z1:=k.lt;have z2:=δ.lt;have z3:=G.lt;have KC:Hid (∀X:jC,X=(W.drew.alloc (.cells #[jJ R,jJ C,.slice (aC g) l.length l.length] 216)).alloc (cD h)->jE Tryz.prog 332 #[.agg #[jJ R,jJ C,.slice (aC g) l.length l.length],.func (.func 339) #[] #[jO W,.pointer (some (aE W))],.func (.func 334) #[] #[.pointer (some (aE w))]] X λe f=>(∃v,e=.returned v)/\
   jR f g 22 ((lL (λ_ o=>sat o n) l (places R C h)).map (br .u64)).toArray/\(bY X f g)):=by
   rintro X rfl
   have b1:=(jR.new W.drew 216 #[jJ R,jJ C,.slice (aC g) l.length l.length]).alloc (cD h)
   have b2:=jR.new (W.drew.alloc (.cells #[jJ R,jJ C,.slice (aC g) l.length l.length] 216)) 22 #[jK h]
   rw[b_]at b2
   exact Il _ g R C W (W.heap.size+1) (w.heap.size+1) l.length h n hh hn l HL hU q2 Mk N ((G.drew.alloc _).alloc _) b1 b2 ((k.drew.alloc _).alloc _) jS jS jS
  go_region_held3 (λf=>f.cell? ⟨m,0,none⟩=some (.int .i64 R)/\f.cell? ⟨m,1,none⟩=some (.int .i64 C)/\f.cell? ⟨m,2,none⟩=some (.slice (aC g) l.length l.length)) (first|go_keep|exact⟨y0,y1,y2⟩)
   (first
    |(go_at_call 333;refine(Fx _ _ _ _ _ _ _).mono ?_;rintro e f⟨rfl,rfl⟩)
    |(go_at_call 332;refine(KC _ rfl).mono ?_;rintro e w2⟨⟨v,rfl⟩,q,b⟩;have B:=((δ.drew.alloc _).alloc _).grown b (λe=>TP);have y0:=B.c0;have y1:=B.c1;have y2:=B.c2;have d:=ah (((Y.drew.alloc _).alloc _).grown b (λe=>TP));have T2:Below w w w2:=ly (jP (jP p.drew _) _) b jS;have G2:=ah q;have f0:=d.frozen 0;have f1:=d.frozen 1;have f2:=d.frozen 2;have u0:=d.c0;have u1:=d.c1;have u2:=d.c2;have α:m.heap.size≠w.heap.size+1+1:=jS))
  all_goals
   clear q b B KC x0 x1 x2;have β:=d.lt;go_wp2_with fail;have K:=d.zS (x:=.int .i64 R) (y:=.int .i64 C) (z:=.slice (aC g) l.length l.length);have J:=K.c0;have F:=K.c1;have L:=K.c2;refine jF (v:=.tuple #[.agg #[jJ R,jJ C,.slice (aC g) l.length l.length],jJ 0]) (by simp[results,Tryz.results327,go_sem,J,F,L]) rfl
    ⟨nw T2 jS _ _ _,.slice (aC g) l.length l.length,by rw[t],?_⟩
   rw[t,dM,dM];refine nh d ?_;have:=jR.held (base:=w.heap.size) G2 jS;rwa[mT]at this
 have t:Hid (xX ⟨r,c,l⟩ h n=(Cm.none,80)):=by show xX _ _ _=_;rw[xX,if_neg (by simp[hf])]
 replace Y:=ah (Y.later a);have p:=Below.two H a;have z1:=Y.lt;clear hf a;go_wp2_with fail;refine(kR s _).mono ?_;rintro e f⟨rfl,rfl⟩;replace Y:=ah ((Y.alloc bP).alloc (lz 53 s));replace p:=jP (jP p bP) (lz 53 s);generalize(m.alloc bP).alloc (lz 53 s)=W at*;have f0:=Y.frozen 0;have f1:=Y.frozen 1;have f2:=Y.frozen 2;have u0:=Y.c0;have u1:=Y.c1;have u2:=Y.c2;go_wp2_with fail;have K:=Y.zS (x:=.int .i64 0) (y:=.int .i64 0) (z:=.slice none 0 0);have J:=K.c0;have F:=K.c1;have L:=K.c2;refine jF (v:=.tuple #[cX,jJ 80]) (by simp[results,Tryz.results327,go_sem,J,F,L]) rfl
  ⟨nw p jS _ _ _,jM,by rw[t];rfl,?_⟩
 rw[t];exact nh Y (rN _ _)
variable{g:O}
def Jp{X W:jC}{n₀:O}{m:E I}(h:Sl X X A m)(d:kZ X g X W)(a:∀f,A=M f->f.block≠g):Sl W W A m:=λl=>by
 obtain⟨b,c,e,k,n⟩:=h l;exact⟨b,c,e,cn k d.1,λj u o=>(co (d.2 b k (a _ e))).trans (n j u o)⟩
theorem xT(X:jC)(g Bw by_ cap kC:Nat)(r c ry cy:Int)(l m:List Int)(A:Option jG)(hl:l.length≤65536)(hm:m.length=l.length)(hU:Us l)(XF:Us m)(G:jR X g 22 (l.map (br .u64)).toArray)
 (hBw:jR X Bw 216 #[jJ r,jJ c,.slice (aC g) l.length cap]) (hby:jR X by_ 131 #[jJ ry,jJ cy,jN A m kC]) (hS:Sl X X A m) (hne:∀ad,A=some ad→ad.block≠g) (n1:Bw≠g) (n3:by_≠g):
 jE Tryz.prog 332 #[.agg #[jJ r,jJ c,.slice (aC g) l.length cap],.func (.func 340) #[] #[jO Bw],.func (.func 338) #[] #[jO by_]] X fun e w'=>(∃v,e=.returned v)∧
  jR w' g 22 ((lL (fun p o=>sat o (nth m p)) l (bu l.length)).map (br .u64)).toArray∧(bY X w' g):=by
 obtain⟨zs,hzs⟩:=mH (N:=l.length) (bu l.length) (fun p hp=>dh.1 hp)
 have:=vJ X l.length g cap l.length r c l rfl hU hl G zs 340 #[jO Bw] (enters_of Tryz.func340 oo rfl)
  (all_stops 5 jS Bw X g l.length cap r c (aC g) zs hzs hl hBw.lt n1 X hBw)
  338 #[.pointer (aC by_)] (enters_of Tryz.func338 oo rfl) (fun p o=>sat o (nth m p)) (fun p o ho=>uQ ho.1 (rI XF p).1)
  (fun x o W ho hk=>J3 x.1 o ho by_ ry cy A m kC XF (by rw[hm];exact x.2) jS W (hby.but hk hby.lt n3) (Jp (n₀:=0) hS hk hne))
 rw[hzs]at this
 exact jI.1 this
def ni(x y:Cm):Cm×I:=if kP x.r x.c x.l.length=t?/\kP y.r y.c y.l.length=t?/\y.r=x.r/\y.c=x.c then(⟨x.r,x.c,lL (λp o=>sat o (nth y.l p)) x.l (bu x.l.length)⟩,0)else(Cm.none,80)
section
variable(r c ry cy:I)(A B:w? jG)(l m:E I)(cap kC:O)(hU:Us l)(XF:Us m)(w:jC)
abbrev Ej:jC:=((w.alloc (aK r c A l cap)).alloc (aK ry cy B m kC)).alloc (rO 66)
def sf:Below w w (Ej r c ry cy A B l m cap kC w):=jP (jP (jP (jQ _) _) _) _
def Gs:jR (Ej r c ry cy A B l m cap kC w) w 131 #[jJ r,jJ c,jN A l cap]:=((jR.new w _ _).alloc _).alloc _
def Gq:jR (Ej r c ry cy A B l m cap kC w) (w.heap.size+1) 131 #[jJ ry,jJ cy,jN B m kC]:=by
 have h:=(jR.new (w.alloc (aK r c A l cap)) 131 #[jJ ry,jJ cy,jN B m kC]).alloc (rO 66);rwa[b_]at h
def Ao:jR (Ej r c ry cy A B l m cap kC w) (aN w) 131 #[jJ 0,jJ 0,jM]:=by
 have h:=jR.new ((w.alloc (aK r c A l cap)).alloc (aK ry cy B m kC)) 131 #[jJ 0,jJ 0,jM];rwa[b_,b_]at h
end
def vx(r c ry cy:I)(A B:w? jG)(l m:E I)(cap kC:O)(w:jC)(g:Sl w w A l)(b:kP r c l.length=u?):jE Tryz.prog 330 #[bR r c A l cap,bR ry cy B m kC] w (BK w (ni ⟨r,c,l⟩ ⟨ry,cy,m⟩)):=by
 have h:Hid (ni ⟨r,c,l⟩ ⟨ry,cy,m⟩=(Cm.none,80)):=by show ni _ _=_;rw[ni,A? (by simp[b])]
 have f:=sf r c ry cy A B l m cap kC w;have Y:=ah (Ao r c ry cy A B l m cap kC w);have o:=ah (g.later f);have H:=ah b;clear b g;go_in;go_wp2_with fail;refine(nI r c A l cap _ o).mono ?_;rintro e p⟨a,⟨b,_⟩|⟨k,s,rfl⟩⟩
 .rw[H]at b;cases b
 replace Y:=ah (Y.later a);have d:=Below.two f a;have t:=Y.lt;clear k a;go_wp2_with fail;refine(kR s _).mono ?_;rintro e C⟨rfl,rfl⟩;replace Y:=ah ((Y.alloc bP).alloc (lz 53 s));replace d:=jP (jP d bP) (lz 53 s);generalize(p.alloc bP).alloc (lz 53 s)=W at*;have G:=Y.frozen 0;have J:=Y.frozen 1;have F:=Y.frozen 2;have u0:=Y.c0;have D:=Y.c1;have L:=Y.c2;go_wp2_with fail;have K:=Y.zS (x:=c? o? 0) (y:=c? o? 0) (z:=b? Z 0 0);have j:=K.c0;have q:=K.c1;have n:=K.c2;refine jF (v:=d? #[cX,jJ 80]) (by simp[results,Tryz.results330,go_sem,j,q,n]) rfl
  ⟨nw d jS _ _ _,jM,by rw[h];rfl,?_⟩
 rw[h];exact nh Y (rN _ _)
def vw(r c ry cy:I)(b:z?)(A B:w? jG)(l m:E I)(cap kC:O)(w:jC)(Q:Sl w w A l)(N:Sl w w B m)(F:kP r c l.length=t?)(C:kP ry cy m.length=b)(p:b=u?\/(b=t?/\¬ry=r)\/(b=t?/\ry=r/\¬cy=c)):jE Tryz.prog 330 #[bR r c A l cap,bR ry cy B m kC] w (BK w (ni ⟨r,c,l⟩ ⟨ry,cy,m⟩)):=by
 have V:Hid (ni ⟨r,c,l⟩ ⟨ry,cy,m⟩=(Cm.none,80)):=by show ni _ _=_;rw[ni,A? λh=>(by rcases p with e|⟨-,q⟩|⟨-,-,q⟩;(have:=h.2.1;rw[C,e]at this;cases this);exact q h.2.2.1;exact q h.2.2.2)]
 have HY:=ah C;have o:=ah p;clear C p;have n:=sf r c ry cy A B l m cap kC w;have X:=ah (Gs r c ry cy A B l m cap kC w);have Y:=ah (Gq r c ry cy A B l m cap kC w);have R:=ah (Ao r c ry cy A B l m cap kC w);have HS:=ah (Q.later n);have k:=ah (N.later n);have H:=ah F;clear F Q N;go_in;go_wp2_with fail;refine(nI r c A l cap _ HS).mono ?_;rintro e t⟨a,⟨_,g,L,rfl,d⟩|⟨D,_⟩⟩
 rotate_left
 .rw[H]at D;cases D
 have j:=Y.later a;have T:=j.c0;have J:=j.c1;have y2:=j.c2;have z0:=j.lt;clear j;replace X:=ah ((X.later a).alloc (m? #[jJ r,jJ c,b? (aC g) l.length l.length] 216));replace Y:=ah ((Y.later a).alloc (m? #[jJ r,jJ c,b? (aC g) l.length l.length] 216));replace R:=ah ((R.later a).alloc (m? #[jJ r,jJ c,b? (aC g) l.length l.length] 216));have G:=ah (jR.alloc d (m? #[jJ r,jJ c,b? (aC g) l.length l.length] 216));have γ:=ah (jR.new t 216 #[jJ r,jJ c,b? (aC g) l.length l.length]);replace k:=ah ((k.later a).later (jP (jQ _) (m? #[jJ r,jJ c,b? (aC g) l.length l.length] 216)));have f:=jP (Below.two n a) (m? #[jJ r,jJ c,b? (aC g) l.length l.length] 216);have α:w.heap.size+3<=g:=by simpa using L
 have β:g<t.heap.size:=oh d;clear d a L;go_wp2_with fail;clear T J y2 z0;generalize t.alloc (m? #[jJ r,jJ c,b? (aC g) l.length l.length] 216)=W at*;refine(j_ ry cy B m.length kC _).mono ?_;rintro e w'⟨rfl,rfl⟩;rw[HY];replace R:=ah (R.alloc (aK ry cy B m kC));replace X:=ah (X.alloc (aK ry cy B m kC));replace Y:=ah (Y.alloc (aK ry cy B m kC));replace γ:=ah (γ.alloc (aK ry cy B m kC));replace G:=ah (G.alloc (aK ry cy B m kC));replace k:=ah (k.later (jP (jQ _) (aK ry cy B m kC)));replace f:=jP f (aK ry cy B m kC);generalize W.alloc (aK ry cy B m kC)=W2 at*;have x0:=X.c0;have x1:=X.c1;have T:=Y.c0;have J:=Y.c1;rcases o with rfl|⟨rfl,s⟩|⟨rfl,rfl,s⟩
 all_goals
  go_wp2_with fail;refine(kR _ _).mono ?_;rintro e w'⟨rfl,rfl⟩;replace R:=ah (R.alloc (rO 17));replace f:=jP f (rO 17);generalize W2.alloc (rO 17)=W3 at*;have f0:=R.frozen 0;have f1:=R.frozen 1;have f2:=R.frozen 2;have u0:=R.c0;have u1:=R.c1;have u2:=R.c2;go_wp2_with fail;have K:=R.zS (x:=c? o? 0) (y:=c? o? 0) (z:=b? Z 0 0);have k0:=K.c0;have k1:=K.c1;have k2:=K.c2;refine jF (v:=d? #[cX,jJ 80]) (by simp[results,Tryz.results330,go_sem,k0,k1,k2]) rfl
   ⟨nw f jS _ _ _,jM,by rw[V];rfl,?_⟩
  rw[V];exact nh R (rN _ _)
def vv(r c:Int)(A B:Option jG)(l m:List Int)(cap kC:Nat)(w:jC)(hS:Sl w w A l)(Rw:Sl w w B m)(s:kP r c l.length=true)(Q:kP r c m.length=true)(hU:Us l)(XF:Us m):jE Tryz.prog 330 #[bR r c A l cap,bR r c B m kC] w (BK w (ni ⟨r,c,l⟩ ⟨r,c,m⟩)):=by
 have HR:Hid (ni ⟨r,c,l⟩ ⟨r,c,m⟩=(⟨r,c,lL (λp o=>sat o (nth m p)) l (bu l.length)⟩,0)):=by show ni _ _=_;rw[ni,if_pos ⟨s,Q,rfl,rfl⟩]
 have L:m.length=l.length:=by have t:=(lh s).2;have h2:=(lh Q).2;omega
 have Yy:=ah L;have α:l.length<=65536:=by
  obtain⟨R',C',e1,e2,_,q2,q3⟩:=rD (lh s).1;have t:=(lh s).2;have h3:=CD q2 q3;rw[e1,e2,<-eG]at t;omega
 clear L;have HY:=ah Q;clear Q;have DA:=sf r c r c A B l m cap kC w;have X:=ah (Gs r c r c A B l m cap kC w);have Y:=ah (Gq r c r c A B l m cap kC w);have R:=ah (Ao r c r c A B l m cap kC w);have BE:Hid (m≠[]->∀k,B=some k->k.block<w.heap.size):=λβ k e=>by
  obtain⟨b,δ,e',hb,_⟩:=Rw (by simpa using β);rw[e']at e;cases e;exact hb
 have HS:=ah (hS.later DA);have C:=ah (Rw.later DA);have H:=ah s;clear s hS Rw;go_in;go_wp2_with fail;refine(nI r c A l cap _ HS).mono ?_;rintro e q⟨a,⟨_,g,hg,rfl,d⟩|⟨hf,_⟩⟩
 rotate_left
 .rw[H]at hf;cases hf
 have J:=Y.later a;have N:=J.c0;have T:=J.c1;have y2:=J.c2;have z0:=J.lt;clear J;replace X:=ah ((X.later a).alloc (.cells #[jJ r,jJ c,.slice (aC g) l.length l.length] 216));replace Y:=ah ((Y.later a).alloc (.cells #[jJ r,jJ c,.slice (aC g) l.length l.length] 216));replace R:=ah ((R.later a).alloc (.cells #[jJ r,jJ c,.slice (aC g) l.length l.length] 216));have G:=ah (jR.alloc d (.cells #[jJ r,jJ c,.slice (aC g) l.length l.length] 216));have κ:=ah (jR.new q 216 #[jJ r,jJ c,.slice (aC g) l.length l.length]);replace C:=ah ((C.later a).later (jP (jQ _) (.cells #[jJ r,jJ c,.slice (aC g) l.length l.length] 216)));have T1:=jP (Below.two DA a) (.cells #[jJ r,jJ c,.slice (aC g) l.length l.length] 216);have η:w.heap.size+3<=g:=by simpa using hg
 have θ:g<q.heap.size:=oh d;clear d a hg;go_wp2_with fail;clear N T y2 z0;generalize q.alloc (.cells #[jJ r,jJ c,.slice (aC g) l.length l.length] 216)=W at*;refine(j_ r c B m.length kC _).mono ?_;rintro e j⟨rfl,rfl⟩;rw[HY];replace R:=ah (R.alloc (aK r c B m kC));replace X:=ah (X.alloc (aK r c B m kC));replace Y:=ah (Y.alloc (aK r c B m kC));replace κ:=ah (κ.alloc (aK r c B m kC));replace G:=ah (G.alloc (aK r c B m kC));replace C:=ah (C.later (jP (jQ _) (aK r c B m kC)));replace T1:=jP T1 (aK r c B m kC);generalize W.alloc (aK r c B m kC)=F at*;have x0:=X.c0;have x1:=X.c1;have N:=Y.c0;have T:=Y.c1;have n:m≠[]:=by
  intro e;have t:=(lh H).2;obtain⟨R',C',e1,e2,q1,q2,q3⟩:=rD (lh H).1;have h2:=Yy;rw[e1,e2,<-eG,<-h2,e]at t;have h4:0<R'*C':=Nat.mul_pos jS jS;simp at t;omega
 have OT:Hid (∀k,B=some k->k.block≠g):=λk e=>by have:=BE n k e;omega
 clear n;go_wp2_with fail;have x0:=κ.c0;have x1:=κ.c1;have x2:=κ.c2;have z0:=R.lt;have z1:=Y.lt;have z2:=κ.lt;have z3:=G.lt;have KC:Hid (∀V:jC,V=F.drew.alloc (.cells #[jJ r,jJ c,.slice (aC g) l.length l.length] 216)->jE Tryz.prog 332 #[.agg #[jJ r,jJ c,.slice (aC g) l.length l.length],.func (.func 340) #[] #[jO F],.func (.func 338) #[] #[.pointer (some (aE w))]] V λe j=>(∃v,e=.returned v)/\
  jR j g 22 ((lL (λp o=>sat o (nth m p)) l (bu l.length)).map (br .u64)).toArray/\(bY V j g)):=by
  rintro V rfl
  exact xT _ g F (w.heap.size+1) l.length kC r c r c l m B α Yy hU XF (G.drew.alloc _) (jR.new F.drew _ _) (Y.drew.alloc _) (C.later (jP (jQ F).drew _)) OT jS jS
 go_region_held3 (λj=>j.cell? ⟨q,0,none⟩=some (.int .i64 r)/\j.cell? ⟨q,1,none⟩=some (.int .i64 c)/\j.cell? ⟨q,2,none⟩=some (.slice (aC g) l.length l.length)) (first|go_keep|exact⟨N,T,y2⟩)
  (first
   |(go_at_call 336;refine(MJ _ _ _ _ _ _).mono ?_;rintro e j⟨rfl,rfl⟩)
   |(go_at_call 332;refine(KC _ rfl).mono ?_;rintro e w2⟨⟨v,rfl⟩,D,f⟩;have Z2:=(κ.drew.alloc _).grown f (λe=>TP);have N:=Z2.c0;have T:=Z2.c1;have y2:=Z2.c2;have h:=ah ((R.drew.alloc _).grown f (λe=>TP));have T2:Below w w w2:=ly (jP T1.drew _) f jS;have G2:=ah D;have f0:=h.frozen 0;have f1:=h.frozen 1;have f2:=h.frozen 2;have u0:=h.c0;have u1:=h.c1;have u2:=h.c2;have γ:q.heap.size≠w.heap.size+1+1:=jS))
 all_goals
  clear D f Z2 KC x0 x1 x2;have ε:=h.lt;go_wp2_with fail;have K:=h.zS (x:=.int .i64 r) (y:=.int .i64 c) (z:=.slice (aC g) l.length l.length);have k0:=K.c0;have k1:=K.c1;have k2:=K.c2;refine jF (v:=.tuple #[.agg #[jJ r,jJ c,.slice (aC g) l.length l.length],jJ 0]) (by simp[results,Tryz.results330,go_sem,k0,k1,k2]) rfl
   ⟨nw T2 jS _ _ _,.slice (aC g) l.length l.length,by rw[HR],?_⟩
  rw[HR];refine nh h ?_;have:=jR.held (base:=w.heap.size) G2 jS;rwa[mT]at this
def merge_any(r c ry cy:I)(A B:w? jG)(l m:E I)(cap kC:O)(w:jC)(a:Sl w w A l)(f:Sl w w B m)(hU:Us l)(XF:Us m):jE Tryz.prog 330 #[bR r c A l cap,bR ry cy B m kC] w (BK w (ni ⟨r,c,l⟩ ⟨ry,cy,m⟩)):=by
 cases d:kP r c l.length with
 |false=>exact vx r c ry cy A B l m cap kC w a d
 |true=>
  by_cases e:kP ry cy m.length=t?/\ry=r/\cy=c
  .obtain⟨j,rfl,rfl⟩:=e;exact vv _ _ A B l m cap kC w a f d j hU XF
  refine vw r c ry cy _ A B l m cap kC w a f d rfl ?_
  cases h:kP ry cy m.length
  .exact r? rfl
  by_cases b:ry=r
  .exact s? (s? ⟨rfl,b,λg=>e ⟨h,b,g⟩⟩)
  exact s? (r? ⟨rfl,b⟩)
def AO(H:O)(l:E I)(p:O):I:=sat (nth l (lA H p)) (nth l (lA H p+H))
def mm(x:Cm):Cm×I:=if kP x.r x.c x.l.length=t?/\x.c≠4 then(⟨x.r,x.c/2,lL (λp _=>AO (x.c/2).toNat x.l p) (de (x.r*(x.c/2)).toNat 0) (bu (x.r*(x.c/2)).toNat)⟩,0)else(Cm.none,80)
def Ph(n:O):Us (de n 0):=λx a=>by rw[gh a];unfold U;omega
theorem xU(X:jC)(g Bw b bx cap cap2 af0 R H n2:Nat)(l:List Int)(A A2:Option jG)(hR:R≤4)(hH:0<H)(hH2:H≤16)(hl:l.length=R*(2*H))(hU:Us l)(G:jR X g 22 ((de (R*H) (0:Int)).map (br .u64)).toArray)
 (hBw:jR X Bw 216 #[jJ R,jJ H,.slice (aC g) (R*H) cap]) (hb:jR X b 216 #[jJ R,jJ H,.slice A2 n2 cap2]) (hbx:jR X bx 131 #[jJ R,jJ (2*(H:Int)),jN A l af0])
 (hS:Sl X X A l) (hne:∀ad,A=some ad→ad.block≠g) (n1:Bw≠g) (n2':b≠g) (n3:bx≠g):
 jE Tryz.prog 332 #[.agg #[jJ R,jJ H,.slice (aC g) (R*H) cap],.func (.func 340) #[] #[jO Bw],.func (.func 337) #[] #[jO b,jO bx]] X fun e w'=>(∃v,e=.returned v)∧
  jR w' g 22 ((lL (fun p _=>AO H l p) (de (R*H) (0:Int)) (bu (R*H))).map (br .u64)).toArray∧(bY X w' g):=by
 rw[show 2*(H:Int)=((2*H:Nat):Int) by omega]at hbx
 have hm:R*H≤64:=a_ (io hR hH2) jS
 obtain⟨zs,hzs⟩:=mH (N:=R*H) (bu (R*H)) (fun p hp=>dh.1 hp)
 have:=vJ X (R*H) g cap (R*H) R H (de (R*H) 0) lV (Ph _) jS G zs 340 #[jO Bw] (enters_of Tryz.func340 oo rfl)
  (all_stops 5 jS Bw X g (R*H) cap R H (aC g) zs hzs jS hBw.lt n1 X hBw)
  337 #[.pointer (aC b),.pointer (aC bx)] (enters_of Tryz.func337 oo rfl) (fun p _=>AO H l p) (fun p o ho=>uQ (rI hU _).1 (rI hU _).1)
  (fun x o W ho hk=>Ka x.1 R H o hH jS hR x.2 b bx A A2 l n2 cap2 af0 hU hl W (hb.but hk hb.lt n2') (hbx.but hk hbx.lt n3) (Jp (n₀:=0) hS hk hne))
 rw[hzs]at this
 exact jI.1 this
def xJ(r c:I)(A:w? jG)(l:E I)(cap:O)(w:jC)(a:kP r c l.length=u?):jE Tryz.prog 329 #[bR r c A l cap] w (BK w (mm ⟨r,c,l⟩)):=by
 have b:Hid (mm ⟨r,c,l⟩=(Cm.none,80)):=by show mm _=_;rw[mm,A? (by simp[a])]
 have H:=ah a;clear a;go_in;go_wp2_with fail;refine(j_ r c A l.length cap _).mono ?_;rintro e d⟨rfl,rfl⟩;rw[H];go_wp2;refine jF (v:=d? #[cX,jJ 80]) (by simp[results,Tryz.results329,go_sem]) rfl
  ⟨jP (jP (jP (jQ _) _) _) _,jM,by rw[b];rfl,?_⟩
 rw[b];exact rN _ _
section
variable(r c:I)(A:w? jG)(l:E I)(cap:O)(w:jC)
abbrev J_:jC:=((w.alloc (aK r c A l cap)).alloc (rO 66)).alloc (aK r c A l cap)
def wn:Below w w (J_ r c A l cap w):=jP (jP (jP (jQ _) _) _) _
def Qv:jR (J_ r c A l cap w) w 131 #[jJ r,jJ c,jN A l cap]:=((jR.new w _ _).alloc _).alloc _
def Gw:jR (J_ r c A l cap w) (w.heap.size+1) 131 #[jJ 0,jJ 0,jM]:=by
 have h:=(jR.new (w.alloc (aK r c A l cap)) 131 #[jJ 0,jJ 0,jM]).alloc (aK r c A l cap);rwa[b_]at h
end
def J7(r:I)(A:w? jG)(l:E I)(cap:O)(w:jC)(c:kP r 4 l.length=t?):jE Tryz.prog 329 #[g? #[jJ r,jJ 4,jN A l cap]] w (BK w (mm ⟨r,4,l⟩)):=by
 have d:Hid (mm ⟨r,4,l⟩=(Cm.none,80)):=by show mm _=_;rw[mm,A? lV]
 have h:=wn r 4 A l cap w;have Y:=ah (Gw r 4 A l cap w);have H:=ah c;clear c;go_in;go_wp2_with fail;refine(j_ r 4 A l.length cap _).mono ?_;rintro e g⟨rfl,rfl⟩;rw[H];go_wp2_with fail;refine(oG r 2 _).mono ?_;rintro e n⟨a,⟨f,_⟩|⟨k,s,rfl⟩⟩
 .simp[mX]at f
 replace Y:=ah (Y.later a);have b:=Below.two h a;have p:=Y.lt;clear k a;go_wp2_with fail;refine(kR s _).mono ?_;rintro e g⟨rfl,rfl⟩;replace Y:=ah ((Y.alloc bP).alloc (lz 53 s));replace b:=jP (jP b bP) (lz 53 s);generalize(n.alloc bP).alloc (lz 53 s)=W at*;have B:=Y.frozen 0;have C:=Y.frozen 1;have q:=Y.frozen 2;have u0:=Y.c0;have t:=Y.c1;have D:=Y.c2;go_wp2_with fail;have K:=Y.zS (x:=c? o? 0) (y:=c? o? 0) (z:=b? Z 0 0);have j:=K.c0;have o:=K.c1;have m:=K.c2;refine jF (v:=d? #[cX,jJ 80]) (by simp[results,Tryz.results329,go_sem,j,o,m]) rfl
  ⟨nw b jS _ _ _,jM,by rw[d];rfl,?_⟩
 rw[d];exact nh Y (rN _ _)
def qx(R H:Nat)(A:Option jG)(l:List Int)(cap:Nat)(hU:Us l)(w:jC)(D:Sl w w A l)(n:kP R (2*(H:Int)) l.length=true)(h4:H≠2):jE Tryz.prog 329 #[.agg #[jJ R,jJ (2*(H:Int)),jN A l cap]] w (BK w (mm ⟨R,(2*(H:Int)),l⟩)):=by
 obtain⟨q1,q2,q3⟩:=tl (lh n).1;have r:mX R H=true:=by simp[mX];omega
 have s:l.length=R*(2*H):=by
  have:=(lh n).2;rw[show(R:Int)*(2*(H:Int))=((R*(2*H):Nat):Int) by simp]at this;omega
 have Q:(2*(H:Int))/2=(H:Int):=jS;have B:((R:Int)*(H:Int)).toNat=R*H:=by rw[<-eG,dM]
 have L:Hid (mm ⟨R,(2*(H:Int)),l⟩=(⟨R,H,lL (λp _=>AO H l p) (de (R*H) 0) (bu (R*H))⟩,0)):=by
  show mm _=_;rw[mm,if_pos ⟨n,by show(2*(H:Int))≠4;omega⟩];simp only[Q,B,dM]
 have q4:R<=4:=jS;have q5:0<H:=jS;have q6:H<=16:=jS;have N:=wn R (2*(H:Int)) A l cap w;have Y:=ah (Gw R (2*(H:Int)) A l cap w);have X:=ah (Qv R (2*(H:Int)) A l cap w);have C:=ah (D.later N);have m:l≠[]:=by
  intro e;rw[e]at s;have:0<R*(2*H):=Nat.mul_pos jS jS;simp at s;omega
 have BE:Hid (∀k,A=some k->k.block<w.heap.size):=λk e=>by
  obtain⟨b,β,e',hb,_⟩:=D (by simpa using m);rw[e']at e;cases e;exact hb
 have HL:=ah s;have HH:=ah n;have HN:=ah B;have F:=ah r;clear n s Q B D m q1 q2 q3 r;go_in;go_wp2_with fail;refine(j_ _ _ A l.length cap _).mono ?_;rintro e j⟨rfl,rfl⟩;rw[HH];go_wp2_with fail;refine(oG R H _).mono ?_;rintro e d⟨c,⟨_,g,J,rfl,a⟩|⟨T,_⟩⟩
 rotate_left
 .rw[F]at T;cases T
 rw[HN]at a⊢;have YY:=Y.later c;have z0:=YY.lt;clear YY;replace X:=ah ((X.later c).alloc (.cells #[jJ R,jJ H,.slice (aC g) (R*H) (R*H)] 216));replace Y:=ah ((Y.later c).alloc (.cells #[jJ R,jJ H,.slice (aC g) (R*H) (R*H)] 216));have G:=ah (jR.alloc a (.cells #[jJ R,jJ H,.slice (aC g) (R*H) (R*H)] 216));have η:=ah (jR.new d 216 #[jJ R,jJ H,.slice (aC g) (R*H) (R*H)]);replace C:=ah ((C.later c).later (jP (jQ _) (.cells #[jJ R,jJ H,.slice (aC g) (R*H) (R*H)] 216)));have T1:=jP (Below.two N c) (.cells #[jJ R,jJ H,.slice (aC g) (R*H) (R*H)] 216);have δ:w.heap.size+3<=g:=by simpa using J
 have ε:g<d.heap.size:=oh a;clear a c J;go_wp2_with fail;generalize d.alloc (.cells #[jJ R,jJ H,.slice (aC g) (R*H) (R*H)] 216)=q at*;have x0:=η.c0;have x1:=η.c1;have x2:=η.c2;have z1:=Y.lt;have z2:=η.lt;have z3:=G.lt;have OT:Hid (∀k,A=some k->k.block≠g):=λk e=>by have:=BE k e;omega
 have W:Hid (∀V:jC,V=q.drew.alloc (.cells #[jJ R,jJ H,.slice (aC g) (R*H) (R*H)] 216)->jE Tryz.prog 332 #[.agg #[jJ R,jJ H,.slice (aC g) (R*H) (R*H)],.func (.func 340) #[] #[jO q],.func (.func 337) #[] #[jO d,jO w]] V λe j=>(∃v,e=.returned v)/\
  jR j g 22 ((lL (λp _=>AO H l p) (de (R*H) (0:Int)) (bu (R*H))).map (br .u64)).toArray/\(bY V j g)):=by
  rintro V rfl
  exact xU _ g q d w (R*H) (R*H) cap R H (R*H) l A (aC g) q4 q5 q6 HL hU (G.drew.alloc _) (jR.new q.drew _ _) (η.drew.alloc _) (X.drew.alloc _) (C.later (jP (jQ q).drew _)) OT jS jS jS
 go_region_held3 (λj=>j.cell? ⟨d,0,none⟩=some (.int .i64 R)/\j.cell? ⟨d,1,none⟩=some (.int .i64 H)/\j.cell? ⟨d,2,none⟩=some (.slice (aC g) (R*H) (R*H))) (first|go_keep|exact⟨y0,y1,y2⟩)
  (first
   |(go_at_call 336;refine(MJ _ _ _ _ _ _).mono ?_;rintro e j⟨rfl,rfl⟩)
   |(go_at_call 332;refine(W _ rfl).mono ?_;rintro e w2⟨⟨v,rfl⟩,o,f⟩;have t:=(η.drew.alloc _).grown f (λe=>TP);have y0:=t.c0;have y1:=t.c1;have y2:=t.c2;have h:=ah ((Y.drew.alloc _).grown f (λe=>TP));have T2:Below w w w2:=ly (jP T1.drew _) f jS;have G2:=ah o;have f0:=h.frozen 0;have f1:=h.frozen 1;have f2:=h.frozen 2;have u0:=h.c0;have u1:=h.c1;have u2:=h.c2;have α:d.heap.size≠w.heap.size+1:=jS))
 all_goals
  clear o f t W x0 x1 x2;have γ:=h.lt;go_wp2_with fail;have K:=h.zS (x:=.int .i64 R) (y:=.int .i64 H) (z:=.slice (aC g) (R*H) (R*H));have k0:=K.c0;have k1:=K.c1;have k2:=K.c2;refine jF (v:=.tuple #[.agg #[jJ R,jJ H,.slice (aC g) (R*H) (R*H)],jJ 0]) (by simp[results,Tryz.results329,go_sem,k0,k1,k2]) rfl
   ⟨nw T2 jS _ _ _,.slice (aC g) (R*H) (R*H),by rw[L],?_⟩
  rw[L];refine nh h ?_;have:=jR.held (base:=w.heap.size) G2 jS;rwa[mT,ey]at this
def rL(r c:I)(A:w? jG)(l:E I)(cap:O)(hU:Us l)(w:jC)(b:Sl w w A l):jE Tryz.prog 329 #[bR r c A l cap] w (BK w (mm ⟨r,c,l⟩)):=by
 cases a:kP r c l.length with
 |false=>exact xJ r c A l cap w a
 |true=>
  by_cases d:c=4
  .subst d;exact J7 r A l cap w a
  obtain⟨g,f,e⟩:=tl (lh a).1;obtain⟨R,rfl⟩:∃R:O,r=R:=⟨r.toNat,jS⟩;obtain⟨H,rfl⟩:∃H:O,c=2*(H:I):=⟨(c/2).toNat,jS⟩;exact qx R H A l cap hU w b a jS
section
open Go.RowKit Go.Shelf
attribute [local go_sem] db
def least(l:E I)(ps:E O):I:=ps.foldl (λa p=>min a (nth l p)) cM
def qE(x:Cm)(h:I):I:=if kP x.r x.c x.l.length=t? then least x.l (places x.r.toNat x.c.toNat h)else 0
def Kh(l:E I)(ps:E O)(p:O):least l (ps++[p])=min (least l ps) (nth l p):=by simp[least]
def Uh(hU:Us l)(ps:E O):U (least l ps):=by
 have:∀(ps:E O)(a:I),U a->U (ps.foldl (λa p=>min a (nth l p)) a):=by
  intro ps;induction ps with
  |nil=>exact λa h=>h
  |cons p ps b=>
   intro a c;refine b _ ?_;have:=rI hU p;obtain⟨d,e⟩:=c;show 0<=min a (nth l p)/\min a (nth l p)<=18446744073709551615;omega
 exact this ps _ (by unfold U;omega)
def Kg(hU:Us l){ps b:E O}(h:least l ps=0)(c:ps <+: b):least l b=0:=by
 obtain⟨t,rfl⟩:=c;have:∀(t:E O),t.foldl (λa p=>min a (nth l p)) 0=0:=by
  intro t;induction t with
  |nil=>rfl
  |cons p t d=>
   have:=(rI hU p).1;rw[List.foldl_cons,show min 0 (nth l p)=0 by omega];exact d
 rw[least,fE];rw[least]at h;rw[h];exact this t
def WE(w:jC)(N d b:O)(r c:I)(A:w? jG)(cap:O)(l:E I)(a:E (At N))(W:jC):Prop:=
 jR W b 22 #[jK (least l (a.map (·.1)))]/\jR W d 131 #[jJ r,jJ c,jN A l cap]/\Sl W w A l/\Below w w W
def CtX(w:jC)(N b:O)(l:E I)(c:bk9)(a:E (At N))(W:jC):Prop:=
 c=.exit 0/\jR W b 22 #[jK 0]/\least l (a.map (·.1))=0/\Below w w W
variable{N B:O}
def Ff{t x:O}{cap:O}(n:w.heap.size<=B):bj3 B (WE w N t x r c A cap l):=by
 rintro s W y f⟨v,z,q,g⟩ h m;have a:∀r,f=M r->(aH W r):=λr e=>(m r e).2;have j:Below w w y:=g.grown h g.size (λk e=>a_ n (m k e).1);exact⟨v.kept h a,z.kept h a,q.keep (λb o d=>(j.cell (p:=⟨b,o,Z⟩) d).trans (g.cell (p:=⟨b,o,Z⟩) d).symm),j⟩
def VE{n:O}{c:bk9}(j:w.heap.size<=B):bj3 B (CtX w N n l c):=by
 rintro s W p b⟨o,h,m,d⟩ f g;have a:∀r,b=M r->(aH W r):=λr e=>(g r e).2;exact⟨o,h.kept f a,m,d.grown f d.size (λk e=>a_ j (g k e).1)⟩
def xS(r c:I)(A:w? jG)(l:E I)(cap:O)(h:I)(w:jC)(a:kP r c l.length=u?):jE Tryz.prog 328 #[bR r c A l cap,jK h] w λe b=>e=a? (c? n? (qE ⟨r,c,l⟩ h))/\Below w w b:=by
 have d:Hid (qE ⟨r,c,l⟩ h=0):=by show qE _ _=_;rw[qE,A? (by simp[a])]
 have H:=ah a;clear a;go_in;go_wp2_with fail;go_step3;go_wp2_with fail;refine(j_ r c A l.length cap _).mono ?_;rintro e b⟨rfl,rfl⟩;rw[H];go_wp2;rw[cf];go_ret;exact⟨mL d.symm,jP (jP (jQ _) _) _⟩
def KY(R C:O)(A:w? jG)(l:E I)(cap:O)(h:I)(hh:U h)(hU:Us l)(w:jC)(hS:Sl w w A l)(F:kP R C l.length=t?):bj2 cz 6 Tryz.prog 328 #[g? #[jJ R,jJ C,jN A l cap],jK h] w λe z=>e=a? (.int n? (qE ⟨R,C,l⟩ h))/\Below w w z:=by
 have HR:Hid (qE ⟨R,C,l⟩ h=least l (places R C h)):=by show qE _ _=_;rw[qE,B? F];simp
 have H:=ah F;obtain⟨q1,q2,q3⟩:=tl (lh F).1;have hl:l.length=R*C:=by have:=(lh F).2;rw[<-eG]at this;omega
 have δ:R<=4:=jS;have Mk:1<=C:=jS;have ε:C<=32:=jS;obtain⟨zs,α⟩:=mH (N:=l.length) (places R C h) (by rw[hl];exact CO Mk h);have HZ:=ah α;have Γ:l.length<=128:=by rw[hl];exact a_ (io δ ε) jS
 clear F q1 q2 q3 hl α;refine bi7 Tryz.func328 rfl trivial ?_ rfl;simp only[Tryz.ntmps328,xb,ao,dk];refine bi4.2 ?_;go_wp2_with fail;go_step3;go_wp2_with fail;refine(j_ _ _ A l.length cap _).mono ?_;rintro e z⟨rfl,rfl⟩;rw[H];go_wp2_with fail;try go_step3
 go_wp2_with fail;refine(Fx _ _ _ _ _ _ _).mono ?_;rintro e z⟨rfl,rfl⟩;go_wp2_with fail;have Y:Below w w (gG7 6 w R C A l cap h):=jP (jP (jP (jP (jP (jQ _) _) _) _) _) _;have hX:jR (gG7 6 w R C A l cap h) w 131 #[jJ R,jJ C,jN A l cap]:=((((jR.new w _ _).alloc _).alloc _).alloc _).alloc _;have hL:jR (gG7 6 w R C A l cap h) (aN w) 22 #[jK cM]:=by
  have:=((jR.new ((w.alloc (m? #[jJ R,jJ C,jN A l cap] 131)).alloc (m? #[jJ R,jJ C,jN A l cap] 131)) 22 #[jK cM]).alloc (m? #[jJ R,jJ C,jN A l cap] 216)).alloc (cD h);rwa[b_,b_]at this
 have ν:jR (gG7 6 w R C A l cap h) (cC w) 216 #[jJ R,jJ C,jN A l cap]:=by
  have:=(jR.new (((w.alloc (m? #[jJ R,jJ C,jN A l cap] 131)).alloc (m? #[jJ R,jJ C,jN A l cap] 131)).alloc (m? #[jK cM] 22)) 216 #[jJ R,jJ C,jN A l cap]).alloc (cD h);rwa[b_,b_,b_]at this
 have μ:jR (gG7 6 w R C A l cap h) (w.heap.size+1+1+1+1) 22 #[jK h]:=by
  have:=jR.new ((((w.alloc (m? #[jJ R,jJ C,jN A l cap] 131)).alloc (m? #[jJ R,jJ C,jN A l cap] 131)).alloc (m? #[jK cM] 22)).alloc (m? #[jJ R,jJ C,jN A l cap] 216)) 22 #[jK h];rwa[b_,b_,b_,b_]at this
 have Ω:(((((w.alloc (m? #[jJ R,jJ C,jN A l cap] 131)).alloc (m? #[jJ R,jJ C,jN A l cap] 131)).alloc (m? #[jK cM] 22)).alloc (m? #[jJ R,jJ C,jN A l cap] 216)).alloc (cD h)).heap.size=w.heap.size+5:=lV;generalize((((w.alloc (m? #[jJ R,jJ C,jN A l cap] 131)).alloc (m? #[jJ R,jJ C,jN A l cap] 131)).alloc (m? #[jK cM] 22)).alloc (m? #[jJ R,jJ C,jN A l cap] 216)).alloc (cD h)=V at*;have φ:WE w l.length w (aN w) R C A cap l [] V:=⟨hL,hX,hS.below Y,Y⟩;refine(bi4 (n:=6)).1 ?_;refine bj9 rfl jS (gf:=339) (lb:=#[.pointer (M ⟨cC w,0,Z⟩),.pointer (M (lz 46 w))]) rfl trivial (enters_of Tryz.func339 oo rfl)
  (zM 5 jS (cC w) (w.heap.size+1+1+1+1) V (aN w) R C l.length cap l.length A h hh δ Mk ε zs HZ jS jS jS jS V aa ν μ)
  (λh k=>l_ h k) (qf jS) (Below.refl _ _) (λ_=>rfl)
  (WE w l.length w (aN w) R C A cap l) (CtX w l.length (aN w) l) (Ff jS) (λc=>VE jS) φ
  (λx=>{tmps:=#[g? #[jJ R,jJ C,jN A l cap],jK h,jO w,undef,jK 0,.pointer (M (aG w)),jJ (x.1:I),g? #[jJ R,jJ C,jN A l cap],.bool t?,.bool u?,g? #[jJ R,jJ C,jN A l cap],g? #[jJ R,jJ C,jN A l cap],jK h,.func (.func 339) #[] #[.pointer (M ⟨cC w,0,Z⟩),.pointer (M (lz 46 w))],jJ (x.1:I),undef,undef,undef,undef,undef,undef,undef,undef,undef,undef],defers:=[]}) ?assign ?body ?done ?stop
 case assign=>
  intro l x W K f;gi_wp2;exact f
 case body=>
  rintro l' s⟨p,hp⟩ W⟨g,B,j,hb⟩ ω;obtain⟨a,ha⟩:∃a,least l (s.map (·.1))=a:=⟨_,rfl⟩;have ψ:U a:=by rw[<-ha];exact Uh hU _
  have HA:Hid (least l ((s++[(⟨p,hp⟩:At l.length)]).map (·.1))=min a (nth l p)):=by
   show _=_;rw[dH,<-ha];exact Kh l _ p
  rw[ha]at g;clear ha;obtain⟨bl,J,rfl,Ψ,γ⟩:=j.at_ jS;have L:=γ p hp;have ξ:=rI hU p;obtain⟨v,hv⟩:∃v,nth l p=v:=⟨_,rfl⟩;rw[hv]at L ξ HA;clear γ hv;have HG:=ah g;have HX:=ah B;have κ:=ah j;have cg:=g.one;have fg:=g.frozen 0;have c2:=B.c2;have z1:=B.lt;have z3:=g.lt;have hx1:(0:I)<=p:=jS;have Θ:((p:O):I)<(l.length:I):=jS;have θ:bl≠w.heap.size+1+1:=jS;obtain⟨q,β⟩:∃q,min a v=q:=⟨_,rfl⟩;rw[β]at HA;have χ:(if v<a then v else a)=q:=by rw[<-β];split<;>omega
  clear g B j;gi_wp2_with fail;refine qQ (S:=λz=>z.cell? ⟨w,2,Z⟩=M (.slice (bH bl J) l.length cap)/\z.cell? ⟨bl,J+p,Z⟩=M (.int n? v)) oo oo (by rintro⟨_,_,h⟩;exact h) ⟨c2,L⟩ (λd=>?_);refine re d ?_;refine pL 0 λK f=>?_;go_simp;refine f.out _ _ ⟨c2,L⟩ (λd=>?_);clear f K;refine az ?_;refine pL 6 λK f=>?_;go_simp;refine f.out _ _ ⟨c2,L⟩ (λd=>?_);clear f K;refine az ?_;refine pL 7 λK f=>?_;go_simp;refine f.out _ _ ⟨(HX.far (p:=(aG w)) (by show w.heap.size≠w.heap.size+1+1;omega) _).c2,by show(W.setCell _ _).cell? _=_;rw[eX _ _ _ _ (λe=>θ (by injection e with e1 _;exact e1.symm))];exact L⟩ (λd=>?_);clear f K;refine az ?_;refine hdn ?_;have y:jR (W.setCell (aG w) (.int n? q)).drew (aN w) 22 #[jK q]:=HG.kY 0 _;have Δ:=y.one;have X:Below w w (W.setCell (aG w) (.int n? q)).drew:=(hb.setCell (by show(aU w);omega) _).drew;have t:bj4 W (W.setCell (aG w) (.int n? q)).drew:=(b7 _ _ _).trans (KeepsOthers.drew _);by_cases h0:q=0
  .subst h0;gi_wp2;exact⟨t,rfl,y,HA,X⟩
  have d0:(q==0)=u?:=by simpa using h0
  gi_wp2;refine⟨t,⟨t.size,λi _ ρ=>Below.heap_setCell W (aG w) _ i ρ⟩,?_,HX.far (p:=(aG w)) (by show w.heap.size≠w.heap.size+1+1;omega) _,κ.keep (λb o Ξ=>eX _ _ _ _ (λe=>by injection e with e1 _;omega)),X⟩;rw[HA];exact y
 case done=>
  rintro D ys W hD rfl⟨g,B,j,hb⟩ f;rw[HZ]at g;have HG:=ah g;have cg:=g.one;clear g B j;go_wp2;try rw[cf]
  refine⟨lV,r? ⟨_,_,rfl,bi2 f,?_⟩⟩;exact⟨.int n? (least l (places R C h)),by simp[results,Tryz.results328,go_sem],mL HR.symm,hb.trans (bj6 (w:=w) aa _ D _ _ jS f rfl rfl)⟩
 rintro D c' s W hD G⟨rfl,g,hz,hb⟩ f;have r:=Kg hU hz (G.map (·.1));rw[HZ]at r;have η:=ah r;have cg:=g.one;clear hz r g;refine bi4.2 ?_;go_wp2;try rw[cf]
 refine⟨lV,r? ⟨_,_,rfl,bi2 f,?_⟩⟩;exact⟨.int n? 0,by simp[results,Tryz.results328,go_sem],mL (by rw[HR,η]),hb.trans (bj6 (w:=w) aa _ D _ _ jS f rfl rfl)⟩
def count_any(r c:I)(A:w? jG)(l:E I)(cap:O)(h:I)(f:U h)(hU:Us l)(w:jC)(d:Sl w w A l):jE Tryz.prog 328 #[bR r c A l cap,jK h] w λe b=>e=a? (c? n? (qE ⟨r,c,l⟩ h))/\Below w w b:=by
 cases a:kP r c l.length with
 |false=>exact xS r c A l cap h w a
 |true=>
  obtain⟨R,C,rfl,rfl,_⟩:=rD (lh a).1;exact jI.1 (KY R C A l cap h f hU w d a)
end
end Cm
instance aX9(x0:I)(x1:I):CoeOut (wU 15 x0 x1) jD:=⟨λ_=>(c? n? (IntKind.u64.wrap (x0+x1)))⟩
structure SbW(x0:jC) where
def bW(a:jC):SbW a:=⟨⟩
instance aU7(x0:jC):CoeOut (SbW x0) jG:=⟨λ_=>⟨x0.heap.size+1,2,Z⟩⟩
structure ScY where
def cY:ScY:=⟨⟩
instance aU4:CoeOut ScY (x? jD):=⟨λ_=>#[jK 0,jK 0,jK 0,jK 0]⟩
instance aW6(x0:jC):CoeOut (sH 51 x0) jG:=⟨λ_=>⟨x0.heap.size+1,3,Z⟩⟩
namespace Sp
def new2(w:jC)(o:Obj)(t:jH)(cs:x? jD):jR ((w.alloc o).alloc (m? cs t)) (w.heap.size+1) t cs:=by
 have h:=jR.new (w.alloc o) t cs;have e:(w.alloc o).heap.size=w.heap.size+1:=lV;rwa[e]at h
def xZ(n:I):U (IntKind.u64.wrap n):=by
 unfold U IntKind.wrap;simp[IntKind.bits,IntKind.signed];omega
def py(a:BinOp)(x y:I):U (bits a n? x y):=by
 unfold bits;exact xZ _
def lX(x:I)(n:O):I:=bits .or n? (IntKind.u64.wrap (x*2^n)) (x/2^(64-n))
def Wl(x:I)(n:O):U (lX x n):=py _ _ _
def TF(x:I)(b:U x)(w:jC):jE Tryz.prog 165 #[jK x,jJ 13] w λe a=>e=a? (c? n? (lX x 13))/\a=w:=by
 have c:bits .and n? 13 63=13:=TO;go_in;go_wp2;go_ret;exact⟨rfl,rfl⟩
def TE(x:I)(b:U x)(w:jC):jE Tryz.prog 165 #[jK x,jJ 16] w λe a=>e=a? (c? n? (lX x 16))/\a=w:=by
 have c:bits .and n? 16 63=16:=TO;go_in;go_wp2;go_ret;exact⟨rfl,rfl⟩
def TD(x:I)(b:U x)(w:jC):jE Tryz.prog 165 #[jK x,jJ 17] w λe a=>e=a? (c? n? (lX x 17))/\a=w:=by
 have c:bits .and n? 17 63=17:=TO;go_in;go_wp2;go_ret;exact⟨rfl,rfl⟩
def TC(x:I)(b:U x)(w:jC):jE Tryz.prog 165 #[jK x,jJ 21] w λe a=>e=a? (c? n? (lX x 21))/\a=w:=by
 have c:bits .and n? 21 63=21:=TO;go_in;go_wp2;go_ret;exact⟨rfl,rfl⟩
def LM(x:I)(b:U x)(w:jC):jE Tryz.prog 165 #[jK x,jJ 32] w λe a=>e=a? (c? n? (lX x 32))/\a=w:=by
 have c:bits .and n? 32 63=32:=TO;go_in;go_wp2;go_ret;exact⟨rfl,rfl⟩
def P2(v:I×I×I×I):I×I×I×I:=
 let a:=IntKind.u64.wrap (v.1+v.2.1)
 let b:=bits .xor n? (lX v.2.1 13) a
 let a:=lX a 32
 let c:=IntKind.u64.wrap (v.2.2.1+v.2.2.2)
 let d:=bits .xor n? (lX v.2.2.2 16) c
 let a:=IntKind.u64.wrap (a+d)
 let d:=bits .xor n? (lX d 21) a
 let c:=IntKind.u64.wrap (c+b)
 let b:=bits .xor n? (lX b 17) c
 (a,b,lX c 32,d)
def Nk(a b c d:I)(ha:U a)(hb:U b)(hc:U c)(hd:U d)(w:jC):jE Tryz.prog 122 #[g? #[jK a,jK b,jK c,jK d]] w λe y=>e=a? (g? #[jK (P2 (a,b,c,d)).1,jK (P2 (a,b,c,d)).2.1,jK (P2 (a,b,c,d)).2.2.1,jK (P2 (a,b,c,d)).2.2.2])/\Below w w y:=by
 go_in;have V:=ah ((jR.new w 180 #[jK (IntKind.u64.wrap (a+b)),jK b,jK c,jK d]).alloc (m? cY 180));have Y0:=ah (new2 w (m? #[jK (IntKind.u64.wrap (a+b)),jK b,jK c,jK d] 180) 180 cY);have B0:=ah (jP (jP (jQ w) (m? #[jK (IntKind.u64.wrap (a+b)),jK b,jK c,jK d] 180)) (m? cY 180));go_wp2_with fail;generalize(w.alloc (m? #[jK (IntKind.u64.wrap (a+b)),jK b,jK c,jK d] 180)).alloc (m? cY 180)=W0 at*;obtain⟨B,β⟩:∃q,IntKind.u64.wrap (a+b)=q:=⟨_,rfl⟩;have δ:U B:=β▸xZ _;rw[β]at V⊢;have r:=ce V 0;have x:=ce V 1;have n:=ce V 2;have t:=ce V 3;have F:∀i,W0.frozen? ⟨w,i,Z⟩=u?:=λi=>V.frozen i;have D:=V.lt;refine kG (S:=λy=>y.cell? ⟨w,1,Z⟩=M (c? n? b)/\y.cell? ⟨w,0,Z⟩=M (c? n? B)) (s:=7) oo ?_;refine sU ⟨x,r⟩ ?_;refine oY 2 λK m=>?_;go_simp;refine(TF b hb _).mono ?_;rintro e y⟨rfl,f⟩;rw[f];clear f;refine m.out _ _ (λ_=>⟨x,r⟩) ?_;clear m K;refine az ?_;refine sU ⟨x,r⟩ ?_;refine oY 7 λK m=>?_;go_simp;refine m.out _ _ (λh=>qch) ?_;clear m K;refine az ?_;refine yi ?_;clear r x n t F D;have H:=ah (V.kY 1 (c? n? (bits .xor n? (lX b 13) B)));have Y1:=ah (Y0.far (p:=⟨w,1,Z⟩) (by show(dL w);omega) (c? n? (bits .xor n? (lX b 13) B)));have B1:=ah (below_drewN (B0.setCell (p:=⟨w,1,Z⟩) aa (c? n? (bits .xor n? (lX b 13) B))) 1);simp only[bd,ak,am]at H;replace H:Hid (jR ((W0.setCell ⟨w,1,Z⟩ (c? n? (bits .xor n? (lX b 13) B))).drew) _ _ _):=H;replace Y1:Hid (jR ((W0.setCell ⟨w,1,Z⟩ (c? n? (bits .xor n? (lX b 13) B))).drew) _ _ _):=Y1;replace B1:Hid (Below w w ((W0.setCell ⟨w,1,Z⟩ (c? n? (bits .xor n? (lX b 13) B))).drew)):=B1;generalize(W0.setCell ⟨w,1,Z⟩ (c? n? (bits .xor n? (lX b 13) B))).drew=W1 at*;obtain⟨z,Y⟩:∃q,(bits .xor n? (lX b 13) B)=q:=⟨_,rfl⟩;have ε:U z:=Y▸py _ _ _;rw[Y]at H⊢;clear V Y0 B0;have r:=ce H 0;have x:=ce H 1;have n:=ce H 2;have t:=ce H 3;have F:∀i,W1.frozen? ⟨w,i,Z⟩=u?:=λi=>H.frozen i;have D:=H.lt;go_wp2_with fail;refine(LM _ δ _).mono ?_;rintro e y⟨rfl,f⟩;rw[f];clear f;go_wp2_with fail;clear r x n t F D;have L:=ah ((H.kY 0 (c? n? (lX B 32))).kY 2 (lI 15 c d));have Y2:=ah ((Y1.far (p:=⟨w,0,Z⟩) (by show(dL w);omega) (c? n? (lX B 32))).far (p:=⟨w,2,Z⟩) (by show(dL w);omega) (lI 15 c d));have B2:=ah ((B1.setCell (p:=⟨w,0,Z⟩) aa (c? n? (lX B 32))).setCell (p:=⟨w,2,Z⟩) aa (lI 15 c d));simp only[bd,ak,am]at L;generalize((W1.setCell ⟨w,0,Z⟩ (c? n? (lX B 32))).setCell ⟨w,2,Z⟩ (lI 15 c d))=W2 at*;obtain⟨YX,Xt⟩:∃q,(lX B 32)=q:=⟨_,rfl⟩;have κ:U YX:=Xt▸Wl _ _;rw[Xt]at L⊢;obtain⟨C,Xs⟩:∃q,(IntKind.u64.wrap (c+d))=q:=⟨_,rfl⟩;have ρ:U C:=Xs▸xZ _;rw[Xs]at L⊢;clear H Y1 B1;have r:=ce L 0;have x:=ce L 1;have n:=ce L 2;have t:=ce L 3;have F:∀i,W2.frozen? ⟨w,i,Z⟩=u?:=λi=>L.frozen i;have D:=L.lt;refine kG (S:=λy=>y.cell? ⟨w,3,Z⟩=M (c? n? d)/\y.cell? ⟨w,2,Z⟩=M (c? n? C)) (s:=7) oo ?_;refine sU ⟨t,n⟩ ?_;refine oY 2 λK m=>?_;go_simp;refine(TE d hd _).mono ?_;rintro e y⟨rfl,f⟩;rw[f];clear f;refine m.out _ _ (λ_=>⟨t,n⟩) ?_;clear m K;refine az ?_;refine sU ⟨t,n⟩ ?_;refine oY 7 λK m=>?_;go_simp;refine m.out _ _ (λh=>qch) ?_;clear m K;refine az ?_;refine yi ?_;clear r x n t F D;have G:=ah (L.kY 3 (c? n? (bits .xor n? (lX d 16) C)));have Y3:=ah (Y2.far (p:=⟨w,3,Z⟩) (by show(dL w);omega) (c? n? (bits .xor n? (lX d 16) C)));have B3:=ah (below_drewN (B2.setCell (p:=⟨w,3,Z⟩) aa (c? n? (bits .xor n? (lX d 16) C))) 1);simp only[bd,ak,am]at G;replace G:Hid (jR ((W2.setCell ⟨w,3,Z⟩ (c? n? (bits .xor n? (lX d 16) C))).drew) _ _ _):=G;replace Y3:Hid (jR ((W2.setCell ⟨w,3,Z⟩ (c? n? (bits .xor n? (lX d 16) C))).drew) _ _ _):=Y3;replace B3:Hid (Below w w ((W2.setCell ⟨w,3,Z⟩ (c? n? (bits .xor n? (lX d 16) C))).drew)):=B3;generalize(W2.setCell ⟨w,3,Z⟩ (c? n? (bits .xor n? (lX d 16) C))).drew=W3 at*;obtain⟨A,X⟩:∃q,(bits .xor n? (lX d 16) C)=q:=⟨_,rfl⟩;have η:U A:=X▸py _ _ _;rw[X]at G⊢;clear L Y2 B2;have r:=ce G 0;have x:=ce G 1;have n:=ce G 2;have t:=ce G 3;have F:∀i,W3.frozen? ⟨w,i,Z⟩=u?:=λi=>G.frozen i;have D:=G.lt;go_wp2_with fail;clear r x n t F D;have R:=ah (G.kY 0 (lI 15 YX A));have Y4:=ah (Y3.far (p:=⟨w,0,Z⟩) (by show(dL w);omega) (lI 15 YX A));have B4:=ah (B3.setCell (p:=⟨w,0,Z⟩) aa (lI 15 YX A));simp only[bd,ak,am]at R;generalize(W3.setCell ⟨w,0,Z⟩ (lI 15 YX A))=W4 at*;obtain⟨k,Xr⟩:∃q,(IntKind.u64.wrap (YX+A))=q:=⟨_,rfl⟩;have μ:U k:=Xr▸xZ _;rw[Xr]at R⊢;clear G Y3 B3;have r:=ce R 0;have x:=ce R 1;have n:=ce R 2;have t:=ce R 3;have F:∀i,W4.frozen? ⟨w,i,Z⟩=u?:=λi=>R.frozen i;have D:=R.lt;refine kG (S:=λy=>y.cell? ⟨w,3,Z⟩=M (c? n? A)/\y.cell? ⟨w,0,Z⟩=M (c? n? k)) (s:=7) oo ?_;refine sU ⟨t,r⟩ ?_;refine oY 2 λK m=>?_;go_simp;refine(TC A η _).mono ?_;rintro e y⟨rfl,f⟩;rw[f];clear f;refine m.out _ _ (λ_=>⟨t,r⟩) ?_;clear m K;refine az ?_;refine sU ⟨t,r⟩ ?_;refine oY 7 λK m=>?_;go_simp;refine m.out _ _ (λh=>qch) ?_;clear m K;refine az ?_;refine yi ?_;clear r x n t F D;have J:=ah (R.kY 3 (c? n? (bits .xor n? (lX A 21) k)));have Y5:=ah (Y4.far (p:=⟨w,3,Z⟩) (by show(dL w);omega) (c? n? (bits .xor n? (lX A 21) k)));have B5:=ah (below_drewN (B4.setCell (p:=⟨w,3,Z⟩) aa (c? n? (bits .xor n? (lX A 21) k))) 1);simp only[bd,ak,am]at J;replace J:Hid (jR ((W4.setCell ⟨w,3,Z⟩ (c? n? (bits .xor n? (lX A 21) k))).drew) _ _ _):=J;replace Y5:Hid (jR ((W4.setCell ⟨w,3,Z⟩ (c? n? (bits .xor n? (lX A 21) k))).drew) _ _ _):=Y5;replace B5:Hid (Below w w ((W4.setCell ⟨w,3,Z⟩ (c? n? (bits .xor n? (lX A 21) k))).drew)):=B5;generalize(W4.setCell ⟨w,3,Z⟩ (c? n? (bits .xor n? (lX A 21) k))).drew=W5 at*;obtain⟨v5,γ⟩:∃q,(bits .xor n? (lX A 21) k)=q:=⟨_,rfl⟩;have ν:U v5:=γ▸py _ _ _;rw[γ]at J⊢;clear R Y4 B4;have r:=ce J 0;have x:=ce J 1;have n:=ce J 2;have t:=ce J 3;have F:∀i,W5.frozen? ⟨w,i,Z⟩=u?:=λi=>J.frozen i;have D:=J.lt;go_wp2_with fail;clear r x n t F D;have N:=ah (J.kY 2 (lI 15 C z));have Y6:=ah (Y5.far (p:=⟨w,2,Z⟩) (by show(dL w);omega) (lI 15 C z));have B6:=ah (B5.setCell (p:=⟨w,2,Z⟩) aa (lI 15 C z));simp only[bd,ak,am]at N;generalize(W5.setCell ⟨w,2,Z⟩ (lI 15 C z))=W6 at*;obtain⟨j,Xq⟩:∃q,(IntKind.u64.wrap (C+z))=q:=⟨_,rfl⟩;have θ:U j:=Xq▸xZ _;rw[Xq]at N⊢;clear J Y5 B5;have r:=ce N 0;have x:=ce N 1;have n:=ce N 2
 have t:=ce N 3;have F:∀i,W6.frozen? ⟨w,i,Z⟩=u?:=λi=>N.frozen i;have D:=N.lt;refine kG (S:=λy=>y.cell? ⟨w,1,Z⟩=M (c? n? z)/\y.cell? ⟨w,2,Z⟩=M (c? n? j)) (s:=7) oo ?_;refine sU ⟨x,n⟩ ?_;refine oY 2 λK m=>?_;go_simp;refine(TD z ε _).mono ?_;rintro e y⟨rfl,f⟩;rw[f];clear f;refine m.out _ _ (λ_=>⟨x,n⟩) ?_;clear m K;refine az ?_;refine sU ⟨x,n⟩ ?_;refine oY 7 λK m=>?_;go_simp;refine m.out _ _ (λh=>qch) ?_;clear m K;refine az ?_;refine yi ?_;clear r x n t F D;have T:=ah (N.kY 1 (c? n? (bits .xor n? (lX z 17) j)));have W:=ah (Y6.far (p:=⟨w,1,Z⟩) (by show(dL w);omega) (c? n? (bits .xor n? (lX z 17) j)));have B7:=ah (below_drewN (B6.setCell (p:=⟨w,1,Z⟩) aa (c? n? (bits .xor n? (lX z 17) j))) 1);simp only[bd,ak,am]at T;replace T:Hid (jR ((W6.setCell ⟨w,1,Z⟩ (c? n? (bits .xor n? (lX z 17) j))).drew) _ _ _):=T;replace W:Hid (jR ((W6.setCell ⟨w,1,Z⟩ (c? n? (bits .xor n? (lX z 17) j))).drew) _ _ _):=W;replace B7:Hid (Below w w ((W6.setCell ⟨w,1,Z⟩ (c? n? (bits .xor n? (lX z 17) j))).drew)):=B7;generalize(W6.setCell ⟨w,1,Z⟩ (c? n? (bits .xor n? (lX z 17) j))).drew=W7 at*;obtain⟨v7,α⟩:∃q,(bits .xor n? (lX z 17) j)=q:=⟨_,rfl⟩;have ξ:U v7:=α▸py _ _ _;rw[α]at T⊢;clear N Y6 B6;have r:=ce T 0;have x:=ce T 1;have n:=ce T 2;have t:=ce T 3;have F:∀i,W7.frozen? ⟨w,i,Z⟩=u?:=λi=>T.frozen i;have D:=T.lt;have y0:=ce W 0;have y1:=ce W 1;have y2:=ce W 2;have y3:=ce W 3;have fy:∀i,W7.frozen? ⟨w.heap.size+1,i,Z⟩=u?:=λi=>W.frozen i;have zy:=W.lt;go_wp2_with fail;refine(LM _ θ _).mono ?_;rintro e y⟨rfl,f⟩;rw[f];clear f;go_wp2_with fail;have YF:=(((((W.far (p:=⟨w,2,Z⟩) (by show(dL w);omega) (c? n? (lX j 32))).kY 0 (c? n? k)).kY 1 (c? n? v7)).kY 2 (c? n? (lX j 32))).kY 3 (c? n? v5));have BF:=(((((B7.setCell (p:=⟨w,2,Z⟩) aa (c? n? (lX j 32))).setCell (p:=(aE w)) (dU _) (c? n? k)).setCell (p:=(bS w)) (dU _) (c? n? v7)).setCell (p:=(bW w)) (dU _) (c? n? (lX j 32))).setCell (p:=(lz 51 w)) (dU _) (c? n? v5));simp only[bd,ak,am]at YF;refine jF (bl2 rfl _ _ (w.heap.size+1) _ _ _ _ rfl YF Tryz.underlying180 rfl oo) rfl ⟨?_,BF⟩;have e:P2 (a,b,c,d)=(k,v7,(lX j 32),v5):=by
  unfold P2;simp only[β,Y,Xt,Xs,X,Xr,γ,Xq,α]
 rw[e]
end Sp
namespace Sp
abbrev Q4:=I×I×I×I
def U4(v:Q4):Prop:=U v.1/\U v.2.1/\U v.2.2.1/\U v.2.2.2
def VU(v:Q4):U4 (P2 v):=by
 unfold P2 U4;refine⟨?_,?_,?_,?_⟩
 all_goals dsimp only
 .exact xZ _
 .exact py _ _ _
 .exact Wl _ _
 exact py _ _ _
abbrev q4(v:Q4):x? jD:=#[jK v.1,jK v.2.1,jK v.2.2.1,jK v.2.2.2]
def vq:O->Q4->Q4
 |0,v=>v
 |n+1,v=>P2 (vq n v)
def PZ{v:Q4}(h:U4 v):∀n,U4 (vq n v)
 |0=>h
 |n+1=>VU _
def zX(g:O)(T:jH)(v:Q4)(K:U4 v)(n:O)(hn:n<=8)(w:jC)(C:jR w g T (q4 v)):jE Tryz.prog 88 #[jO g,jJ (n:I)] w λe y=>e=a? (d? #[])/\jR y g T (q4 (vq n v))/\(bY w y g):=by
 have HX:=ah C;have X:=ah K;clear C K;go_in;go_wp2_with fail;go_loopw[5] (λi wr=>∃k:O,i=(aJ k)/\k<=n/\Hid (jR wr g T (q4 (vq k v)))/\Hid (bY w wr g)) (λi _=>n-(av i).toNat)
 case atStart=>exact⟨0,rfl,be _,HX,World.grownBy.refl _ _⟩
 obtain⟨k,rfl,hk,f,s⟩:=hrel;by_cases h1:k<n
 .have d1:decide ((k:I)<n)=t?:=ae;have R:=PZ X k;have HE:Hid (vq (k+1) v=P2 (vq k v)):=rfl;generalize vq k v=r at*;obtain⟨a,b,c,d⟩:=r;obtain⟨W,ub,uc,Y⟩:=R;have A:=f.cell 0;have G:=f.cell 1;have z:=f.cell 2;have D:=f.cell 3;simp only[q4,bh,bm,bo]at A G z D;have zx:=f.lt;have N:∀i,wr.frozen? ⟨g,i,Z⟩=u?:=λi=>f.frozen i;go_wp2_with fail;refine(Nk a b c d W ub uc Y _).mono ?_;rintro e J⟨rfl,j⟩;have h:=f.later j;have x:=ah (jW s (kH j _));rw[<-HE];generalize B:vq (k+1) v=r at*;have HR:=ah B;clear B;obtain⟨F,H,c1,l⟩:=r;have y0:=h.cell 0;have Q:=h.cell 1;have L:=h.cell 2;have y3:=h.cell 3;simp only[q4,bh,bm,bo]at y0 Q L y3;have zy:=h.lt;have fy:∀i,J.frozen? ⟨g,i,Z⟩=u?:=λi=>h.frozen i;have o:=(((h.kY 0 (c? n? F)).kY 1 (c? n? H)).kY 2 (c? n? c1)).kY 3 (c? n? l);simp only[q4,bd,ak,am]at o;have Vj:=ah o;have q:Hid (w.grownBy ((((J.setCell ⟨g,0,Z⟩ (c? n? F)).setCell ⟨g,1,Z⟩ (c? n? H)).setCell ⟨g,2,Z⟩ (c? n? c1)).setCell ⟨g,3,Z⟩ (c? n? l)) (M g)):=
   jW (jW (jW (jW x (k6 _ _ _ _)) (k6 _ _ _ _)) (k6 _ _ _ _)) (k6 _ _ _ _)
  clear h o j x f s A G z D zx N;go_wp2;go_roundw
  case rel=>exact⟨k+1,CJ,jS,by rw[HR];exact Vj,q⟩
  exact No
 have t:k=n:=jS;subst t;have d1:decide ((k:I)<k)=u?:=lV;go_wp2;exact bl6 (v:=d? #[]) (by simp[results,Tryz.results88,go_sem]) rfl ⟨rfl,f,s⟩
def Cb(l:E I):I:=l.foldl (λs n=>bits .xor n? s n) 0
def Xg(l:E I):U (Cb l):=by
 unfold Cb;have:∀(l:E I)(s:I),U s->U (l.foldl (λs n=>bits .xor n? s n) s):=by
  intro l;induction l with
  |nil=>intro s h;exact h
  |cons n l a=>intro s _;exact a _ (py _ _ _)
 exact this l 0 ⟨B8,B8⟩
variable{l:E I}{k:O}
def Ny(h:k<l.length):Cb (l.take (k+1))=bits .xor n? (Cb (l.take k)) (nth l k):=by
 unfold Cb;rw[aj h,fE];simp[nth,h]
def Nw(A:w? jG)(l:E I)(cap:O)(v:l.length<=100)(w:jC)(d:Sl w w A l):jE Tryz.prog 89 #[jN A l cap] w λe j=>e=a? (c? n? (Cb l))/\j=w:=by
 have h:=ah d;clear d;go_in;go_wp2_with fail;go_loopw[3,8] (λs i wr=>∃k:O,s=c? n? (Cb (l.take k))/\i=(aJ k)/\k<=l.length/\wr=w) (λ_ i _=>l.length-(av i).toNat)
 case atStart=>exact⟨0,rfl,rfl,be _,rfl⟩
 obtain⟨k,rfl,rfl,y,rfl⟩:=hrel;by_cases f:k<l.length
 .have d1:decide ((k:I)<l.length)=t?:=ae;obtain⟨b,n,rfl,t,g⟩:=h.at_ jS;have z:=g k f;have q:(0:I)<=k:=jS;have o:(k:I)<l.length:=jS;have m:=ah (Ny f);clear g;generalize nth l k=x at*;generalize Cb (l.take k)=s at*;go_wp2;go_roundw
  case rel=>exact⟨k+1,by rw[m],CJ,jS,trivial⟩
  exact No
 have c:k=l.length:=jS;subst c;have d1:decide ((l.length:I)<l.length)=u?:=lV;rw[dP];go_wp2;go_ret;exact⟨rfl,rfl⟩
def Al(s:v?):O->I
 |0=>0
 |k+1=>if h:k<s.size then bits .or n? (Al s k) (IntKind.u64.wrap (IntKind.u64.wrap ((s[k].toNat:O):I)*2^min (8*k) 64))else 0
def Aj(s:v?)(hs:s.size<=1000)(w:jC):jE Tryz.prog 121 #[jL s] w λe c=>e=a? (c? n? (Al s s.size))/\c=w:=by
 go_in;go_wp2_with fail;go_loopw[3,7] (λn i wr=>∃k:O,n=c? n? (Al s k)/\i=(aJ k)/\k<=s.size/\wr=w) (λ_ i _=>s.size-(av i).toNat)
 case atStart=>exact⟨0,rfl,rfl,be _,rfl⟩
 obtain⟨k,rfl,rfl,m,rfl⟩:=hrel;by_cases g:k<s.size
 .have d1:decide ((k:I)<s.size)=t?:=ae;have f:(0:I)<=k:=jS;have d:(k:I)<s.size:=jS;have l:(0:I)<=8*(k:I):=jS;have j:Hid (Al s (k+1)=bits .or n? (Al s k) (IntKind.u64.wrap (IntKind.u64.wrap ((s[k].toNat:O):I)*2^min (8*k) 64))):=by show _=_;rw[Al,dif_pos g]
  go_wp2;go_roundw
  case rel=>exact⟨k+1,by rw[j],CJ,jS,trivial⟩
  exact No
 have b:k=s.size:=jS;subst b;have d1:decide ((s.size:I)<s.size)=u?:=lV;go_wp2;go_ret;exact⟨rfl,rfl⟩
end Sp
structure SaR(x0:I)(x1:I) where
def aR(b:I)(a:I):SaR b a:=⟨⟩
instance aV6(x0:I)(x1:I):CoeOut (SaR x0 x1) Obj:=⟨λ_=>(m? #[c? n? x0,c? n? x1] 24)⟩
structure SaW(x0:I)(x1:I) where
def aW(b:I)(a:I):SaW b a:=⟨⟩
instance aV3(x0:I)(x1:I):CoeOut (SaW x0 x1) Obj:=⟨λ_=>(m? #[jK x0,jK x1] 24)⟩
structure ScI(x0:I)(x1:I) where
def cI(b:I)(a:I):ScI b a:=⟨⟩
instance aU6(x0:I)(x1:I):CoeOut (ScI x0 x1) jD:=⟨λ_=>g? #[jK x0,jK x1]⟩
instance aX6:CoeOut (Cp 28) Obj:=⟨λ_=>(m? #[c? n? 0,c? n? 0,c? n? 0,c? n? 0] 183)⟩
instance aW3(x0:I)(x1:I):CoeOut (wU 56 x0 x1) jD:=⟨λ_=>(c? n? (bits .xor n? x0 x1))⟩
namespace Sp
def oE(a b:I):Q4:=(bits .xor n? a 8317987319222330741,bits .xor n? b 7237128888997146477,bits .xor n? a 7816392313619706465,bits .xor n? b 8387220255154660723)
def ax9(a b:I):O->Q4
 |0=>(0,0,0,0)
 |1=>((oE a b).1,0,0,0)
 |2=>((oE a b).1,(oE a b).2.1,0,0)
 |3=>((oE a b).1,(oE a b).2.1,(oE a b).2.2.1,0)
 |_=>oE a b
def Ya(a b:I):U4 (oE a b):=by
 unfold oE U4;refine⟨?_,?_,?_,?_⟩
 all_goals(dsimp only;exact py _ _ _)
abbrev firsts:x? jD:=#[jK 8317987319222330741,jK 7237128888997146477,jK 7816392313619706465,jK 8387220255154660723]
def ZD(w:jC)(a b:I)(g k:O)(wr:jC):Prop:=
 jR wr (w.heap.size+1) 183 cY/\jR wr (aN w) 183 (q4 (ax9 a b k))/\jR wr (cC w) 243 #[jK a,jK b]/\jR wr g 22 firsts/\Below w w wr
def nI(a b:I)(g:O)(w:jC)(y:jR w g 22 firsts):jE Tryz.prog 85 #[cI a b,b? (aC g) 4 4] w λe T=>e=a? (g? (q4 (oE a b)))/\Below w w T:=by
 have HG:=y.lt;have j:Hid (ZD w a b g 0 ((((w.alloc (aW a b)).alloc (m? cY 183)).alloc (m? cY 183)).alloc (m? #[jK a,jK b] 243))):=by
  refine⟨((new2 _ _ _ _).alloc _).alloc _,?_,?_,((((y.alloc _).alloc _).alloc _).alloc _),jP (jP (jP (jP (jQ w) _) _) _) _⟩
  .have h:=new2 (w.alloc (aW a b)) (m? cY 183) 183 cY;have e:(w.alloc (aR a b)).heap.size=w.heap.size+1:=lV;rw[e]at h;exact h.alloc _
  have h:=jR.new (((w.alloc (aR a b)).alloc (rO 28)).alloc (rO 28)) 243 #[jK a,jK b];have e:(((w.alloc (aR a b)).alloc (rO 28)).alloc (rO 28)).heap.size=w.heap.size+1+1+1:=lV;rw[e]at h;exact h
 clear y;go_in;go_wp2_with fail;go_loopw[16] (λi wr=>∃k:O,i=(aJ k)/\k<=4/\Hid (ZD w a b g k wr)) (λi _=>4-(av i).toNat)
 case atStart=>exact⟨0,rfl,be _,j⟩
 clear j;obtain⟨k,rfl,V,j⟩:=hrel;obtain⟨c1,c2,d,c,f⟩:=j.out;have z2:=c2.lt;have z3:=d.lt;have zg:=c.lt;have fz:∀i,wr.frozen? ⟨w.heap.size+1+1,i,Z⟩=u?:=λi=>c2.frozen i;have B:=c2.cell 0;have s:=c2.cell 1;have t:=c2.cell 2;have A:=c2.cell 3;have N:=d.cell 0;have H:=d.cell 1;have D:=c.cell 0;have L:=c.cell 1;have K:=c.cell 2;have C:=c.cell 3;simp only[q4,firsts,bh,bm,bo]at B s t A N H D L K C;have l:g≠w.heap.size+1+1:=by omega
 match k,V with
 |0,_=>
  have o:Hid (ZD w a b g 1 (wr.setCell (aG w) (c? n? (bits .xor n? a 8317987319222330741)))):=
   ⟨c1.far (by show w.heap.size+1≠w.heap.size+1+1;omega) _,c2.kY 0 (c? n? (bits .xor n? a 8317987319222330741)),d.far (by show w.heap.size+1+1+1≠w.heap.size+1+1;omega) _,c.far l _,f.setCell (by show(aU w);omega) _⟩
  clear c1 c2 d c f j;go_wp2_with fail;go_roundw
  case rel=>exact⟨1,rfl,by omega,o⟩
  simp[av]
 |1,_=>
  have o:Hid (ZD w a b g 2 (wr.setCell (bZ w) (c? n? (bits .xor n? b 7237128888997146477)))):=
   ⟨c1.far (by show w.heap.size+1≠w.heap.size+1+1;omega) _,c2.kY 1 (c? n? (bits .xor n? b 7237128888997146477)),d.far (by show w.heap.size+1+1+1≠w.heap.size+1+1;omega) _,c.far l _,f.setCell (by show(aU w);omega) _⟩
  clear c1 c2 d c f j;go_wp2_with fail;go_roundw
  case rel=>exact⟨2,rfl,by omega,o⟩
  simp[av]
 |2,_=>
  have o:Hid (ZD w a b g 3 (wr.setCell ⟨w.heap.size+1+1,2,Z⟩ (c? n? (bits .xor n? a 7816392313619706465)))):=
   ⟨c1.far (by show w.heap.size+1≠w.heap.size+1+1;omega) _,c2.kY 2 (c? n? (bits .xor n? a 7816392313619706465)),d.far (by show w.heap.size+1+1+1≠w.heap.size+1+1;omega) _,c.far l _,f.setCell (by show(aU w);omega) _⟩
  clear c1 c2 d c f j;go_wp2_with fail;go_roundw
  case rel=>exact⟨3,rfl,by omega,o⟩
  simp[av]
 |3,_=>
  have o:Hid (ZD w a b g 4 (wr.setCell ⟨w.heap.size+1+1,3,Z⟩ (c? n? (bits .xor n? b 8387220255154660723)))):=
   ⟨c1.far (by show w.heap.size+1≠w.heap.size+1+1;omega) _,c2.kY 3 (c? n? (bits .xor n? b 8387220255154660723)),d.far (by show w.heap.size+1+1+1≠w.heap.size+1+1;omega) _,c.far l _,f.setCell (by show(aU w);omega) _⟩
  clear c1 c2 d c f j;go_wp2;go_roundw
  case rel=>exact⟨4,rfl,by omega,o⟩
  simp[av]
 |4,_=>
  replace c2:jR wr (aN w) 183 (q4 (oE a b)):=c2;replace B:wr.cell? (aG w)=M (c? n? (oE a b).1):=B;replace s:wr.cell? (bZ w)=M (c? n? (oE a b).2.1):=s;replace t:wr.cell? ⟨w.heap.size+1+1,2,Z⟩=M (c? n? (oE a b).2.2.1):=t;replace A:wr.cell? ⟨w.heap.size+1+1,3,Z⟩=M (c? n? (oE a b).2.2.2):=A;generalize R:oE a b=q at*;have W:=ah R;clear R;obtain⟨Q,G,J,F⟩:=q;have y0:=ce c1 0;have y1:=ce c1 1;have Y:=ce c1 2;have y3:=ce c1 3;have zy:=c1.lt;have fy:∀i,wr.frozen? ⟨w.heap.size+1,i,Z⟩=u?:=λi=>c1.frozen i;have z:=(((c1.kY 0 (c? n? Q)).kY 1 (c? n? G)).kY 2 (c? n? J)).kY 3 (c? n? F);simp only[bd,ak,am]at z;have X:=ah ((((f.setCell (p:=(aE w)) (dU _) (c? n? Q)).setCell (p:=(bS w)) (dU _) (c? n? G)).setCell (p:=(bW w)) (dU _) (c? n? J)).setCell (p:=(lz 51 w)) (dU _) (c? n? F));have x:=ai z;clear z c1 c2 d c f j N H D L K C;go_wp2;exact jF (bl2 rfl _ _ (w.heap.size+1) _ _ _ _ rfl x Tryz.underlying183 rfl oo) rfl ⟨by rw[W],X⟩
 |n+5,h=>exact H? h jS
variable{w:jC}
def Dk{a:jC}{row:w? O}(h:a.grownBy w row):a.grownBy w.drew row:=⟨h.os,h.tape,h.output,h.size,h.block⟩
def nQ(v:Q4)(m:I)(k:O):Q4:=if k=3 then(v.1,v.2.1,v.2.2.1,bits .xor n? v.2.2.2 m)else(bits .xor n? v.1 m,v.2.1,v.2.2.1,v.2.2.2)
def uO(v:Q4)(m:I):Q4:=nQ (vq 2 (nQ v m 3)) m 0
def Ts(v:Q4)(m:I):U4 (uO v m):=by
 have h:=PZ (v:=nQ v m 3);unfold uO;have e:vq 2 (nQ v m 3)=P2 (vq 1 (nQ v m 3)):=rfl;rw[e];have a:=VU (vq 1 (nQ v m 3));unfold nQ;rw[A? B8];refine⟨?_,a.2.1,a.2.2.1,a.2.2.2⟩;dsimp only;exact py _ _ _
def Yf{v:Q4}(h:U4 v)(m:I):U4 (nQ v m 3):=by
 unfold nQ;rw[B? rfl];refine⟨h.1,h.2.1,h.2.2.1,?_⟩;dsimp only;exact py _ _ _
def take_any(g:O)(v:Q4)(T:U4 v)(m:I)(w:jC)(N:jR w g 183 (q4 v)):jE Tryz.prog 87 #[jO g,jK m] w λe k=>e=a? (d? #[])/\jR k g 183 (q4 (uO v m))/\(bY w k g):=by
 have j:=ah N;have U3:=ah (Yf T m);clear N T;obtain⟨a,b,c,d⟩:=v;go_in;have n:=j.cell 0;have A:=j.cell 1;have x:=j.cell 2;have q:=j.cell 3;simp only[q4,bh,bm,bo]at n A x q;have C:∀i,w.frozen? ⟨g,i,Z⟩=u?:=λi=>j.frozen i;have H:=j.lt;go_wp2;refine kG (S:=λk=>k.cell? ⟨g,3,Z⟩=M (c? n? d)) (s:=10) oo ?_;refine sU q ?_;refine oY 10 λK t=>?_;go_simp;refine t.out _ _ (λh=>qch) ?_;clear t K;refine az ?_;refine yi ?_;clear n A x q C H;have y:=ah (j.kY 3 (lI 56 d m));simp only[q4,bd,ak,am]at y;have V:Hid (w.grownBy (w.setCell ⟨g,3,Z⟩ (lI 56 d m)).drew (M g)):=Dk (k6 w g 3 (lI 56 d m));replace y:Hid (jR (w.setCell ⟨g,3,Z⟩ (lI 56 d m)).drew g 183 (q4 (nQ (a,b,c,d) m 3))):=y;generalize(w.setCell ⟨g,3,Z⟩ (lI 56 d m)).drew=X at*;clear j;have R:=ah (zX g 183 _ U3 2 B8 X y);clear y;go_wp2_with fail;refine R.mono ?_;rintro e J⟨rfl,z,B⟩;have G:=ah (jW V B);have f:=ah z;obtain⟨r,D⟩:∃r,vq 2 (nQ (a,b,c,d) m 3)=r:=⟨_,rfl⟩;have W:Hid (uO (a,b,c,d) m=nQ r m 0):=by show _=_;unfold uO;rw[D]
 rw[D]at f;clear R z B D U3;obtain⟨F,b2,c2,d2⟩:=r;go_wp2_with fail;have n:=f.cell 0;have A:=f.cell 1;have x:=f.cell 2;have q:=f.cell 3;simp only[q4,bh,bm,bo]at n A x q;have C:∀i,J.frozen? ⟨g,i,Z⟩=u?:=λi=>f.frozen i;have H:=f.lt;refine kG (S:=λk=>(bI k g F)) (s:=10) oo ?_;refine sU n ?_;refine oY 10 λK t=>?_;go_simp;refine t.out _ _ (λh=>qch) ?_;clear t K;refine az ?_;refine yi ?_;clear n A x q C H;have L:=ah (f.kY 0 (lI 56 F m));simp only[q4,bd,ak,am]at L;have Y:Hid (w.grownBy (J.setCell ⟨g,0,Z⟩ (lI 56 F m)).drew (M g)):=jW G (Dk (k6 J g 0 _));go_wp2;exact bl6 (v:=d? #[]) (by simp[results,Tryz.results87,go_sem]) rfl ⟨rfl,by rw[W];exact L,Y⟩
end Sp
namespace Sp
attribute [local go_sem] db
abbrev Ch:=I×z?
def L_(s:v?)(k:O):Ch:=(bits .or n? (Al (s.extract k s.size) (s.size-k)) (IntKind.u64.wrap (IntKind.u64.wrap (s.size:I)*2^56)),t?)
def Xh(s:v?)(k:O):Ch:=(Al (s.extract k (k+8)) 8,u?)
variable{k:O}
def drop_cons{α:Type}{b:E α}{a:α}{r:E α}(h:b.drop k=a::r):k<b.length/\b.take (k+1)=b.take k++[a]/\b.drop (k+1)=r:=by
 have d:k<b.length:=by
  rcases fB k b.length with c|c
  .exact c
  rw[ei c]at h;cases h
 rw[dN d]at h;injection h with c e;exact⟨d,by rw[aj d,c],e⟩
def yM(s:v?):O->O->E Ch
 |0,k=>[L_ s k]
 |n+1,k=>Xh s k::yM s n (k+8)
def KN(s:v?)(w:jC):jE Tryz.prog 86 #[jL s] w λe a=>e=a? (.func (.func 120) #[] #[jO w])/\w.alloc (cQ s)=a:=by
 go_in;go_wp2;go_ret;exact⟨rfl,rfl⟩
def Vh(n₀ a:O):jC->jC->Prop:=λA B=>A.heap.size<=B.heap.size/\∀i,i<n₀->i=a->B.heap[i]? =A.heap[i]?
def Vh.blk{n₀ a:O}{A B:jC}{t:jH}{cs:x? jD}(h:jR A a t cs)(b:Vh n₀ a A B)(c:a<n₀):jR B a t cs:=(b.2 a c rfl).trans h
def Ou(n:O)(hn:1<=n)(ll t n₀:O)(s:v?)(hs:s.size<=100000)(b:E Ch)(hz:b=yM s (s.size/8) 0)(α:t<n₀)(J T:E Ch->jC->Prop) (W:jC) (z:n₀<=W.heap.size) {nJ:O} (hJ:uC (λ_=>False) nJ J)(hY:∀c x W,J c W->c.length<b.length->bl4 cz (n-1) Tryz.prog ll #[jK x.1,h? x.2] W λe d=> (e=a? (h? t?)/\J (c++[x]) d/\Vh n₀ t W d)\/(e=a? (h? u?)/\T (c++[x]) d))(b1:jR W t 9 #[jL s]) (h0:J [] W):bj2 cz n Tryz.prog 120 #[cG ll,jO t] W λe d=>(∃v,e=a? v)/\ ((∃ys,ys=b/\J ys d)\/(∃c,c <+: b/\T c d)):=by
 have HB:=ah b1;have HZ:=ah hz;refine bj1 Tryz.func120 rfl trivial ?_ rfl;simp only[Tryz.ntmps120,xb,ao,dk];gi_wp2;gi_loopw[3] (λi wr=>∃k:O,i=c? o? ((8*k:O):I)/\8*k<=s.size/\b.drop k=yM s (s.size/8-k) (8*k)/\J (b.take k) wr/\Hid (jR wr t 9 #[jL s])) (λi _=>s.size-(av i).toNat)
 case atStart=>exact⟨0,rfl,be _,HZ,by rw[fO];exact h0,HB⟩
 obtain⟨k,rfl,hk,D,y,m⟩:=hrel;have x0:=m.one;have zx:=m.lt;obtain⟨a,ha⟩:∃a:O,8*k=a:=⟨_,rfl⟩;rw[ha]at hk D⊢;have c0:(0:I)<=a:=jS;have c1:(a:I)<=(s.size:I):=jS;by_cases h8:a+8<=s.size
 .have d1:decide ((8:I)<=(s.size:I)-(a:I))=t?:=ae;have c2:(0:I)<=a+8:=jS;have c3:(a:I)+8<=(s.size:I):=jS;have c4:(a:I)<=(a:I)+8:=jS;have β:s.size/8-k=(s.size/8-k-1)+1:=jS;rw[β,yM]at D;obtain⟨X,f,g⟩:=drop_cons D;rw[show s.size/8-k-1=s.size/8-(k+1) by omega]at g;have o:(s.extract a (a+8)).size=8:=by rw[fI];omega
  have G:=ah (λw=>Aj (s.extract a (a+8)) jS w);rw[o]at G;have C:=hY (b.take k) (Xh s a) wr y qlt;rw[<-f]at C;unfold Xh at C;have γ:=ah g;obtain⟨fn,Q,j,K,V,R⟩:=C;gi_wp2_with fail;refine⟨trivial,?_⟩;refine(jI.2 (G _)).mono ?_;rintro e w'⟨rfl,l⟩;rw[l];gi_wp2_with fail;refine R.mono ?_;rintro e W3(⟨rfl,Y,δ⟩|⟨rfl,F⟩)
  .have ε:=ah (Vh.blk m δ α);gi_wp2_with fail;go_roundw
   case rel=>exact⟨k+1,by rw[show 8*(k+1)=a+8 by omega];go_num,jS,by rw[show 8*(k+1)=a+8 by omega];exact γ,Y,ε⟩
   exact No
  clear V R m x0 zx;gi_wp2_with fail;refine jF (bj7 rfl _ _ _) rfl ?_;exact⟨⟨_,rfl⟩,s? ⟨_,eS _ _,F⟩⟩
 have d1:decide ((8:I)<=(s.size:I)-(a:I))=u?:=ag;have z:s.size/8-k=0:=jS;rw[z,yM]at D;obtain⟨X,f,g⟩:=drop_cons D;have q:b.take (k+1)=b:=by
  refine cl ?_;have:=C? ez g;rw[dr,dp]at this;omega
 rw[q]at f;have o:(s.extract a s.size).size=s.size-a:=by rw[fI];omega
 have G:=ah (λw=>Aj (s.extract a s.size) (by omega) w);rw[o]at G;have C:Hid (∀W,J (b.take k) W->bl4 cz (n-1) Tryz.prog ll #[jK (L_ s a).1,h? t?] W λe d=>(e=a? (h? t?)/\J b d/\Vh n₀ t W d)\/(e=a? (h? u?)/\T b d)):=λW hW=>by
  have h:=hY (b.take k) (L_ s a) W hW (by rw[cv];omega);rw[<-f]at h;exact h
 have H:J (b.take k) wr.drew:=hJ _ _ _ Z y ⟨rfl,rfl,rfl,ay _,λ_ _ _=>rfl⟩ (λr e=>LS);obtain⟨fn,Q,j,K,V,R⟩:=C _ H;have N:(L_ s a).1=bits .or n? (Al (s.extract a s.size) (s.size-a)) (IntKind.u64.wrap (IntKind.u64.wrap (s.size:I)*2^56)):=rfl;rw[N]at V;clear N q f g D z o y HZ C H;have θ:wr.drew.cell? ⟨t,0,Z⟩=M (f? s):=x0;rw[show(2:I)^56=72057594037927936 from by decide]at V;have HR:=ah (R.mono (zE (A:=λd=>J b d/\Vh n₀ t wr.drew d) (B:=λd=>T b d)));clear R;gi_wp2_with fail;gi_region_with(first|(refine⟨trivial,?_⟩;refine(jI.2 (G _)).mono ?_;rintro e w'⟨rfl,l⟩;rw[l];clear l)|(refine HR.mono ?_;rintro e W3⟨bq,rfl,hq⟩)|fail)
 all_goals
  cases bq
  .gi_wp2_with fail;go_end0;exact⟨⟨_,rfl⟩,s? ⟨_,List.prefix_refl _,hq⟩⟩
  gi_wp2_with fail;go_end0;exact⟨⟨_,rfl⟩,r? ⟨_,rfl,hq.1⟩⟩
def EN(n:O)(e:1<=n)(a:O)(s:v?)(hs:s.size<=100000)(w:jC)(d:jR w a 9 #[jL s]):x_ (λ_=>False) cz n Tryz.prog 120 #[jO a] (λx:Ch=>#[jK x.1,h? x.2]) (Vh w a) (λl=>l=yM s (s.size/8) 0) (λb=>b <+: yM s (s.size/8) 0) (yM s (s.size/8) 0).length w:=λk J j W c f _ g h=>
 Ou n e k a w s hs _ rfl d.lt J j W c.size f g (d.later c) h
end Sp
namespace Sp
open Go.RowKit Go.Shelf
attribute [local go_sem] db
def sn{W d:jC}{r:w? O}(f:W.grownBy d r)(j:∀k,r=M k->∃c t b,W.heap[k]? =M (m? c t b)):bj4 W d:=
 ⟨f.size,λk o a g=>(f.block k (aw.1 a).1 (λe=>by
  obtain⟨c,t,b,h⟩:=j k e.symm;rw[h]at a;cases a;cases g)).trans a⟩
def qz(v:Q4)(l:E Ch):Q4:=l.foldl (λv x=>uO v x.1) v
def Mn{v:Q4}(h:U4 v):∀l:E Ch,U4 (qz v l)
 |[]=>h
 |x::l=>Mn (v:=uO v x.1) (Ts v x.1) l
def Ky(v:Q4)(l:E Ch)(x:Ch):qz v (l++[x])=uO (qz v l) x.1:=by unfold qz;rw[fE];rfl
def xV(s:v?):∀n k,(yM s n k).map (·.2)=de n u?++[t?]
 |0,k=>rfl
 |n+1,k=>by rw[yM,df,xV s n (k+8)];rfl
def oC(v:Q4):Q4:=vq 4 (v.1,v.2.1,bits .xor n? v.2.2.1 255,v.2.2.2)
def sumF(a b:I)(s:v?):I:=Cb [(oC (qz (oE a b) (yM s (s.size/8) 0))).1,(oC (qz (oE a b) (yM s (s.size/8) 0))).2.1,(oC (qz (oE a b) (yM s (s.size/8) 0))).2.2.1,(oC (qz (oE a b) (yM s (s.size/8) 0))).2.2.2]
def Jk(a b:I)(s:v?):U (sumF a b s):=Xg _
def SuI(w:jC)(a b:I)(g:O)(c:E Ch)(W:jC):Prop:=jR W g 183 (q4 (qz (oE a b) c))/\(∀x∈c,x.2=u?)/\Below w w W
def SuX(w:jC)(a b:I)(g:O)(c:bk9)(d:E Ch)(W:jC):Prop:=c=.exit 0/\jR W g 183 (q4 (qz (oE a b) d))/\(∃p x,d=p++[x]/\x.2=t?)/\Below w w W
variable{w:jC}{a b:I}{g:O}
def U8{Bd:O}(j:w.heap.size<=Bd):bj3 Bd (SuI w a b g):=by
 rintro s W n m⟨l,h,c⟩ d f;exact⟨l.kept d (λr e=>(f r e).2),h,c.grown d c.size (λk e=>a_ j (f k e).1)⟩
def U7{Bd:O}{c:bk9}(l:w.heap.size<=Bd):bj3 Bd (SuX w a b g c):=by
 rintro s W p o⟨m,n,j,d⟩ f h;exact⟨m,n.kept f (λr e=>(h r e).2),j,d.grown f d.size (λk e=>a_ l (h k e).1)⟩
variable{s:v?}
def OD{p:E Ch}{x:Ch}(h:p++[x] <+: yM s (s.size/8) 0)(c:x.2=t?):p++[x]=yM s (s.size/8) 0:=by
 obtain⟨t,b⟩:=h;have e:=C? (List.map (·.2)) b;rw[xV,dH,dH,df,jA,c]at e
 cases t with
 |nil=>rw[eB]at b;exact b
 |cons y t=>
  exfalso;have d:p.length+(t.length+1+1)=s.size/8+1:=by
   have:=C? ez e;simpa using this
  have a:(List.map (λx:Ch=>x.2) p++[t?]++List.map (λx:Ch=>x.2) (y::t))[p.length]? =M t?:=by
   rw[eL lV,d7 lV];simp
  rw[e,eL (by rw[ey];omega),List.getElem?_replicate]at a;split at a
  .cases a
  cases a
def OC(h:∀x∈yM s (s.size/8) 0,x.2=u?):False:=by
 have a:t?∈(yM s (s.size/8) 0).map (·.2):=by rw[xV];simp
 obtain⟨x,b,e⟩:=dq.1 a;rw[h x b]at e;cases e
def Uk{n₀ e:O}(c:n₀<=w.heap.size)(W:jC)(l:O)(o a:Obj)(d:w.heap.size<=l)(h:W.heap[l]? =M o)(_:o.isCells=u?)(_:o.isWalk=u?):Vh n₀ e W (W.putObj l a):=by
 have b:=bj6 c W l o a d h ‹_› ‹_›;exact⟨b.size,λi f _=>b.block i f⟩
def WL(a b:I)(s:v?)(hs:s.size<=100000)(w:jC):bj2 cz 6 Tryz.prog 66 #[cI a b,jL s] w λe w'=>e=a? (.int n? (sumF a b s))/\Below w w w':=by
 refine bi7 Tryz.func66 rfl trivial ?_ rfl;simp only[Tryz.ntmps66,xb,ao,dk];refine bi4.2 ?_;go_wp2_with fail;go_step3;go_wp2_with fail;have T0:=jP (jP (jQ w) (aW a b)) (m? firsts 22);have N0:=new2 w (aW a b) 22 firsts;have F:=ah T0;have IT:=ah N0;clear T0 N0;generalize(w.alloc (aW a b)).alloc (m? firsts 22)=w0 at*;refine(nI a b (w.heap.size+1) w0 IT).mono ?_;rintro e d⟨rfl,γ⟩;have f:(bB w d):=F.trans (γ.mono F.size);clear γ IT F;have HU:=ah (Mn (Ya a b));have g:=ah (jR.new d 183 (q4 (oE a b)));have R:Hid (Below w w (d.alloc (m? (q4 (oE a b)) 183))):=f.trans ((jP (jQ d) _).mono f.size);have Q:=f.size;go_wp2_with fail;generalize d.alloc (m? (q4 (oE a b)) 183)=J at*;go_step3;go_wp2_with fail;refine(KN s _).mono ?_;rintro e w'⟨rfl,rfl⟩;have hg:=g.lt;have H:=jP (jQ J) (cQ s);have HS:=ah (jR.new J 9 #[jL s]);replace g:=ah (g.later H);replace R:=ah (R.trans (H.mono R.size));clear H f;go_wp2_with fail;generalize J.alloc (cQ s)=V at*;have N:SuI w a b d [] V:=⟨g,(λx hx=>by cases hx),R⟩;have Zb:=HS.lt;refine(bi4 (n:=6)).1 ?_;refine yy (q:=λ_=>False) rfl jS (gf:=120) (lb:=#[jO J]) rfl trivial (enters_of Tryz.func120 oo rfl)
  (EN 5 jS J s hs V HS)
  (λh k=>⟨a_ h.1 k.1,λi h1 h2=>(k.2 i h1 h2).trans (h.2 i h1 h2)⟩) (Uk aa) (Below.refl _ _) (λ_=>rfl) (λr h=>h.elim)
  (SuI w a b d) (SuX w a b d) (U8 R.size) (λc=>U7 R.size) (λs W W' r _ _ h=>h.elim) (λc s W W' r _ _ h=>h.elim) N
  (λx=>{tmps:=#[cI a b,jL s,jO w,undef,jK 0,jO d,jK x.1,.bool x.2,
   (cI a b),.slice (M (aE w)) 4 4,g? (q4 (oE a b)),jL s,.func (.func 120) #[] #[jO J],jK x.1,.bool x.2,
   undef,undef,undef,undef,undef,undef,undef,undef,undef,undef,undef,undef,undef,undef],defers:=[]})
  ?assign ?body ?done ?stop
 case assign=>
  intro l x W K hK;gi_wp2;exact hK
 case body=>
  rintro l' C x W⟨G,t,hb⟩ μ κ;have g:=ah G;have T:=ah hb;have θ:=ah t;have QT:=ah (take_any d _ (HU C) x.1 W G);rw[<-Ky]at QT;have ν:V.heap.size<=W.heap.size:=jS;clear G t hb N;gi_wp2_with fail;refine⟨trivial,?_⟩;refine(d_ l' (jI.2 QT)).mono ?_;rintro e W1⟨rfl,η,j⟩;have KO:bj4 W W1:=sn j (λk e=>by cases e;exact⟨_,_,_,g⟩);have KP:Hid (Vh V J W W1):=⟨j.size,λi hi e=>j.block i jS mO⟩;have f:(bB w W1):=T.grown j T.size (λk e=>by cases e;exact Q);have ε:=ah η;clear η j T g QT;obtain⟨m,X⟩:=x
  cases X with
  |true=>
   gi_wp2_with fail;exact⟨KO,rfl,ε,⟨C,_,rfl,rfl⟩,f⟩
  |false=>
   gi_wp2_with fail;exact⟨KO,KP,ε,λy hy=>by
    rcases ed.1 hy with h|h
    .exact θ y h
    rw[eM.1 h],f⟩
 case done=>
  rintro D ys W hD rfl⟨_,t,_⟩ hK;exact(OC t).elim
 rintro D c' C W hD z⟨rfl,G,⟨p,x,rfl,hx⟩,hb⟩ hK;rw[OD z hx]at G;have g:=ah G;have T:=ah hb;have HK:=ah hK;have HV:=ah (HU (yM s (s.size/8) 0));clear G hb hK z hx N;have Zl:Hid (sumF a b s=Cb [(oC (qz (oE a b) (yM s (s.size/8) 0))).1,(oC (qz (oE a b) (yM s (s.size/8) 0))).2.1,(oC (qz (oE a b) (yM s (s.size/8) 0))).2.2.1,(oC (qz (oE a b) (yM s (s.size/8) 0))).2.2.2]):=rfl;generalize qz (oE a b) (yM s (s.size/8) 0)=v at*;obtain⟨v0,v1,A,v3⟩:=v;have x2:=g.cell 2;simp only[q4,bh,bm,bo]at x2;have fz:∀i,W.frozen? ⟨d,i,Z⟩=u?:=λi=>g.frozen i;have zx:=g.lt;have X2:=g.kY 2 (.int n? (bits .xor n? A 255));simp only[q4,bd,ak,am]at X2;have B2:=ah (T.setCell (p:=⟨d,2,Z⟩) Q (.int n? (bits .xor n? A 255)));have K2:Hid ((W.setCell ⟨d,2,Z⟩ (.int n? (bits .xor n? A 255))).heap[D]? =M (aY)):=(Below.heap_setCell W ⟨d,2,Z⟩ _ D (by show D≠d.heap.size;omega)).trans HK;have U2:U4 (v0,v1,bits .xor n? A 255,v3):=⟨HV.1,HV.2.1,(by dsimp only;exact py _ _ _),HV.2.2.2⟩;have QR:=ah (zX d 183 (v0,v1,bits .xor n? A 255,v3) U2 4 B8 _ X2);have HE:Hid (vq 4 (v0,v1,bits .xor n? A 255,v3)=oC (v0,v1,A,v3)):=rfl;rw[HE]at QR;clear g T HK HV X2 U2 HE;refine bi4.2 ?_;go_wp2_with fail;refine QR.mono ?_;rintro e W3⟨rfl,β,B⟩;have B3:(bB w W3):=B2.grown B B2.size (λk e=>by cases e;exact Q);have K3:Hid (W3.heap[D]? =M (aY)):=(B.block D (aw.1 K2).1 mO).trans K2;have L:=ah β;clear β B B2 K2 QR x2 fz zx;generalize oC (v0,v1,A,v3)=u at*;obtain⟨u0,u1,u2,u3⟩:=u;have zx:=L.lt;have Y:Sl W3 W3 (aM d) [u0,u1,u2,u3]:=jR.sl L;have QM:=ah (Nw (aM d) [u0,u1,u2,u3] 4 lV W3 Y);rw[<-Zl]at QM;clear Y L;go_wp2_with fail;refine QM.mono ?_;rintro e w'⟨rfl,δ⟩;rw[δ];clear δ;go_wp2;try rw[cf]
 refine⟨lV,r? ⟨_,_,rfl,bi2 K3,?_⟩⟩;exact⟨.int n? (sumF a b s),by simp[results,Tryz.results66,go_sem],rfl,B3.trans (bj6 (w:=w) aa _ D _ _ jS K3 rfl rfl)⟩
def sum_any(a b:I)(s:v?)(hs:s.size<=100000)(w:jC):jE Tryz.prog 66 #[cI a b,jL s] w λe c=>e=a? (c? n? (sumF a b s))/\Below w w c:=jI.1 (WL a b s hs w)
end Sp
open Go.RowKit Go.Shelf
def Dw:Go.Shelf.Ren:=⟨fun|166=>171|240=>206|276=>243|n=>n,fun|0=>0|3=>3|4=>4|5=>5|9=>9|20=>20|21=>21|37=>151|46=>152|51=>365|70=>310|72=>312|75=>171|80=>315|164=>372|127=>355|n=>n,fun|n=>n⟩
def af8:Go.Proofs.Lays.n166 Tryz.prog Dw:={
 mixed:=oo
 f166:=Tryz.func171.trans (C? M oo)
 f240:=Tryz.func206.trans (C? M oo)
 f276:=Tryz.func243.trans (C? M oo)
 t0:=Tryz.underlying0
 a0:=Tryz.isAgg0
 z0:=Tryz.sizeOf0
 v0:=Tryz.zeroValue0
 t3:=Tryz.underlying3
 a3:=Tryz.isAgg3
 z3:=Tryz.sizeOf3
 v3:=Tryz.zeroValue3
 t4:=Tryz.underlying4
 a4:=Tryz.isAgg4
 z4:=Tryz.sizeOf4
 v4:=Tryz.zeroValue4
 t9:=Tryz.underlying9
 a9:=Tryz.isAgg9
 z9:=Tryz.sizeOf9
 v9:=Tryz.zeroValue9
 t20:=Tryz.underlying20
 a20:=Tryz.isAgg20
 z20:=Tryz.sizeOf20
 v20:=Tryz.zeroValue20
 t37:=Tryz.underlying151
 a37:=Tryz.isAgg151
 z37:=Tryz.sizeOf151
 v37:=Tryz.zeroValue151
 t70:=Tryz.underlying310
 a70:=Tryz.isAgg310
 z70:=Tryz.sizeOf310
 v70:=Tryz.zeroValue310
 t72:=Tryz.underlying312
 a72:=Tryz.isAgg312
 z72:=Tryz.sizeOf312
 v72:=Tryz.zeroValue312
 t75:=Tryz.underlying171
 a75:=Tryz.isAgg171
 z75:=Tryz.sizeOf171
 v75:=Tryz.zeroValue171
 t164:=Tryz.underlying372
 a164:=Tryz.isAgg372
 z164:=Tryz.sizeOf372
 v164:=Tryz.zeroValue372}
def am7:Builder.Extra Tryz.prog Dw:={
 sizeBuilder:=oo
 liesBuilder:=oo
 t5:=Tryz.underlying5
 a5:=Tryz.isAgg5
 z5:=Tryz.sizeOf5
 v5:=Tryz.zeroValue5
 infoByte:=oo
 cellsByte:=oo
 sizeByte:=oo
 neB5:=by decide}
def Dv:Go.Shelf.Ren:=⟨fun|169=>172|n=>n,fun|0=>0|3=>3|4=>4|5=>5|9=>9|20=>20|21=>21|37=>151|46=>152|51=>365|70=>310|72=>312|75=>171|80=>315|164=>372|127=>355|n=>n,fun|n=>n⟩
def af7:Go.Proofs.Lays.n169 Tryz.prog Dv:={
 mixed:=oo
 f169:=Tryz.func172.trans (C? M oo)
 t0:=Tryz.underlying0
 a0:=Tryz.isAgg0
 z0:=Tryz.sizeOf0
 v0:=Tryz.zeroValue0
 t3:=Tryz.underlying3
 a3:=Tryz.isAgg3
 z3:=Tryz.sizeOf3
 v3:=Tryz.zeroValue3
 t9:=Tryz.underlying9
 a9:=Tryz.isAgg9
 z9:=Tryz.sizeOf9
 v9:=Tryz.zeroValue9
 t37:=Tryz.underlying151
 a37:=Tryz.isAgg151
 z37:=Tryz.sizeOf151
 v37:=Tryz.zeroValue151
 t70:=Tryz.underlying310
 a70:=Tryz.isAgg310
 z70:=Tryz.sizeOf310
 v70:=Tryz.zeroValue310
 t72:=Tryz.underlying312
 a72:=Tryz.isAgg312
 z72:=Tryz.sizeOf312
 v72:=Tryz.zeroValue312
 t127:=Tryz.underlying355
 a127:=Tryz.isAgg355
 z127:=Tryz.sizeOf355
 v127:=Tryz.zeroValue355}
def am6:Builder.Extra Tryz.prog Dv:={
 sizeBuilder:=oo
 liesBuilder:=oo
 t5:=Tryz.underlying5
 a5:=Tryz.isAgg5
 z5:=Tryz.sizeOf5
 v5:=Tryz.zeroValue5
 infoByte:=oo
 cellsByte:=oo
 sizeByte:=oo
 neB5:=by decide}
def sL(B b:O)(bs:E jD)(s:v?)(w:jC)(h:dX 312 5 B b bs w)(a:bs.length+s.size<=140737488355328)(d:B<=w.heap.size):jE Tryz.prog 171 #[jO b,jL s] w λe c=>e=a? (d? #[jJ s.size,j?])/\(fN 312 5 B b (e? (aC b)) (bs++jh s) c/\Below B w c/\eh 5 (M b) w c):=
 Any.Builder_WriteString_k af8 am7 B b bs s w h a d
def IF(B b:O)(l:E y?)(w:jC)(h:dX 312 5 B b (dV l) w)(c:B<=w.heap.size):jE Tryz.prog 172 #[jO b] w λe a=>e=a? (f? ⟨l.toArray⟩)/\(dX 312 5 B b (dV l) a/\Below B w a/\eh 5 (M b) w a):=Any.Builder_String_any_k af7 am6 B b l w h c
end Go.Proofs.YtfcnedcahoifoaaGreatDoor

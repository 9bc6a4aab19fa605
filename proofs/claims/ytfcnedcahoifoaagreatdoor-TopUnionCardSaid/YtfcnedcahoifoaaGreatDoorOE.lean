import Derived.BigRegionIn
import Derived.Laws.Shifts
import Derived.Stop.RegionWithIn
import Derived.Test.YtfcnedcahoifoaaGreatDoorOC
namespace Go.Proofs.YtfcnedcahoifoaaGreatDoor
open Go.RowKit
open _root_.Array renaming getElem?_eq_some_iff→aw
open _root_.ByteArray renaming size_extract→fI
open _root_.Go renaming Addr→jG,CallsIn→bj2,Calls→jE,Code→bk9,Ending→bi6,Exit→bk7,KeepsOthers→bj4,Oper→bk0,OwnFrom→bj3,Program→bi3,SeqStopsK→bl1,TypeId→jH,Value→jD,World→jC,YieldAt→bl4,belowK_b→bj6,bodyPost_end→bl6,bodyPost_ret→jF,callsIn_of_wp_marks→bi7,callsIn_of_wp→bj1,callsIn_wide→jI,grownBy_putObj'→bj5,info_parts→bi5,results_cell_row→bl2,results_none→bj7,rounds_succ→bi9,run_takeDeferred→bi2,wpIn_rangeFunc_ownF→bj9,wpIn_wide→bi4,wp_loop_rounds→bj8
open _root_.Go.CallsIn renaming inRound→d_
open _root_.Go.Exit renaming noGoto_ret→cf
open _root_.Go.Fence renaming wide→cz
open _root_.Go.Instr renaming typeAssert→dd
open _root_.Go.IntWalk renaming i64_in→dv,wrap64_in→e_
open _root_.Go.KeepsOthers renaming setCell→b7
open _root_.Go.Lib renaming BuilderAtF→fN,IsBuilderF→dX,OthersKept→eh,byteCells→dV,hid→ai,strCells→jh
open _root_.Go.Oper renaming semAt_some→db
open _root_.Go.Region renaming Mode→fD
open _root_.Go.RowKit renaming intOf→av
open _root_.Go.Value renaming int→br
open _root_.Go.World renaming cell?_of_block→co,cell?_setCell_other→eX,size_alloc→b_
open _root_.Int renaming emod_lt_of_pos→jk,natCast_mul→eG,toNat_natCast→dM
open _root_.List renaming append_nil→eB,drop_eq_getElem_cons→dN,drop_eq_nil_of_le→ei,eq_of_mem_replicate→gh,foldl_append→fE,getElem?_append_left→eL,getElem?_append_right→d7,getElem?_cons_succ→bo,getElem?_cons_zero→bm,getElem?_toArray→bh,length_drop→dr,length_nil→dp,length_replicate→ey,length_take→cv,length→ez,map_append→dH,map_cons→df,map_nil→jA,map_set→iJ,mem_append→ed,mem_map→dq,mem_or_eq_of_mem_set→dO,mem_range→dh,mem_singleton→eM,range→bu,replicate→de,setIfInBounds_toArray→bd,set_cons_succ→am,set_cons_zero→ak,take_length→dP,take_of_length_le→cl,take_prefix→eS,take_succ_eq_append_getElem→aj,take_zero→fO
open _root_.Nat renaming add_mul→iY,div_lt_of_lt_mul→iZ,le_refl→ay,le_succ→dU,le_trans→a_,lt_of_lt_of_le→cn,lt_or_ge→fB,mod_lt→jj,mul_le_mul_right→fZ,mul_le_mul→io,reduceAdd→ao,reduceSub→dk,zero_le→be
set_option maxRecDepth 100000
set_option maxHeartbeats 16000000
set_option linter.unusedVariables false
set_option linter.unusedSimpArgs false
instance i6_(x0:jC)(x1:Nat)(x2:Nat)(x3:Option jG)(x4:List Int)(x5:Nat)(x6:Int):CoeOut (ag9 6 x0 x1 x2 x3 x4 x5 x6) jC:=⟨fun _=>(((((x0.alloc (.cells #[jJ x1,jJ x2,jN x3 x4 x5] 131)).alloc (.cells #[jJ x1,jJ x2,jN x3 x4 x5] 131)).alloc (.cells #[jK 18446744073709551615] 22)).alloc (.cells #[jJ x1,jJ x2,jN x3 x4 x5] 216)).alloc (.cells #[jK x6] 22))⟩
structure SbP where
def bP:SbP:=⟨⟩
instance aU9:CoeOut SbP Obj:=⟨fun _=>(.cells #[jJ 0,jJ 0,jM] 216)⟩
instance aX8:CoeOut (Cp 17) Obj:=⟨fun _=>(.cells #[.string ⟨#[110,111,32,99,111,117,110,116,101,114,115,32,111,102,32,116,104,105,115,32,107,105,110,100]⟩] 281)⟩
instance aW5(x0:ByteArray):CoeOut (sH 53 x0) Obj:=⟨fun _=>(.cells #[jL x0] 281)⟩
instance aW0:CoeOut (Cp 66) Obj:=⟨fun _=>(.cells #[jJ 0,jJ 0,jM] 131)⟩
namespace Cm
def sat(a b:Int):Int:=if 18446744073709551615-b<a then cM else a+b
def ET(c row h:Int):Int:=(h/4294967296+row*(h%4294967296))%c
def place(c:Nat)(h:Int)(k:Nat):Nat:=k*c+(ET c k h).toNat
def places(r c:Nat)(h:Int):List Nat:=(bu r).map (place c h)
def UR(f:Nat→Int→Int)(l:List Int)(p:Nat):List Int:=l.set p (f p (nth l p))
def lL(f:Nat→Int→Int)(l:List Int)(ps:List Nat):List Int:=ps.foldl (UR f) l
variable{a b:Int}
theorem uQ(ha:0≤a)(hb:0≤b):0≤sat a b∧sat a b≤18446744073709551615:=by unfold sat;split<;>omega
variable{r c:Int}
theorem rD(h:mX r c=true):∃R C:Nat,r=R∧c=C∧1≤R∧R≤4∧(C=4∨C=8∨C=16∨C=32):=by
 obtain⟨h1,h2,h3⟩:=tl h;exact⟨r.toNat,c.toNat,jS,jS,jS,jS,jS⟩
theorem lh{n:Nat}(h:kP r c n=true):mX r c=true∧(n:Int)=r*c:=by simpa[kP]using h
theorem CD{R C:Nat}(h2:R≤4)(hc:C=4∨C=8∨C=16∨C=32):R*C≤128:=by rcases hc with rfl|rfl|rfl|rfl<;>omega
theorem My(hc:0<c)(row h:Int):0≤ET c row h∧ET c row h<c:=⟨Int.emod_nonneg _ jS,jk _ hc⟩
variable{k:Nat}
theorem Qe{r c:Nat}(hc:0<c)(h:Int)(hk:k<r):place c h k<r*c:=by
 have h1:=My (c:=c) jS k h;have h2:k*c+c≤r*c:=by rw[←Nat.succ_mul];exact fZ c hk
 unfold place;omega
theorem CO{r c:Nat}(hc:0<c)(h:Int):∀p∈places r c h,p<r*c:=by
 intro p hp;obtain⟨k,hk,rfl⟩:=dq.1 hp;exact Qe hc h (dh.1 hk)
theorem Cd(r c:Nat)(h:Int):(places r c h).length=r:=by simp[places]
theorem Kf(f:Nat→Int→Int)(l:List Int)(p:Nat):(UR f l p).length=l.length:=by simp[UR]
theorem Ik(f:Nat→Int→Int)(l:List Int)(ps:List Nat)(p:Nat):lL f l (ps++[p])=UR f (lL f l ps) p:=by simp[lL]
theorem mT(f:Nat→Int→Int)(l:List Int)(ps:List Nat):(lL f l ps).length=l.length:=by
 induction ps generalizing l with
 |nil=>rfl
 |cons p ps ih=>exact(ih _).trans (Kf _ _ _)
theorem _root_.Go.Proofs.YtfcnedcahoifoaaGreatDoor.Us.set{l:List Int}(h:Us l)(p:Nat){v:Int}(hv:U v):Us (l.set p v):=fun x hx=>by
 rcases dO hx with h1|h1
 ·exact h x h1
 rw[h1];exact hv
theorem _root_.Go.Proofs.YtfcnedcahoifoaaGreatDoor.Us.lL{f:Nat→Int→Int}(hf:∀p o,U o→U (f p o)):∀{ps:List Nat}{l:List Int},Us l→Us (lL f l ps)
 |[],_,h=>h
 |p::ps,l,h=>Us.lL hf (l:=UR f l p) (ps:=ps) (h.set p (hf p _ (rI h p)))
theorem oa(a b:Int)(ha:U a)(hb:U b)(w:jC)(g off cap:Nat)(h0:w.cell? ⟨g,off,none⟩=some (.int .u64 a))(h1:w.cell? ⟨g,off+1,none⟩=some (.int .u64 b)):
 jE Tryz.prog 335 #[.slice (bH g off) 2 cap] w fun e w'=>e=.returned (.int .u64 (sat a b))∧w=w':=by
 obtain⟨ha1,ha2⟩:=ha
 obtain⟨hb1,hb2⟩:=hb
 by_cases h:18446744073709551615-b<a
 ·go_in;go_wp2;refine bj8 3 ?_;rw[bi9];go_wp2;rw[bi9];go_wp2;go_ret;exact⟨mL (by simp[sat,h]),rfl⟩
 go_in
 go_wp2
 refine bj8 3 ?_
 rw[bi9]
 go_wp2
 rw[bi9]
 go_wp2
 rw[bi9]
 go_wp2
 go_ret
 exact⟨mL (by rw[sat,if_neg jS]),rfl⟩
abbrev sC(s:ByteArray):jD:=.iface 281 (.agg #[jL s])
theorem wK(w:jC):jE Tryz.prog 107 #[.nilIface] w fun e w'=>e=.returned (.int .i64 0)∧w.alloc (.cells #[aF] 281)=w':=by
 have ta:∀w,(dd .nilIface 171 281 true).run Tryz.prog w=.ok (.tuple #[.agg #[aF],.bool false]) w:=fun _=>oo;go_in;go_wp2;go_ret;exact⟨rfl,rfl⟩
theorem kR(s:ByteArray)(w:jC):jE Tryz.prog 107 #[sC s] w fun e w'=>e=.returned (.int .i64 80)∧w.alloc (lz 53 s)=w':=by
 have ta:∀w,(dd (sC s) 171 281 true).run Tryz.prog w=.ok (.tuple #[.agg #[jL s],.bool true]) w:=fun _=>oo;go_in;go_wp2;go_ret;exact⟨rfl,rfl⟩
theorem K6(C:Int)(k:Nat)(h:Int)(hh:U h)(hk:k≤4)(hC:1≤C):
 0≤(k:Int)*(h%4294967296)∧(k:Int)*(h%4294967296)≤17179869180∧0≤(h/4294967296+(k:Int)*(h%4294967296))%C∧(h/4294967296+(k:Int)*(h%4294967296))%C<C:=by
 obtain⟨h1,h2⟩:=hh
 have:k=0∨k=1∨k=2∨k=3∨k=4:=jS
 exact⟨by rcases this with rfl|rfl|rfl|rfl|rfl<;>omega,by rcases this with rfl|rfl|rfl|rfl|rfl<;>omega,Int.emod_nonneg _ jS,jk _ jS⟩
theorem UP(r:Int)(C:Nat)(A:Option jG)(n cap k:Nat)(h:Int)(hh:U h)(hk:k≤4)(hC:1≤C)(hC2:C≤32)(w:jC):
 jE Tryz.prog 280 #[.agg #[jJ r,jJ C,.slice A n cap],jJ k,jK h] w fun e w'=>e=.returned (.int .i64 (ET C k h))∧w.alloc (.cells #[jJ r,jJ C,.slice A n cap] 216)=w':=by
 obtain⟨p1,p2,p3,p4⟩:=K6 C k h hh hk jS
 obtain⟨h1,h2⟩:=hh
 go_in
 go_wp2
 go_ret
 exact⟨mL (by rw[ET]),rfl⟩
def BL(w:jC)(r c:Int)(e:bi6)(w':jC):Prop:=
 Below w w w'∧((mX r c=true∧∃g,w.heap.size≤g∧e=.returned (.tuple #[.agg #[jJ r,jJ c,.slice (aC g) (r*c).toNat (r*c).toNat],.nilIface])∧jR w' g 22 ((de (r*c).toNat (0:Int)).map (br .u64)).toArray)∨
  (mX r c=false∧∃s,e=.returned (.tuple #[cX,sC s])))
theorem Tryz.p_:(Tryz.prog.info? 22).map (fun i=>(i.zero,i.size,i.bytes))=some (some (.int .u64 0),1,8):=oo
theorem Qt(n:Nat):madeCells #[jK 0] n=((de n (0:Int)).map (br .u64)).toArray:=by
 apply Array.ext
 ·simp[size_madeCells]
 intro i h1 h2;simp[madeCells,Nat.mod_one]
theorem oG(r c:Int)(w:jC):jE Tryz.prog 106 #[jJ r,jJ c] w (BL w r c):=by
 cases hs:mX r c with
 |false=>
  have H:=ah hs;clear hs;go_in;go_wp2_with fail;refine(qV r c _).mono ?_;rintro e w'⟨rfl,rfl⟩;rw[H];go_wp2;exact jF (v:=.tuple #[cX,sC _]) (by simp[results,Tryz.results106,go_sem];rfl) rfl ⟨jP (jQ _) _,.inr ⟨H,_,rfl⟩⟩
 |true=>
  obtain⟨R,C,rfl,rfl,b1,b2,b3⟩:=rD hs;have hm:=CD b2 b3;obtain⟨i0,hi0,hz0,hz1,hz2⟩:=bi5 Tryz.p_;have hmk:∀W,(Instr.makeSlice 33 (.int .i64 ((R:Int)*(C:Int))) (.int .i64 ((R:Int)*(C:Int)))).run Tryz.prog W=.ok (.slice (aM W) (R*C) (R*C)) (W.alloc (.cells (madeCells (br .u64 0).cells (R*C)) 22)):=fun W=>by
   have:=vo (P:=Tryz.prog) 33 22 i0 (.int .u64 0) Tryz.underlying33 hi0 hz0 hz1 .i64 .i64 (R*C) (R*C) aa (by rw[hz2];omega) jS W;rwa[eG]at this
  have hm1:0≤(R:Int)*(C:Int):=by rw[←eG];omega
  have hm2:(R:Int)*(C:Int)≤128:=by rw[←eG];omega
  have H:=ah hs;clear hs b3;go_in;go_wp2_with fail;refine(qV _ _ _).mono ?_;rintro e w'⟨rfl,rfl⟩;rw[H];go_wp2_with fail;have hn:((R:Int)*(C:Int)).toNat=R*C:=by rw[←eG,dM]
  refine jF (v:=.tuple #[.agg #[jJ R,jJ C,.slice (some (aE w)) (R*C) (R*C)],.nilIface]) (by simp[results,Tryz.results106,go_sem]) rfl
   ⟨jP (jP (jQ _) _) _,.inl ⟨H,w.heap.size+1,dU _,by rw[hn],?_⟩⟩
  rw[hn,←Qt];have h:=jR.new (w.alloc (.cells #[jJ R,jJ C,.slice (some (aE w)) (R*C) (R*C)] 216)) 22 (madeCells #[jK 0] (R*C));rw[b_]at h;exact h
def BM(w:jC)(r c:Int)(l:List Int)(e:bi6)(w':jC):Prop:=
 Below w w w'∧((kP r c l.length=true∧∃g,w.heap.size≤g∧e=.returned (.tuple #[.agg #[jJ r,jJ c,.slice (aC g) l.length l.length],.nilIface])∧jR w' g 22 (l.map (br .u64)).toArray)∨
  (kP r c l.length=false∧∃s,e=.returned (.tuple #[cX,sC s])))
theorem nI(r c:Int)(A:Option jG)(l:List Int)(cap:Nat)(w:jC)(hS:Sl w w A l):
 jE Tryz.prog 331 #[bR r c A l cap] w (BM w r c l):=by
 cases hr:kP r c l.length with
 |false=>
  have H:=ah hr;clear hr;go_in;go_wp2_with fail;refine(j_ r c A l.length cap _).mono ?_;rintro e w'⟨rfl,rfl⟩;rw[H];go_wp2;exact jF (v:=.tuple #[cX,sC _]) (by simp[results,Tryz.results331,go_sem];rfl) rfl ⟨jP (jP (jP (jQ _) _) _) _,.inr ⟨H,_,rfl⟩⟩
 |true=>
  obtain⟨hs,hl⟩:=lh hr;have hn:(r*c).toNat=l.length:=jS;have HN:=ah hn;have H:=ah hr;have HSH:=ah hs;have DA:Below w w (((w.alloc (aK r c A l cap)).alloc bP).alloc (aK r c A l cap)):=jP (jP (jP (jQ _) _) _) _;have X:=ah (((jR.new w 131 #[jJ r,jJ c,jN A l cap]).alloc bP).alloc (aK r c A l cap));have Y:=ah ((jR.new (w.alloc (aK r c A l cap)) 216 #[jJ 0,jJ 0,jM]).alloc (aK r c A l cap));have HS:=ah (hS.later DA);simp only[b_]at X Y;clear hr hs hl hn hS;go_in;go_wp2_with fail;refine(j_ r c A l.length cap _).mono ?_;rintro e w'⟨rfl,rfl⟩;rw[H];go_wp2_with fail;refine(oG r c _).mono ?_;rintro e w1⟨hb1,⟨_,g,hg,rfl,hblk⟩|⟨hf,_⟩⟩
  ·rw[HN]at hblk⊢;have T1:=Below.two DA hb1;replace X:=ah (X.later hb1);replace Y:=ah (Y.later hb1);replace HS:=ah (HS.later hb1);have G:=ah hblk;have hg':w.heap.size+3≤g:=by simpa using hg
   clear hg hblk hb1;have x2:=X.c2;have z0:=X.lt;have hgw:=G.lt;obtain⟨i0,hi0,hz0,hz1,hz2⟩:=bi5 Tryz.p_;have KG:=ah (G.alloc (.cells #[jJ r,jJ c,.slice (aC g) l.length l.length] 216));have KS:=ah (HS.later (jP (jQ _) (.cells #[jJ r,jJ c,.slice (aC g) l.length l.length] 216)));have hne:w1.heap.size≠w.heap.size+1:=by have:=Y.lt;omega
   go_wp2_with(
    refine sM rfl (.tmp 22) (.tmp 24) 33 33 rfl 22 Tryz.underlying33 (by rw[hi0];simp[hz1]) g l.length l.length cap A rfl rfl _ 22 KG lV (l.map (br .u64)) lV _ KS Ed ?_
    intro w2 hg2 hw2 hs2
    have G2:=ah hg2
    have Y2:=ah ((Y.alloc (.cells #[jJ r,jJ c,.slice (aC g) l.length l.length] 216)).grown hw2 (fun e=>TP))
    have Z2:=ah ((jR.new w1 216 #[jJ r,jJ c,.slice (aC g) l.length l.length]).grown hw2 (fun e=>TP))
    have T2:Below w w w2:=ly (jP T1 _) hw2 jS
    clear hg2 hw2 hs2 x2 KG KS hi0 hz0 hz1 hz2
    have y0:=Y2.c0
    have y1:=Y2.c1
    have y2:=Y2.c2
    have q0:=Z2.c0
    have q1:=Z2.c1
    have q2:=Z2.c2
    have f0:=Y2.frozen 0
    have f1:=Y2.frozen 1
    have f2:=Y2.frozen 2)
   have hcs:=Y2.zS (x:=.int .i64 r) (y:=.int .i64 c) (z:=.slice (aC g) l.length l.length);have k0:=hcs.c0;have k1:=hcs.c1;have k2:=hcs.c2;exact jF (v:=.tuple #[.agg #[jJ r,jJ c,.slice (aC g) l.length l.length],.nilIface]) (by simp[results,Tryz.results331,go_sem,k0,k1,k2]) rfl
    ⟨((T2.setCell lV _).setCell lV _).setCell lV _,.inl ⟨H,g,jS,rfl,((jR.far (jR.far (jR.far (show jR w2 g _ _ from G2) mO _) mO _) mO _))⟩⟩
  rw[HSH]at hf;cases hf
def Cm.none:Cm:=⟨0,0,[]⟩
def BK(w:jC)(x:Cm×Int)(e:bi6)(w':jC):Prop:=
 Below w w w'∧∃v,e=.returned (.tuple #[.agg #[jJ x.1.r,jJ x.1.c,v],jJ x.2])∧Held w' w v x.1.l
def newF(r c:Int):Cm×Int:=if mX r c=true then(⟨r,c,de (r*c).toNat 0⟩,0)else(Cm.none,80)
theorem JW(r c:Int)(A:Option jG)(n cap:Nat):∀v∈ #[br .i64 r,jJ c,.slice A n cap],∀n,v≠br .u64 n:=by
 intro v hv n e;subst e;simp at hv
variable{w:jC}{A:Option jG}{l:List Int}
theorem nh{b base:Nat}{t:jH}{r2 c2:Int}{A2:Option jG}{n n2 cap cap2:Nat}(hx:jR w b t #[jJ r,jJ c,.slice A n cap])(h:Held w base (.slice A2 n2 cap2) l):
 Held (((w.setCell ⟨b,0,.none⟩ (.int .i64 r2)).setCell ⟨b,1,.none⟩ (.int .i64 c2)).setCell ⟨b,2,.none⟩ (.slice A2 n2 cap2)) base (.slice A2 n2 cap2) l:=
 G9 h hx (JW r c A n cap) (Di w b _ _ _) hx.zS
theorem nw{a:jC}{b:Nat}(h:Below a a w)(hb:a.heap.size≤b)(x y z:jD):Below a a (((w.setCell ⟨b,0,.none⟩ x).setCell ⟨b,1,.none⟩ y).setCell ⟨b,2,.none⟩ z):=
 ly h (Di w b x y z) hb
theorem new_any(r c:Int)(w:jC):jE Tryz.prog 76 #[jJ r,jJ c] w (BK w (newF r c)):=by
 have Y:=ah (jR.new w 131 #[jJ 0,jJ 0,.slice .none 0 0]);have DA:Below w w (w.alloc (.cells #[jJ 0,jJ 0,.slice .none 0 0] 131)):=jP (jQ _) _;go_in;go_wp2_with fail;refine(oG r c _).mono ?_;rintro e w1⟨hb1,⟨hs,g,hg,rfl,hblk⟩|⟨hf,s,rfl⟩⟩
 ·have HR:Hid (newF r c=(⟨r,c,de (r*c).toNat 0⟩,0)):=by show newF r c=_;rw[newF,if_pos hs]
  replace Y:=ah (Y.later hb1);have T1:=Below.two DA hb1;have G:=ah hblk;have hg':w.heap.size+1≤g:=by simpa using hg
  clear hs hblk hb1 hg;have y0:=Y.c0;have y1:=Y.c1;have y2:=Y.c2;have f0:=Y.frozen 0;have f1:=Y.frozen 1;have f2:=Y.frozen 2;have z0:=Y.lt;go_wp2_with fail;clear y0 y1 y2 f0 f1 f2;have Z:=ah (jR.new w1 216 #[jJ r,jJ c,.slice (aC g) (r*c).toNat (r*c).toNat]);replace Y:=ah (Y.alloc (.cells #[jJ r,jJ c,.slice (aC g) (r*c).toNat (r*c).toNat] 216));replace G:=ah (G.alloc (.cells #[jJ r,jJ c,.slice (aC g) (r*c).toNat (r*c).toNat] 216));replace T1:=jP T1 (.cells #[jJ r,jJ c,.slice (aC g) (r*c).toNat (r*c).toNat] 216);generalize w1.alloc (.cells #[jJ r,jJ c,.slice (aC g) (r*c).toNat (r*c).toNat] 216)=W at*
  have y0:=Y.c0;have y1:=Y.c1;have y2:=Y.c2;have f0:=Y.frozen 0;have f1:=Y.frozen 1;have f2:=Y.frozen 2;have z1:=Y.lt;have x0:=Z.c0;have x1:=Z.c1;have x2:=Z.c2;have z2:=Z.lt;have ne1:w1.heap.size≠w.heap.size:=jS;have ne2:w.heap.size≠w1.heap.size:=jS;go_region_held3 (fun w'=>w'.cell? ⟨w1,0,none⟩=some (.int .i64 r)∧w'.cell? ⟨w1,1,none⟩=some (.int .i64 c)∧w'.cell? ⟨w1,2,none⟩=some (.slice (aC g) (r*c).toNat (r*c).toNat)) (go_keep) (first|(go_at_call 107;refine(wK _).mono ?_;rintro e w'⟨rfl,rfl⟩));have K:=(Y.zS (x:=.int .i64 r) (y:=.int .i64 c) (z:=(.slice (aC g) (r*c).toNat (r*c).toNat))).alloc (.cells #[aF] 281);have k0:=K.c0;have k1:=K.c1;have k2:=K.c2;go_wp2;refine jF (v:=.tuple #[.agg #[jJ r,jJ c,(.slice (aC g) (r*c).toNat (r*c).toNat)],jJ 0]) (by simp[results,Tryz.results76,go_sem,k0,k1,k2]) rfl
   ⟨(jP (nw T1 aa _ _ _) _).drew,(.slice (aC g) (r*c).toNat (r*c).toNat),by rw[HR],?_⟩
  rw[HR];exact(nh Y (by have:=jR.held (base:=w.heap.size) G jS;rwa[ey]at this)).later (jP (jQ _) _).drew
 have HR:Hid (newF r c=(Cm.none,80)):=by show newF r c=_;rw[newF,if_neg (by simp[hf])]
 replace Y:=ah (Y.later hb1);have T1:=Below.two DA hb1;clear hf hb1;have y0:=Y.c0;have y1:=Y.c1;have y2:=Y.c2;have f0:=Y.frozen 0;have f1:=Y.frozen 1;have f2:=Y.frozen 2;have z0:=Y.lt;go_wp2_with fail;clear y0 y1 y2 f0 f1 f2;have Z:=ah (jR.new w1 216 #[jJ 0,jJ 0,jM]);replace Y:=ah (Y.alloc bP);replace T1:=jP T1 bP;generalize w1.alloc bP=W at*
 have y0:=Y.c0;have y1:=Y.c1;have y2:=Y.c2;have f0:=Y.frozen 0;have f1:=Y.frozen 1;have f2:=Y.frozen 2;have z1:=Y.lt;have x0:=Z.c0;have x1:=Z.c1;have x2:=Z.c2;have z2:=Z.lt;have ne1:w1.heap.size≠w.heap.size:=jS;have ne2:w.heap.size≠w1.heap.size:=jS;go_region_held3 (fun w'=>w'.cell? ⟨w1,0,none⟩=some (.int .i64 0)∧w'.cell? ⟨w1,1,none⟩=some (.int .i64 0)∧w'.cell? ⟨w1,2,none⟩=some (.slice none 0 0)) (go_keep) (first|(go_at_call 107;refine(kR s _).mono ?_;rintro e w'⟨rfl,rfl⟩));have K:=(Y.zS (x:=.int .i64 0) (y:=.int .i64 0) (z:=aO)).alloc (lz 53 s);have k0:=K.c0;have k1:=K.c1;have k2:=K.c2;go_wp2;refine jF (v:=.tuple #[.agg #[jJ 0,jJ 0,aO],jJ 80]) (by simp[results,Tryz.results76,go_sem,k0,k1,k2]) rfl
  ⟨(jP (nw T1 aa _ _ _) _).drew,aO,by rw[HR];rfl,?_⟩
 rw[HR];exact(nh Y (rN _ _)).later (jP (jQ _) _).drew
section
open Go.RowKit Go.Shelf
attribute [local go_sem] db
theorem ae8(r:Int)(C:Nat)(A:Option jG)(n cap k:Nat)(h:Int)(hh:U h)(hk:k≤4)(hC:1≤C)(hC2:C≤32)(w:jC):
 jE Tryz.prog 280 #[.agg #[jJ r,jJ C,.slice A n cap],jJ k,jK h] w fun e w'=>e=.returned (.int .i64 (ET C k h))∧Below w w w':=
 (UP r C A n cap k h hh hk hC hC2 w).mono fun _ _⟨he,hw⟩=>⟨he,by rw[←hw];exact jP (jQ _) _⟩
theorem Fx(r c:Int)(A:Option jG)(n cap:Nat)(h:Int)(w:jC):
 jE Tryz.prog 333 #[.agg #[jJ r,jJ c,.slice A n cap],jK h] w fun e w'=>e=.returned (.func (.func 339) #[] #[jO w,.pointer (some (aE w))])∧
  (w.alloc (.cells #[jJ r,jJ c,.slice A n cap] 216)).alloc (cD h)=w':=by
 go_in
 go_wp2
 go_ret
 exact⟨rfl,rfl⟩
theorem MJ(r c:Int)(A:Option jG)(n cap:Nat)(w:jC):
 jE Tryz.prog 336 #[.agg #[jJ r,jJ c,.slice A n cap]] w fun e w'=>e=.returned (.func (.func 340) #[] #[jO w])∧
  w.alloc (.cells #[jJ r,jJ c,.slice A n cap] 216)=w':=by
 go_in
 go_wp2
 go_ret
 exact⟨rfl,rfl⟩
theorem all1_in(n:Nat)(hn:1≤n)(l Bw n₀ g N cap:Nat)(r c:Int)(A:Option jG)(zs:List (At N))(hzs:zs.map (·.1)=bu N)(hN:N≤65536)(hBw:Bw<n₀)(hg:Bw≠g)(J Jx:List (At N)→jC→Prop)
 (hY:∀pre x W,J pre W→pre.length<N→bl4 cz (n-1) Tryz.prog l #[jJ (x.1:Int)] W fun e W'=>
  (e=.returned (.bool true)∧J (pre++[x]) W'∧kZ n₀ g W W')∨(e=.returned (.bool false)∧Jx (pre++[x]) W'))
 (W:jC) (hB:jR W Bw 216 #[jJ r,jJ c,.slice A N cap]) (h0:J [] W):
 bj2 cz n Tryz.prog 340 #[cG l,jO Bw] W fun e W'=>(∃v,e=.returned v)∧
  ((∃ys,ys=zs∧J ys W')∨(∃pre,pre <+: zs∧Jx pre W')):=by
 have hlen:zs.length=N:=by have:=congrArg ez hzs;simpa using this
 have HZ:=ah hzs
 have HL:=ah hlen
 clear hzs hlen
 have hc:=hB.c2
 refine bj1 Tryz.func340 rfl trivial ?_ rfl
 simp only[Tryz.ntmps340,xb,ao,dk]
 gi_wp2
 gi_loopw[8] (fun i wr=>∃k:Nat,k≤N∧i=.int .i64 k∧J (zs.take k) wr∧kZ n₀ g W wr)
  (fun i _=>N-(intOf i).toNat)
 case atStart=>exact⟨0,be _,rfl,h0,og _ _ _⟩
 obtain⟨k,hk,rfl,hJs,hnx⟩:=hrel
 by_cases hlt:k<N
 ·have hlt':k<zs.length:=by rw[HL];exact hlt
  have hx:(zs[k]).1=k:=by
   have:=congrArg (·[k]?) HZ;simp[hlt',hlt]at this;exact this
  have ht:zs.take (k+1)=zs.take k++[zs[k]]:=aj hlt';obtain⟨fn,tmps,assign,body,hy,hR⟩:=hY _ (zs[k]) wr hJs mO;rw[hx]at hy;have HT:=ah ht;clear hx ht hc;gi_wp2;refine hR.mono ?_;rintro e W3(⟨rfl,hJ3,hk3⟩|⟨rfl,hJx3⟩)
  ·gi_wp2;go_roundw
   case rel=>exact⟨k+1,jS,lV,by rw[HT];exact hJ3,l_ hnx hk3⟩
   simp[intOf];omega
  gi_wp2;refine jF (bj7 rfl _ _ _) rfl ?_;refine⟨⟨_,rfl⟩,.inr ⟨_,?_,hJx3⟩⟩;rw[←HT];exact eS _ _
 obtain rfl:k=N:=jS
 gi_wp2
 go_end0
 exact⟨⟨_,rfl⟩,.inl ⟨_,cl (by rw[HL];exact ay _),hJs⟩⟩
theorem all_stops(n:Nat)(hn:1≤n)(Bw n₀ g N cap:Nat)(r c:Int)(A:Option jG)(zs:List (At N))(hzs:zs.map (·.1)=bu N)(hN:N≤65536)(hBw:Bw<n₀)(hg:Bw≠g)(w:jC)
 (hB:jR w Bw 216 #[jJ r,jJ c,.slice A N cap]):
 bl1 cz n Tryz.prog 340 #[jO Bw] (fun x:At N=>#[br .i64 (x.1:Int)]) (kZ n₀ g) (fun ys=>ys=zs) (fun pre=>pre <+: zs) N w:=fun l J Jx W hW _ _ hY h0=>
 all1_in n hn l Bw n₀ g N cap r c A zs hzs hN hBw hg J Jx hY W (hB.later hW) h0
theorem Pi(n:Nat)(hn:1≤n)(l Bw Bh n₀ g R C nn cap M:Nat)(A:Option jG)(h:Int)(hh:U h)(hR4:R≤4)(Mk:1≤C)(hC2:C≤32)(zs:List (At M))(hzs:zs.map (·.1)=places R C h)(hBw:Bw<n₀)(hg:Bw≠g)(Zd:Bh<n₀)(hgh:Bh≠g)(J Jx:List (At M)→jC→Prop)
 (W:jC) (hn0:n₀≤W.heap.size) (hJ:AbidesFrom W J)
 (hY:∀pre x W,J pre W→pre.length<R→bl4 cz (n-1) Tryz.prog l #[jJ (x.1:Int)] W fun e W'=>
  (e=.returned (.bool true)∧J (pre++[x]) W'∧kZ n₀ g W W')∨(e=.returned (.bool false)∧Jx (pre++[x]) W'))
 (hB:jR W Bw 216 #[jJ R,jJ C,.slice A nn cap]) (hB2:jR W Bh 22 #[jK h]) (h0:J [] W):
 bj2 cz n Tryz.prog 339 #[cG l,jO Bw,jO Bh] W fun e W'=>(∃v,e=.returned v)∧
  ((∃ys,ys=zs∧J ys W')∨(∃pre,pre <+: zs∧Jx pre W')):=by
 have hlen:zs.length=R:=by have:=congrArg ez hzs;simpa[Cd]using this
 have HZ:=ah hzs
 have HL:=ah hlen
 clear hzs hlen
 have hc:=hB.c0
 refine bj1 Tryz.func339 rfl trivial ?_ rfl
 simp only[Tryz.ntmps339,xb,ao,dk]
 gi_wp2
 gi_loopw[8] (fun i wr=>∃k:Nat,k≤R∧i=.int .i64 k∧J (zs.take k) wr∧kZ n₀ g W wr)
  (fun i _=>R-(intOf i).toNat)
 case atStart=>exact⟨0,be _,rfl,h0,og _ _ _⟩
 obtain⟨k,hk,rfl,hJs,hnx⟩:=hrel
 by_cases hlt:k<R
 ·have hlt':k<zs.length:=by rw[HL];exact hlt
  have hx:(zs[k]).1=place C h k:=by
   have:=congrArg (·[k]?) HZ;simp[hlt',hlt,places]at this;exact this
  have ht:zs.take (k+1)=zs.take k++[zs[k]]:=aj hlt';have HT:=ah ht;have HX:(((zs[k]).1:Nat):Int)=((place C h k:Nat):Int):=by rw[hx]
  have B1:=hB.but hnx hBw hg;have B2:=hB2.but hnx Zd hgh;have c0:=B1.c0;have c1:=B1.c1;have c2:=B1.c2;have d0:=B2.one;have z1:=B1.lt;have z2:=B2.lt;clear hx ht hc;have hkc:k*C≤128:=a_ (io (show k≤4 by omega) hC2) jS;have m1:0≤(k:Int)*(C:Int):=by rw[←eG];omega
  have m2:(k:Int)*(C:Int)≤128:=by rw[←eG];omega
  obtain⟨m3,m4⟩:=My (c:=C) jS k h;have hpl:((place C h k:Nat):Int)=(k:Int)*(C:Int)+ET C k h:=by unfold place;rw[Int.natCast_add,eG];omega
  rw[hpl]at HX;have w1:IntKind.i64.wrap ((k:Int)*(C:Int))=(k:Int)*(C:Int):=dv _ jS;have w2:IntKind.i64.wrap ((k:Int)*(C:Int)+ET C k h)=(k:Int)*(C:Int)+ET C k h:=dv _ jS;clear hpl;gi_wp2;gi_region_with(first
   |(
    refine⟨trivial,?_⟩
    refine(jI.2 (ae8 _ C A nn cap k h hh jS Mk hC2 _)).mono ?_
    rintro e W2⟨rfl,hb2⟩
    have hb3:Below wr wr W2:=Below.two (jQ wr).drew hb2
    have hJ1:=sF hJ hJs hb3
    obtain⟨fn,tmps,assign,body,hy,hR⟩:=hY _ (zs[k]) W2 hJ1 mO
    rw[HX]at hy
    have c1':=(B1.later hb3).c1)
   |(
    refine(hR.mono zE).mono ?_
    rintro e W3⟨b,rfl,hcase⟩))
  all_goals clear hy hR c1' w1 w2 HX
  all_goals cases b
  all_goals gi_wp2
  all_goals first
   |(
    refine jF (bj7 rfl _ _ _) rfl ?_
    refine⟨⟨_,rfl⟩,.inr ⟨_,?_,hcase⟩⟩
    rw[←HT];exact eS _ _)
   |(
    go_roundw
    case rel=>exact⟨k+1,jS,lV,by rw[HT];exact hcase.1,l_ hnx (l_ (pD (by have:=hnx.1;omega) hb3) hcase.2)⟩
    simp[intOf];omega)
 obtain rfl:k=R:=jS
 gi_wp2
 go_end0
 exact⟨⟨_,rfl⟩,.inl ⟨_,cl (by rw[HL];exact ay _),hJs⟩⟩
theorem zM(n:Nat)(hn:1≤n)(Bw Bh n₀ g R C nn cap M:Nat)(A:Option jG)(h:Int)(hh:U h)(hR4:R≤4)(Mk:1≤C)(hC2:C≤32)(zs:List (At M))(hzs:zs.map (·.1)=places R C h)(hBw:Bw<n₀)(hg:Bw≠g)(Zd:Bh<n₀)(hgh:Bh≠g)(w:jC)(hn0:n₀≤w.heap.size)
 (hB:jR w Bw 216 #[jJ R,jJ C,.slice A nn cap]) (hB2:jR w Bh 22 #[jK h]):
 bl1 cz n Tryz.prog 339 #[jO Bw,jO Bh] (fun x:At M=>#[br .i64 (x.1:Int)]) (kZ n₀ g) (fun ys=>ys=zs) (fun pre=>pre <+: zs) R w:=fun l J Jx W hW hJ _ hY h0=>
 Pi n hn l Bw Bh n₀ g R C nn cap M A h hh hR4 Mk hC2 zs hzs hBw hg Zd hgh J Jx W (by have:=hW.size;omega) hJ hY (hB.later hW) (hB2.later hW) h0
end
section
variable{P:bi3}{md:fD}{ops:Array bk0}{Q:bk7→Act→jC→Prop}{l n:Nat}
end
section
open Go.RowKit Go.Shelf
attribute [local go_sem] db
theorem TB(l:List Int)(p:Nat)(v:Int):(l.map (br .u64)).toArray.setIfInBounds p (.int .u64 v)=((l.set p v).map (br .u64)).toArray:=by simp[iJ]
def ChI(w:jC)(N g bw bt:Nat)(l:List Int)(f:Nat→Int→Int)(r c:Int)(cap:Nat)(to:jD)(pre:List (At N))(W:jC):Prop:=
 jR W g 22 ((lL f l (pre.map (·.1))).map (br .u64)).toArray∧jR W bw 216 #[jJ r,jJ c,.slice (aC g) N cap]∧jR W bt 490 #[to]∧(bY w W g)
variable{N g B:Nat}
theorem MT{bw bt:Nat}{f:Nat→Int→Int}{cap:Nat}{to:jD}(hB:w.heap.size≤B):bj3 B (ChI w N g bw bt l f r c cap to):=by
 rintro s W W' row⟨h1,h2,h3,h4⟩ hg hr;have hr':∀r,row=some r→(aH W r):=fun r e=>(hr r e).2;exact⟨h1.kept hg hr',h2.kept hg hr',h3.kept hg hr',⟨hg.os.trans h4.os,hg.tape.trans h4.tape,hg.output.trans h4.output,a_ h4.size hg.size,fun i hi hne=>(hg.block i (cn hi h4.size) (fun e=>by have:=(hr i e.symm).1;omega)).trans (h4.block i hi hne)⟩⟩
theorem vJ(w:jC)(N g cap R:Nat)(r c:Int)(l:List Int)(hl:l.length=N)(hUl:Us l)(hN:N≤65536)(G:jR w g 22 (l.map (br .u64)).toArray)(zs:List (At N))
 (gf:Nat) (lb:Array jD) (eg:∀args w,(callFunc gf args).run Tryz.prog w=.ok (.enter gf args) w) {Sp:List (At N)→Prop}
 (hseq:bl1 cz 5 Tryz.prog gf lb (fun x:At N=>#[br .i64 (x.1:Int)]) (kZ w g) (fun ys=>ys=zs) Sp R w)
 (tf:Nat) (tb:Array jD) (et:∀args w,(callFunc tf args).run Tryz.prog w=.ok (.enter tf args) w) (f:Nat→Int→Int) (hf:∀p o,U o→U (f p o))
 (hto:∀(x:At N)(o:Int)(W:jC),U o→kZ w.heap.size g w W→jE Tryz.prog tf (#[.int .i64 (x.1:Int),.int .u64 o]++tb) W fun e W'=>e=.returned (.int .u64 (f x.1 o))∧(bJ W W')):
 bj2 cz 6 Tryz.prog 332 #[.agg #[jJ r,jJ c,.slice (aC g) N cap],lI 38 gf lb,lI 38 tf tb] w fun e w'=>(∃v,e=.returned v)∧
  jR w' g 22 ((lL f l (zs.map (·.1))).map (br .u64)).toArray∧(bY w w' g):=by
 have hgl:=G.lt
 have HLEN:=ah hl
 clear hl
 refine bi7 Tryz.func332 rfl trivial ?_ rfl
 simp only[Tryz.ntmps332,xb,ao,dk]
 refine bi4.2 ?_
 go_wp2_with fail
 have hst:ChI w N g w (w.heap.size+1) l f r c cap (lI 38 tf tb) [] ((w.alloc (.cells #[jJ r,jJ c,.slice (aC g) N cap] 216)).alloc (.cells #[lI 38 tf tb] 490)):=by
  refine⟨(G.alloc _).alloc _,(jR.new w _ _).alloc _,?_,kH (jP (jP (jQ _) _) _) _⟩;have:=jR.new (w.alloc (.cells #[jJ r,jJ c,.slice (aC g) N cap] 216)) 490 #[lI 38 tf tb];rwa[b_]at this
 have hb0:Below w w ((w.alloc (.cells #[jJ r,jJ c,.slice (aC g) N cap] 216)).alloc (.cells #[lI 38 tf tb] 490)):=jP (jP (jQ _) _) _
 have hsz:((w.alloc (.cells #[jJ r,jJ c,.slice (aC g) N cap] 216)).alloc (.cells #[lI 38 tf tb] 490)).heap.size=w.heap.size+2:=lV
 generalize((w.alloc (.cells #[jJ r,jJ c,.slice (aC g) N cap] 216)).alloc (.cells #[lI 38 tf tb] 490))=W0 at*
 refine(bi4 (n:=6)).1 ?_
 refine bj9 rfl jS (gf:=gf) (lb:=lb) rfl trivial eg hseq (fun h k=>l_ h k) (qf jS) hb0 (fun _=>rfl)
  (ChI w N g w (w.heap.size+1) l f r c cap (lI 38 tf tb)) (fun _ _ _=>False) (MT jS) (fun _ _ _ _ _ h _ _=>h) hst
  (fun x=>{tmps:=#[.agg #[jJ r,jJ c,.slice (aC g) N cap],lI 38 gf lb,lI 38 tf tb,jO w,undef,.pointer (some (aE w)),jJ (x.1:Int),lI 38 gf lb,jJ (x.1:Int),undef,undef,undef,undef,undef,undef,undef,undef,undef,undef,undef,undef,undef,undef],defers:=[]}) ?assign ?body ?done ?stop
 case assign=>
  intro l x W K hK;gi_wp2;exact hK
 case body=>
  rintro l' pre⟨p,hp⟩ W⟨hG,hw,ht,hgr⟩ hlt;obtain⟨L,hL⟩:∃L,lL f l (pre.map (·.1))=L:=⟨_,rfl⟩;have HL:Hid (lL f l ((pre++[(⟨p,hp⟩:At N)]).map (·.1))=UR f L p):=by
   show _=_;rw[dH,←hL];exact Ik f l _ p
  have hlen:L.length=N:=by rw[←hL];exact(mT _ _ _).trans HLEN
  have hUL:Us L:=by rw[←hL];exact Us.lL hf hUl
  rw[hL]at hG;clear hL;obtain⟨o,ho⟩:∃o,nth L p=o:=⟨_,rfl⟩;have hUo:U o:=by rw[←ho];exact rI hUL p
  have cg:W.cell? ⟨g,p,none⟩=some (.int .u64 o):=by
   rw[hG.cell,←ho];have hx:p<L.length:=by rw[hlen];exact hp
   simp[nth,hx]
  have HO:Hid (UR f L p=L.set p (f p o)):=by show UR f L p=_;rw[UR,ho]
  have HG:=ah hG;have HW:=ah hw;have HTO:=ah ht;have SO:=ah hlen;have fg:=hG.frozen p;have c2:=hw.c2;have d0:=ht.one;have z1:=hw.lt;have z2:=ht.lt;have z3:=hG.lt;have hx1:(0:Int)≤p:=jS;have hx2:((p:Nat):Int)<(N:Int):=jS;have YA:Hid (kZ w g w W.drew):=⟨hgr.size,(p8 aa hgr).2⟩;clear hlen ho hG hw ht hUL;gi_wp2_with fail;refine qQ (S:=fun w'=>w'.cell? ⟨w,2,none⟩=some (.slice (aC g) N cap)∧w'.cell? (aE w)=some (lI 38 tf tb)) oo oo (by rintro⟨_,_,h⟩;exact h) ⟨c2,d0⟩ (fun hHeld=>?_);refine re hHeld ?_;refine pL 11 fun K hK=>?_;go_simp;refine hK.out _ _ ⟨c2,d0⟩ (fun hHeld=>?_);clear hK K;refine az ?_;refine pL 12 fun K hK=>?_;go_simp;refine(hto ⟨p,hp⟩ o W.drew hUo YA).mono ?_;rintro e W2⟨rfl,hb2⟩;have hb3:Below W W W2:=Below.two (jQ W).drew hb2;have c2':=(HW.later hb3).c2;have d0':=(HTO.later hb3).one;have cg':=(hb3.cell (p:=⟨g,p,none⟩) z3).trans cg;have fg':=(HG.later hb3).frozen p;refine hK.out _ _ ⟨c2',d0'⟩ (fun hHeld=>?_);clear hK K;refine az ?_;refine re hHeld ?_;refine pL 14 fun K hK=>?_;go_simp;refine hK.out _ _ ⟨((HW.later hb3).far (p:=⟨g,p,none⟩) (by show w.heap.size≠g;omega) _).c2,((HTO.later hb3).far (p:=⟨g,p,none⟩) (by show w.heap.size+1≠g;omega) _).one⟩ (fun hHeld=>?_);clear hK K;refine az ?_;refine hdn ?_;refine⟨(ky hb3).trans (b7 _ _ _),l_ (pD hgr.size hb3) (p8 (a_ hgr.size hb3.size) (k6 W2 g p _)),?_,(HW.later hb3).far (by show w.heap.size≠g;omega) _,(HTO.later hb3).far (by show w.heap.size+1≠g;omega) _,jW (jW hgr (kH hb3 _)) (k6 W2 g p _)⟩;rw[HL,HO];have:=(HG.later hb3).kY p (.int .u64 (f p o));rwa[TB]at this
 case done=>
  rintro D ys W hD rfl⟨hG,hw,ht,hgr⟩ hK;gi_wp2;refine⟨lV,.inl ⟨_,_,rfl,bi2 hK,?_⟩⟩;have hr':∀r,some D=some r→(aH W r):=fun r e=>by cases e;exact⟨_,hK,rfl⟩
  exact⟨.tuple #[],bj7 rfl _ _ _,⟨_,rfl⟩,hG.kept (bj5 _ D cJ) hr',(MT (B:=W0.heap.size) jS ys W _ (some D) ⟨hG,hw,ht,hgr⟩ (bj5 _ D cJ) (fun r e=>by cases e;exact⟨hD,_,hK,rfl⟩)).2.2.2⟩
 rintro D c pre W _ _ h _
 exact h.elim
end
theorem Sx(p:Nat)(o n:Int)(ho:U o)(hn:U n)(b:Nat)(w:jC)(hB:jR w b 22 #[jK n]):
 jE Tryz.prog 334 #[jJ p,jK o,jO b] w fun e w'=>e=.returned (.int .u64 (sat o n))∧Below w w w':=by
 have hc:=hB.one
 go_in
 go_wp2_with fail
 have B2:=jR.new w 22 #[jK o,jK n]
 refine(oa o n ho hn _ w 0 2 (B2.cell 0) (B2.cell 1)).mono ?_
 rintro e w'⟨rfl,rfl⟩
 go_wp2
 go_ret
 exact⟨rfl,jP (jQ _) _⟩
theorem J3(p:Nat)(o:Int)(ho:U o)(b:Nat)(r c:Int)(A:Option jG)(m:List Int)(cap:Nat)(hm:Us m)(hp:p<m.length)(hl:m.length≤65536)(w:jC)(hB:jR w b 131 #[jJ r,jJ c,jN A m cap])(hS:Sl w w A m):
 jE Tryz.prog 338 #[jJ p,jK o,jO b] w fun e w'=>e=.returned (.int .u64 (sat o (nth m p)))∧Below w w w':=by
 have hc:=hB.c2
 obtain⟨g,off,rfl,hg,hcs⟩:=hS.at_ jS
 have hx:=hcs p hp
 have hU:=rI hm p
 obtain⟨x,hx'⟩:∃x,nth m p=x:=⟨_,rfl⟩
 rw[hx']at hx hU⊢
 have HM:=ah hx'
 clear hcs hx'
 go_in
 go_wp2_with fail
 have B2:=jR.new w 22 #[jK o,jK x]
 refine(oa o x ho hU _ w 0 2 (B2.cell 0) (B2.cell 1)).mono ?_
 rintro e w'⟨rfl,rfl⟩
 go_wp2
 go_ret
 exact⟨rfl,jP (jQ _) _⟩
def lA(H p:Nat):Nat:=p/H*(2*H)+p%H
theorem RJ{R H p:Nat}(hH:0<H)(hp:p<R*H):lA H p+H<R*(2*H):=by
 have h1:p/H<R:=iZ (by rw[Nat.mul_comm];exact hp);have h2:=jj p hH;have h3:(p/H+1)*(2*H)≤R*(2*H):=fZ _ h1;rw[iY]at h3;unfold lA;omega
theorem Ka(p R H:Nat)(o:Int)(hH:0<H)(hH2:H≤32)(hR:R≤4)(hp:p<R*H)(b bx:Nat)(A A2:Option jG)(m:List Int)(n2 cap2 cap:Nat)(hm:Us m)(hl:m.length=R*(2*H))(w:jC)
 (hW:jR w b 216 #[jJ R,jJ H,.slice A2 n2 cap2]) (hB:jR w bx 131 #[jJ R,jJ (2*H:Nat),jN A m cap]) (hS:Sl w w A m):
 jE Tryz.prog 337 #[jJ p,jK o,jO b,jO bx] w fun e w'=>e=.returned (.int .u64 (sat (nth m (lA H p)) (nth m (lA H p+H))))∧Below w w w':=by
 have hf:=RJ hH hp
 have hlm:lA H p+H<m.length:=jS
 have hcap:R*(2*H)≤256:=a_ (io hR (show 2*H≤64 by omega)) jS
 obtain⟨g,off,rfl,hg,hcs⟩:=hS.at_ jS
 have x1:=hcs (lA H p) jS
 have x2:=hcs (lA H p+H) jS
 have u1:=rI hm (lA H p)
 have u2:=rI hm (lA H p+H)
 generalize nth m (lA H p)=v1 at*
 generalize nth m (lA H p+H)=v2 at*
 have hfm:(p:Int)/(H:Int)*((2*H:Nat):Int)+(p:Int)%(H:Int)=((lA H p:Nat):Int):=by unfold lA;simp
 have hpq:p/H<R:=iZ (by rw[Nat.mul_comm];exact hp)
 have hpi:(p:Int)/(H:Int)=((p/H:Nat):Int):=lV
 have hw3:wrap64 (wrap64 (wrap64 ((p:Int)/(H:Int))*(2*(H:Int)))+(p:Int)%(H:Int))=((lA H p:Nat):Int):=by
  have e2:((2*H:Nat):Int)=2*(H:Int):=jS;rw[e2]at hfm;have h0:0≤(p:Int)%(H:Int):=Int.emod_nonneg _ jS;have h1:(p:Int)%(H:Int)<H:=jk _ jS;have h3:0≤(p:Int)/(H:Int):=Int.ediv_nonneg jS jS;have h2:0≤(p:Int)/(H:Int)*(2*(H:Int)):=Int.mul_nonneg h3 jS;rw[e_ ((p:Int)/(H:Int)) jS,e_ ((p:Int)/(H:Int)*(2*(H:Int))) jS,e_ _ jS];exact hfm
 clear hpi hpq
 have b2:=hW.c1
 have z1:=hW.lt
 have z2:=hB.lt
 have b3:=hB.c1
 have b4:=hB.c2
 have hH':(H:Int)≠0:=jS
 have hml:m.length≤256:=jS
 clear hcs hl hf hcap
 go_in
 go_wp2
 go_quiet(fail)
 rw[hw3]
 clear hfm hw3
 generalize lA H p=q at*
 have hq1:(0:Int)≤q:=jS
 have hq2:(q:Int)<m.length:=jS
 have hq3:(0:Int)≤q+(H:Int):=jS
 have hq4:(q:Int)+(H:Int)<m.length:=jS
 have hq5:IntKind.i64.wrap ((q:Int)+(H:Int))=(q:Int)+(H:Int):=dv _ jS
 have hq7:q<m.length:=jS
 have hq6:((q:Int)+(H:Int)).toNat=q+H:=jS
 go_wp2
 go_region_held3 (fun w'=>w'.cell? ⟨b,1,none⟩=some (.int .i64 H)∧w'.cell? ⟨bx,2,none⟩=some (.slice (bH g off) m.length cap)∧w'.cell? ⟨g,off+q,none⟩=some (.int .u64 v1)∧w'.cell? ⟨g,off+(q+H),none⟩=some (.int .u64 v2)) (go_keep)
  (first|(go_at_call 335;refine(oa v1 v2 u1 u2 _ w 0 2 ?_ ?_).mono ?_;(exact(jR.new (w.drewN _) 22 #[jK v1,jK v2]).cell 0);(exact(jR.new (w.drewN _) 22 #[jK v1,jK v2]).cell 1);rintro e w'⟨rfl,rfl⟩))
 go_wp2
 go_ret
 exact⟨rfl,jP (below_drewN (jQ _) _) _⟩
theorem Il(X:jC)(g R C Bw Bh bn cap:Nat)(h n:Int)(hh:U h)(hn:U n)(l:List Int)(hl:l.length=R*C)(hU:Us l)(hR:R≤4)(Mk:1≤C)(hC2:C≤32)(G:jR X g 22 (l.map (br .u64)).toArray)
 (hBw:jR X Bw 216 #[jJ R,jJ C,.slice (aC g) l.length cap]) (Zd:jR X Bh 22 #[jK h]) (hbn:jR X bn 22 #[jK n]) (n1:Bw≠g) (n2:Bh≠g) (n3:bn≠g):
 jE Tryz.prog 332 #[.agg #[jJ R,jJ C,.slice (aC g) l.length cap],.func (.func 339) #[] #[jO Bw,jO Bh],.func (.func 334) #[] #[jO bn]] X fun e w'=>(∃v,e=.returned v)∧
  jR w' g 22 ((lL (fun _ o=>sat o n) l (places R C h)).map (br .u64)).toArray∧(bY X w' g):=by
 have hm:R*C≤128:=a_ (io hR hC2) jS
 obtain⟨zs,hzs⟩:=mH (N:=l.length) (places R C h) (by rw[hl];exact CO Mk h)
 have:=vJ X l.length g cap R R C l rfl hU jS G zs 339 #[jO Bw,jO Bh] (enters_of Tryz.func339 oo rfl)
  (zM 5 jS Bw Bh X g R C l.length cap l.length (aC g) h hh hR Mk hC2 zs hzs hBw.lt n1 Zd.lt n2 X aa hBw Zd)
  334 #[.pointer (aC bn)] (enters_of Tryz.func334 oo rfl) (fun _ o=>sat o n) (fun _ o ho=>uQ ho.1 hn.1)
  (fun x o W ho hk=>Sx x.1 o n ho hn bn W (hbn.but hk hbn.lt n3))
 rw[hzs]at this
 exact jI.1 this
def xX(x:Cm)(h n:Int):Cm×Int:=if kP x.r x.c x.l.length=true then(⟨x.r,x.c,lL (fun _ o=>sat o n) x.l (places x.r.toNat x.c.toNat h)⟩,0)else(Cm.none,80)
theorem add_any(r c:Int)(A:Option jG)(l:List Int)(cap:Nat)(h n:Int)(hh:U h)(hn:U n)(hU:Us l)(w:jC)(hS:Sl w w A l):
 jE Tryz.prog 327 #[bR r c A l cap,jK h,jK n] w (BK w (xX ⟨r,c,l⟩ h n)):=by
 have DA:Below w w (((w.alloc (aK r c A l cap)).alloc (cD n)).alloc (rO 66)):=jP (jP (jP (jQ _) _) _) _
 have Bn:=ah ((jR.new (w.alloc (aK r c A l cap)) 22 #[jK n]).alloc (rO 66))
 have Y:=ah (jR.new ((w.alloc (aK r c A l cap)).alloc (cD n)) 131 #[jJ 0,jJ 0,jM])
 have HS:=ah (hS.later DA)
 simp only[b_]at Bn Y
 clear hS
 go_in
 go_wp2_with fail
 refine(nI r c A l cap _ HS).mono ?_
 rintro e w1⟨hb1,⟨hr,g,hg,rfl,hblk⟩|⟨hf,s,rfl⟩⟩
 ·have HR:Hid (xX ⟨r,c,l⟩ h n=(⟨r,c,lL (fun _ o=>sat o n) l (places r.toNat c.toNat h)⟩,0)):=by show xX _ _ _=_;rw[xX,if_pos hr]
  obtain⟨hs,hl⟩:=lh hr;obtain⟨R,C,rfl,rfl,q1,q2,q3⟩:=rD hs;have HL:Hid (l.length=R*C):=by show l.length=_;rw[←eG]at hl;omega
  have Mk:1≤C:=jS;have hC2:C≤32:=jS;have hg':w.heap.size+3≤g:=by simpa using hg
  replace Bn:=ah (Bn.later hb1);replace Y:=ah (Y.later hb1);have T1:=Below.two DA hb1;have G:=ah hblk;clear hblk hb1 hg hl hs hr q3;go_wp2_with fail;have Z:=ah (jR.new w1 216 #[jJ R,jJ C,.slice (aC g) l.length l.length]);replace Bn:=ah (Bn.alloc (.cells #[jJ R,jJ C,.slice (aC g) l.length l.length] 216));replace Y:=ah (Y.alloc (.cells #[jJ R,jJ C,.slice (aC g) l.length l.length] 216));have zg:=G.lt;replace G:=ah (G.alloc (.cells #[jJ R,jJ C,.slice (aC g) l.length l.length] 216));replace T1:=jP T1 (.cells #[jJ R,jJ C,.slice (aC g) l.length l.length] 216);generalize w1.alloc (.cells #[jJ R,jJ C,.slice (aC g) l.length l.length] 216)=W at*
  have x0:=Z.c0;have x1:=Z.c1;have x2:=Z.c2;have z0:=Y.lt;have z1:=Bn.lt;have z2:=Z.lt;have z3:=G.lt;have KC:Hid (∀X:jC,X=(W.drew.alloc (.cells #[jJ R,jJ C,.slice (aC g) l.length l.length] 216)).alloc (cD h)→jE Tryz.prog 332 #[.agg #[jJ R,jJ C,.slice (aC g) l.length l.length],.func (.func 339) #[] #[jO W,.pointer (some (aE W))],.func (.func 334) #[] #[.pointer (some (aE w))]] X fun e w'=>(∃v,e=.returned v)∧
   jR w' g 22 ((lL (fun _ o=>sat o n) l (places R C h)).map (br .u64)).toArray∧(bY X w' g)):=by
   rintro X rfl
   have b1:=(jR.new W.drew 216 #[jJ R,jJ C,.slice (aC g) l.length l.length]).alloc (cD h)
   have b2:=jR.new (W.drew.alloc (.cells #[jJ R,jJ C,.slice (aC g) l.length l.length] 216)) 22 #[jK h]
   rw[b_]at b2
   exact Il _ g R C W (W.heap.size+1) (w.heap.size+1) l.length h n hh hn l HL hU q2 Mk hC2 ((G.drew.alloc _).alloc _) b1 b2 ((Bn.drew.alloc _).alloc _) jS jS jS
  go_region_held3 (fun w'=>w'.cell? ⟨w1,0,none⟩=some (.int .i64 R)∧w'.cell? ⟨w1,1,none⟩=some (.int .i64 C)∧w'.cell? ⟨w1,2,none⟩=some (.slice (aC g) l.length l.length)) (first|go_keep|exact⟨y0,y1,y2⟩)
   (first
    |(go_at_call 333;refine(Fx _ _ _ _ _ _ _).mono ?_;rintro e w'⟨rfl,rfl⟩)
    |(go_at_call 332;refine(KC _ rfl).mono ?_;rintro e w2⟨⟨v,rfl⟩,hG2,hg2⟩;have Z2:=((Z.drew.alloc _).alloc _).grown hg2 (fun e=>TP);have y0:=Z2.c0;have y1:=Z2.c1;have y2:=Z2.c2;have Y2:=ah (((Y.drew.alloc _).alloc _).grown hg2 (fun e=>TP));have T2:Below w w w2:=ly (jP (jP T1.drew _) _) hg2 jS;have G2:=ah hG2;have f0:=Y2.frozen 0;have f1:=Y2.frozen 1;have f2:=Y2.frozen 2;have u0:=Y2.c0;have u1:=Y2.c1;have u2:=Y2.c2;have ne1:w1.heap.size≠w.heap.size+1+1:=jS))
  all_goals
   clear hG2 hg2 Z2 KC x0 x1 x2;have hq2:=Y2.lt;go_wp2_with fail;have K:=Y2.zS (x:=.int .i64 R) (y:=.int .i64 C) (z:=.slice (aC g) l.length l.length);have k0:=K.c0;have k1:=K.c1;have k2:=K.c2;refine jF (v:=.tuple #[.agg #[jJ R,jJ C,.slice (aC g) l.length l.length],jJ 0]) (by simp[results,Tryz.results327,go_sem,k0,k1,k2]) rfl
    ⟨nw T2 jS _ _ _,.slice (aC g) l.length l.length,by rw[HR],?_⟩
   rw[HR,dM,dM];refine nh Y2 ?_;have:=jR.held (base:=w.heap.size) G2 jS;rwa[mT]at this
 have HR:Hid (xX ⟨r,c,l⟩ h n=(Cm.none,80)):=by show xX _ _ _=_;rw[xX,if_neg (by simp[hf])]
 replace Y:=ah (Y.later hb1)
 have T1:=Below.two DA hb1
 have z1:=Y.lt
 clear hf hb1
 go_wp2_with fail
 refine(kR s _).mono ?_
 rintro e w'⟨rfl,rfl⟩
 replace Y:=ah ((Y.alloc bP).alloc (lz 53 s))
 replace T1:=jP (jP T1 bP) (lz 53 s)
 generalize(w1.alloc bP).alloc (lz 53 s)=W at*
 have f0:=Y.frozen 0
 have f1:=Y.frozen 1
 have f2:=Y.frozen 2
 have u0:=Y.c0
 have u1:=Y.c1
 have u2:=Y.c2
 go_wp2_with fail
 have K:=Y.zS (x:=.int .i64 0) (y:=.int .i64 0) (z:=.slice none 0 0)
 have k0:=K.c0
 have k1:=K.c1
 have k2:=K.c2
 refine jF (v:=.tuple #[cX,jJ 80]) (by simp[results,Tryz.results327,go_sem,k0,k1,k2]) rfl
  ⟨nw T1 jS _ _ _,jM,by rw[HR];rfl,?_⟩
 rw[HR]
 exact nh Y (rN _ _)
variable{g:Nat}
theorem Jp{X W:jC}{n₀:Nat}{m:List Int}(h:Sl X X A m)(hk:kZ X g X W)(hne:∀ad,A=some ad→ad.block≠g):Sl W W A m:=fun hl=>by
 obtain⟨b,off,e,hb,hc⟩:=h hl;exact⟨b,off,e,cn hb hk.1,fun j u hj=>(co (hk.2 b hb (hne _ e))).trans (hc j u hj)⟩
theorem xT(X:jC)(g Bw by_ cap kC:Nat)(r c ry cy:Int)(l m:List Int)(A:Option jG)(hl:l.length≤65536)(hm:m.length=l.length)(hU:Us l)(XF:Us m)(G:jR X g 22 (l.map (br .u64)).toArray)
 (hBw:jR X Bw 216 #[jJ r,jJ c,.slice (aC g) l.length cap]) (hby:jR X by_ 131 #[jJ ry,jJ cy,jN A m kC]) (hS:Sl X X A m) (hne:∀ad,A=some ad→ad.block≠g) (n1:Bw≠g) (n3:by_≠g):
 jE Tryz.prog 332 #[.agg #[jJ r,jJ c,.slice (aC g) l.length cap],.func (.func 340) #[] #[jO Bw],.func (.func 338) #[] #[jO by_]] X fun e w'=>(∃v,e=.returned v)∧
  jR w' g 22 ((lL (fun p o=>sat o (nth m p)) l (bu l.length)).map (br .u64)).toArray∧(bY X w' g):=by
 obtain⟨zs,hzs⟩:=mH (N:=l.length) (bu l.length) (fun p hp=>dh.1 hp)
 have:=vJ X l.length g cap l.length r c l rfl hU hl G zs 340 #[jO Bw] (enters_of Tryz.func340 oo rfl)
  (all_stops 5 jS Bw X g l.length cap r c (aC g) zs hzs hl hBw.lt n1 X hBw)
  338 #[.pointer (aC by_)] (enters_of Tryz.func338 oo rfl) (fun p o=>sat o (nth m p)) (fun p o ho=>uQ ho.1 (rI XF p).1)
  (fun x o W ho hk=>J3 x.1 o ho by_ ry cy A m kC XF (by rw[hm];exact x.2) jS W (hby.but hk hby.lt n3) (Jp (n₀:=0) hS hk hne))
 rw[hzs]at this
 exact jI.1 this
def ni(x y:Cm):Cm×Int:=if kP x.r x.c x.l.length=true∧kP y.r y.c y.l.length=true∧y.r=x.r∧y.c=x.c then(⟨x.r,x.c,lL (fun p o=>sat o (nth y.l p)) x.l (bu x.l.length)⟩,0)else(Cm.none,80)
section
variable(r c ry cy:Int)(A B:Option jG)(l m:List Int)(cap kC:Nat)(hU:Us l)(XF:Us m)(w:jC)
abbrev Ej:jC:=((w.alloc (aK r c A l cap)).alloc (aK ry cy B m kC)).alloc (rO 66)
theorem sf:Below w w (Ej r c ry cy A B l m cap kC w):=jP (jP (jP (jQ _) _) _) _
theorem Gs:jR (Ej r c ry cy A B l m cap kC w) w 131 #[jJ r,jJ c,jN A l cap]:=((jR.new w _ _).alloc _).alloc _
theorem Gq:jR (Ej r c ry cy A B l m cap kC w) (w.heap.size+1) 131 #[jJ ry,jJ cy,jN B m kC]:=by
 have h:=(jR.new (w.alloc (aK r c A l cap)) 131 #[jJ ry,jJ cy,jN B m kC]).alloc (rO 66);rwa[b_]at h
theorem Ao:jR (Ej r c ry cy A B l m cap kC w) (aN w) 131 #[jJ 0,jJ 0,jM]:=by
 have h:=jR.new ((w.alloc (aK r c A l cap)).alloc (aK ry cy B m kC)) 131 #[jJ 0,jJ 0,jM];rwa[b_,b_]at h
end
theorem vx(r c ry cy:Int)(A B:Option jG)(l m:List Int)(cap kC:Nat)(w:jC)(hS:Sl w w A l)(hr:kP r c l.length=false):
 jE Tryz.prog 330 #[bR r c A l cap,bR ry cy B m kC] w (BK w (ni ⟨r,c,l⟩ ⟨ry,cy,m⟩)):=by
 have HR:Hid (ni ⟨r,c,l⟩ ⟨ry,cy,m⟩=(Cm.none,80)):=by show ni _ _=_;rw[ni,if_neg (by simp[hr])]
 have DA:=sf r c ry cy A B l m cap kC w
 have Y:=ah (Ao r c ry cy A B l m cap kC w)
 have HS:=ah (hS.later DA)
 have H:=ah hr
 clear hr hS
 go_in
 go_wp2_with fail
 refine(nI r c A l cap _ HS).mono ?_
 rintro e w1⟨hb1,⟨hr,_⟩|⟨hf,s,rfl⟩⟩
 ·rw[H]at hr;cases hr
 replace Y:=ah (Y.later hb1)
 have T1:=Below.two DA hb1
 have z1:=Y.lt
 clear hf hb1
 go_wp2_with fail
 refine(kR s _).mono ?_
 rintro e w'⟨rfl,rfl⟩
 replace Y:=ah ((Y.alloc bP).alloc (lz 53 s))
 replace T1:=jP (jP T1 bP) (lz 53 s)
 generalize(w1.alloc bP).alloc (lz 53 s)=W at*
 have f0:=Y.frozen 0
 have f1:=Y.frozen 1
 have f2:=Y.frozen 2
 have u0:=Y.c0
 have u1:=Y.c1
 have u2:=Y.c2
 go_wp2_with fail
 have K:=Y.zS (x:=.int .i64 0) (y:=.int .i64 0) (z:=.slice none 0 0)
 have k0:=K.c0
 have k1:=K.c1
 have k2:=K.c2
 refine jF (v:=.tuple #[cX,jJ 80]) (by simp[results,Tryz.results330,go_sem,k0,k1,k2]) rfl
  ⟨nw T1 jS _ _ _,jM,by rw[HR];rfl,?_⟩
 rw[HR]
 exact nh Y (rN _ _)
theorem vw(r c ry cy:Int)(b:Bool)(A B:Option jG)(l m:List Int)(cap kC:Nat)(w:jC)(hS:Sl w w A l)(Rw:Sl w w B m)(hr:kP r c l.length=true)(hy:kP ry cy m.length=b)(hc:b=false∨(b=true∧¬ry=r)∨(b=true∧ry=r∧¬cy=c)):
 jE Tryz.prog 330 #[bR r c A l cap,bR ry cy B m kC] w (BK w (ni ⟨r,c,l⟩ ⟨ry,cy,m⟩)):=by
 have HR:Hid (ni ⟨r,c,l⟩ ⟨ry,cy,m⟩=(Cm.none,80)):=by show ni _ _=_;rw[ni,if_neg fun h=>(by rcases hc with e|⟨-,q⟩|⟨-,-,q⟩;(have:=h.2.1;rw[hy,e]at this;cases this);exact q h.2.2.1;exact q h.2.2.2)]
 have HY:=ah hy
 have HCC:=ah hc
 clear hy hc
 have DA:=sf r c ry cy A B l m cap kC w
 have X:=ah (Gs r c ry cy A B l m cap kC w)
 have Y:=ah (Gq r c ry cy A B l m cap kC w)
 have R:=ah (Ao r c ry cy A B l m cap kC w)
 have HS:=ah (hS.later DA)
 have Ls:=ah (Rw.later DA)
 have H:=ah hr
 clear hr hS Rw
 go_in
 go_wp2_with fail
 refine(nI r c A l cap _ HS).mono ?_
 rintro e w1⟨hb1,⟨_,g,hg,rfl,hblk⟩|⟨hf,_⟩⟩
 rotate_left
 ·rw[H]at hf;cases hf
 have YY:=Y.later hb1
 have y0:=YY.c0
 have y1:=YY.c1
 have y2:=YY.c2
 have z0:=YY.lt
 clear YY
 replace X:=ah ((X.later hb1).alloc (.cells #[jJ r,jJ c,.slice (aC g) l.length l.length] 216))
 replace Y:=ah ((Y.later hb1).alloc (.cells #[jJ r,jJ c,.slice (aC g) l.length l.length] 216))
 replace R:=ah ((R.later hb1).alloc (.cells #[jJ r,jJ c,.slice (aC g) l.length l.length] 216))
 have G:=ah (jR.alloc hblk (.cells #[jJ r,jJ c,.slice (aC g) l.length l.length] 216))
 have Z:=ah (jR.new w1 216 #[jJ r,jJ c,.slice (aC g) l.length l.length])
 replace Ls:=ah ((Ls.later hb1).later (jP (jQ _) (.cells #[jJ r,jJ c,.slice (aC g) l.length l.length] 216)))
 have T1:=jP (Below.two DA hb1) (.cells #[jJ r,jJ c,.slice (aC g) l.length l.length] 216)
 have hg':w.heap.size+3≤g:=by simpa using hg
 have hgw:g<w1.heap.size:=oh hblk
 clear hblk hb1 hg
 go_wp2_with fail
 clear y0 y1 y2 z0
 generalize w1.alloc (.cells #[jJ r,jJ c,.slice (aC g) l.length l.length] 216)=W at*
 refine(j_ ry cy B m.length kC _).mono ?_
 rintro e w'⟨rfl,rfl⟩
 rw[HY]
 replace R:=ah (R.alloc (aK ry cy B m kC))
 replace X:=ah (X.alloc (aK ry cy B m kC))
 replace Y:=ah (Y.alloc (aK ry cy B m kC))
 replace Z:=ah (Z.alloc (aK ry cy B m kC))
 replace G:=ah (G.alloc (aK ry cy B m kC))
 replace Ls:=ah (Ls.later (jP (jQ _) (aK ry cy B m kC)))
 replace T1:=jP T1 (aK ry cy B m kC)
 generalize W.alloc (aK ry cy B m kC)=W2 at*
 have x0:=X.c0
 have x1:=X.c1
 have y0:=Y.c0
 have y1:=Y.c1
 rcases HCC with rfl|⟨rfl,hne⟩|⟨rfl,rfl,hne⟩
 all_goals
  go_wp2_with fail;refine(kR _ _).mono ?_;rintro e w'⟨rfl,rfl⟩;replace R:=ah (R.alloc (rO 17));replace T1:=jP T1 (rO 17);generalize W2.alloc (rO 17)=W3 at*
  have f0:=R.frozen 0;have f1:=R.frozen 1;have f2:=R.frozen 2;have u0:=R.c0;have u1:=R.c1;have u2:=R.c2;go_wp2_with fail;have K:=R.zS (x:=.int .i64 0) (y:=.int .i64 0) (z:=.slice none 0 0);have k0:=K.c0;have k1:=K.c1;have k2:=K.c2;refine jF (v:=.tuple #[cX,jJ 80]) (by simp[results,Tryz.results330,go_sem,k0,k1,k2]) rfl
   ⟨nw T1 jS _ _ _,jM,by rw[HR];rfl,?_⟩
  rw[HR];exact nh R (rN _ _)
theorem vv(r c:Int)(A B:Option jG)(l m:List Int)(cap kC:Nat)(w:jC)(hS:Sl w w A l)(Rw:Sl w w B m)(hr:kP r c l.length=true)(hy:kP r c m.length=true)(hU:Us l)(XF:Us m):
 jE Tryz.prog 330 #[bR r c A l cap,bR r c B m kC] w (BK w (ni ⟨r,c,l⟩ ⟨r,c,m⟩)):=by
 have HR:Hid (ni ⟨r,c,l⟩ ⟨r,c,m⟩=(⟨r,c,lL (fun p o=>sat o (nth m p)) l (bu l.length)⟩,0)):=by show ni _ _=_;rw[ni,if_pos ⟨hr,hy,rfl,rfl⟩]
 have hlm:m.length=l.length:=by have h1:=(lh hr).2;have h2:=(lh hy).2;omega
 have Yy:=ah hlm
 have aa8:l.length≤65536:=by
  obtain⟨R',C',e1,e2,_,q2,q3⟩:=rD (lh hr).1;have h1:=(lh hr).2;have h3:=CD q2 q3;rw[e1,e2,←eG]at h1;omega
 clear hlm
 have HY:=ah hy
 clear hy
 have DA:=sf r c r c A B l m cap kC w
 have X:=ah (Gs r c r c A B l m cap kC w)
 have Y:=ah (Gq r c r c A B l m cap kC w)
 have R:=ah (Ao r c r c A B l m cap kC w)
 have BE:Hid (m≠[]→∀ad,B=some ad→ad.block<w.heap.size):=fun hne ad e=>by
  obtain⟨b,off,e',hb,_⟩:=Rw (by simpa using hne);rw[e']at e;cases e;exact hb
 have HS:=ah (hS.later DA)
 have Ls:=ah (Rw.later DA)
 have H:=ah hr
 clear hr hS Rw
 go_in
 go_wp2_with fail
 refine(nI r c A l cap _ HS).mono ?_
 rintro e w1⟨hb1,⟨_,g,hg,rfl,hblk⟩|⟨hf,_⟩⟩
 rotate_left
 ·rw[H]at hf;cases hf
 have YY:=Y.later hb1
 have y0:=YY.c0
 have y1:=YY.c1
 have y2:=YY.c2
 have z0:=YY.lt
 clear YY
 replace X:=ah ((X.later hb1).alloc (.cells #[jJ r,jJ c,.slice (aC g) l.length l.length] 216))
 replace Y:=ah ((Y.later hb1).alloc (.cells #[jJ r,jJ c,.slice (aC g) l.length l.length] 216))
 replace R:=ah ((R.later hb1).alloc (.cells #[jJ r,jJ c,.slice (aC g) l.length l.length] 216))
 have G:=ah (jR.alloc hblk (.cells #[jJ r,jJ c,.slice (aC g) l.length l.length] 216))
 have Z:=ah (jR.new w1 216 #[jJ r,jJ c,.slice (aC g) l.length l.length])
 replace Ls:=ah ((Ls.later hb1).later (jP (jQ _) (.cells #[jJ r,jJ c,.slice (aC g) l.length l.length] 216)))
 have T1:=jP (Below.two DA hb1) (.cells #[jJ r,jJ c,.slice (aC g) l.length l.length] 216)
 have hg':w.heap.size+3≤g:=by simpa using hg
 have hgw:g<w1.heap.size:=oh hblk
 clear hblk hb1 hg
 go_wp2_with fail
 clear y0 y1 y2 z0
 generalize w1.alloc (.cells #[jJ r,jJ c,.slice (aC g) l.length l.length] 216)=W at*
 refine(j_ r c B m.length kC _).mono ?_
 rintro e w'⟨rfl,rfl⟩
 rw[HY]
 replace R:=ah (R.alloc (aK r c B m kC))
 replace X:=ah (X.alloc (aK r c B m kC))
 replace Y:=ah (Y.alloc (aK r c B m kC))
 replace Z:=ah (Z.alloc (aK r c B m kC))
 replace G:=ah (G.alloc (aK r c B m kC))
 replace Ls:=ah (Ls.later (jP (jQ _) (aK r c B m kC)))
 replace T1:=jP T1 (aK r c B m kC)
 generalize W.alloc (aK r c B m kC)=W2 at*
 have x0:=X.c0
 have x1:=X.c1
 have y0:=Y.c0
 have y1:=Y.c1
 have hpos:m≠[]:=by
  intro e;have h1:=(lh H).2;obtain⟨R',C',e1,e2,q1,q2,q3⟩:=rD (lh H).1;have h2:=Yy;rw[e1,e2,←eG,←h2,e]at h1;have h4:0<R'*C':=Nat.mul_pos jS jS;simp at h1;omega
 have OT:Hid (∀ad,B=some ad→ad.block≠g):=fun ad e=>by have:=BE hpos ad e;omega
 clear hpos
 go_wp2_with fail
 have x0:=Z.c0
 have x1:=Z.c1
 have x2:=Z.c2
 have z0:=R.lt
 have z1:=Y.lt
 have z2:=Z.lt
 have z3:=G.lt
 have KC:Hid (∀V:jC,V=W2.drew.alloc (.cells #[jJ r,jJ c,.slice (aC g) l.length l.length] 216)→jE Tryz.prog 332 #[.agg #[jJ r,jJ c,.slice (aC g) l.length l.length],.func (.func 340) #[] #[jO W2],.func (.func 338) #[] #[.pointer (some (aE w))]] V fun e w'=>(∃v,e=.returned v)∧
  jR w' g 22 ((lL (fun p o=>sat o (nth m p)) l (bu l.length)).map (br .u64)).toArray∧(bY V w' g)):=by
  rintro V rfl
  exact xT _ g W2 (w.heap.size+1) l.length kC r c r c l m B aa8 Yy hU XF (G.drew.alloc _) (jR.new W2.drew _ _) (Y.drew.alloc _) (Ls.later (jP (jQ W2).drew _)) OT jS jS
 go_region_held3 (fun w'=>w'.cell? ⟨w1,0,none⟩=some (.int .i64 r)∧w'.cell? ⟨w1,1,none⟩=some (.int .i64 c)∧w'.cell? ⟨w1,2,none⟩=some (.slice (aC g) l.length l.length)) (first|go_keep|exact⟨y0,y1,y2⟩)
  (first
   |(go_at_call 336;refine(MJ _ _ _ _ _ _).mono ?_;rintro e w'⟨rfl,rfl⟩)
   |(go_at_call 332;refine(KC _ rfl).mono ?_;rintro e w2⟨⟨v,rfl⟩,hG2,hg2⟩;have Z2:=(Z.drew.alloc _).grown hg2 (fun e=>TP);have y0:=Z2.c0;have y1:=Z2.c1;have y2:=Z2.c2;have Y2:=ah ((R.drew.alloc _).grown hg2 (fun e=>TP));have T2:Below w w w2:=ly (jP T1.drew _) hg2 jS;have G2:=ah hG2;have f0:=Y2.frozen 0;have f1:=Y2.frozen 1;have f2:=Y2.frozen 2;have u0:=Y2.c0;have u1:=Y2.c1;have u2:=Y2.c2;have ne1:w1.heap.size≠w.heap.size+1+1:=jS))
 all_goals
  clear hG2 hg2 Z2 KC x0 x1 x2;have hq2:=Y2.lt;go_wp2_with fail;have K:=Y2.zS (x:=.int .i64 r) (y:=.int .i64 c) (z:=.slice (aC g) l.length l.length);have k0:=K.c0;have k1:=K.c1;have k2:=K.c2;refine jF (v:=.tuple #[.agg #[jJ r,jJ c,.slice (aC g) l.length l.length],jJ 0]) (by simp[results,Tryz.results330,go_sem,k0,k1,k2]) rfl
   ⟨nw T2 jS _ _ _,.slice (aC g) l.length l.length,by rw[HR],?_⟩
  rw[HR];refine nh Y2 ?_;have:=jR.held (base:=w.heap.size) G2 jS;rwa[mT]at this
theorem merge_any(r c ry cy:Int)(A B:Option jG)(l m:List Int)(cap kC:Nat)(w:jC)(hS:Sl w w A l)(Rw:Sl w w B m)(hU:Us l)(XF:Us m):
 jE Tryz.prog 330 #[bR r c A l cap,bR ry cy B m kC] w (BK w (ni ⟨r,c,l⟩ ⟨ry,cy,m⟩)):=by
 cases hr:kP r c l.length with
 |false=>exact vx r c ry cy A B l m cap kC w hS hr
 |true=>
  by_cases e:kP ry cy m.length=true∧ry=r∧cy=c
  ·obtain⟨hy,rfl,rfl⟩:=e;exact vv _ _ A B l m cap kC w hS Rw hr hy hU XF
  refine vw r c ry cy _ A B l m cap kC w hS Rw hr rfl ?_
  cases h:kP ry cy m.length
  ·exact .inl rfl
  by_cases e1:ry=r
  ·exact .inr (.inr ⟨rfl,e1,fun e2=>e ⟨h,e1,e2⟩⟩)
  exact .inr (.inl ⟨rfl,e1⟩)
def AO(H:Nat)(l:List Int)(p:Nat):Int:=sat (nth l (lA H p)) (nth l (lA H p+H))
def mm(x:Cm):Cm×Int:=if kP x.r x.c x.l.length=true∧x.c≠4 then(⟨x.r,x.c/2,lL (fun p _=>AO (x.c/2).toNat x.l p) (de (x.r*(x.c/2)).toNat 0) (bu (x.r*(x.c/2)).toNat)⟩,0)else(Cm.none,80)
theorem Ph(n:Nat):Us (de n 0):=fun x hx=>by rw[gh hx];unfold U;omega
theorem xU(X:jC)(g Bw b bx cap cap2 af0 R H n2:Nat)(l:List Int)(A A2:Option jG)(hR:R≤4)(hH:0<H)(hH2:H≤16)(hl:l.length=R*(2*H))(hU:Us l)(G:jR X g 22 ((de (R*H) (0:Int)).map (br .u64)).toArray)
 (hBw:jR X Bw 216 #[jJ R,jJ H,.slice (aC g) (R*H) cap]) (hb:jR X b 216 #[jJ R,jJ H,.slice A2 n2 cap2]) (hbx:jR X bx 131 #[jJ R,jJ (2*(H:Int)),jN A l af0])
 (hS:Sl X X A l) (hne:∀ad,A=some ad→ad.block≠g) (n1:Bw≠g) (n2':b≠g) (n3:bx≠g):
 jE Tryz.prog 332 #[.agg #[jJ R,jJ H,.slice (aC g) (R*H) cap],.func (.func 340) #[] #[jO Bw],.func (.func 337) #[] #[jO b,jO bx]] X fun e w'=>(∃v,e=.returned v)∧
  jR w' g 22 ((lL (fun p _=>AO H l p) (de (R*H) (0:Int)) (bu (R*H))).map (br .u64)).toArray∧(bY X w' g):=by
 rw[show 2*(H:Int)=((2*H:Nat):Int) by omega]at hbx
 have hm:R*H≤64:=a_ (io hR hH2) jS
 obtain⟨zs,hzs⟩:=mH (N:=R*H) (bu (R*H)) (fun p hp=>dh.1 hp)
 have:=vJ X (R*H) g cap (R*H) R H (de (R*H) 0) lV (Ph _) jS G zs 340 #[jO Bw] (enters_of Tryz.func340 oo rfl)
  (all_stops 5 jS Bw X g (R*H) cap R H (aC g) zs hzs jS hBw.lt n1 X hBw)
  337 #[.pointer (aC b),.pointer (aC bx)] (enters_of Tryz.func337 oo rfl) (fun p _=>AO H l p) (fun p o ho=>uQ (rI hU _).1 (rI hU _).1)
  (fun x o W ho hk=>Ka x.1 R H o hH jS hR x.2 b bx A A2 l n2 cap2 af0 hU hl W (hb.but hk hb.lt n2') (hbx.but hk hbx.lt n3) (Jp (n₀:=0) hS hk hne))
 rw[hzs]at this
 exact jI.1 this
theorem xJ(r c:Int)(A:Option jG)(l:List Int)(cap:Nat)(w:jC)(hr:kP r c l.length=false):
 jE Tryz.prog 329 #[bR r c A l cap] w (BK w (mm ⟨r,c,l⟩)):=by
 have HR:Hid (mm ⟨r,c,l⟩=(Cm.none,80)):=by show mm _=_;rw[mm,if_neg (by simp[hr])]
 have H:=ah hr
 clear hr
 go_in
 go_wp2_with fail
 refine(j_ r c A l.length cap _).mono ?_
 rintro e w'⟨rfl,rfl⟩
 rw[H]
 go_wp2
 refine jF (v:=.tuple #[cX,jJ 80]) (by simp[results,Tryz.results329,go_sem]) rfl
  ⟨jP (jP (jP (jQ _) _) _) _,jM,by rw[HR];rfl,?_⟩
 rw[HR]
 exact rN _ _
section
variable(r c:Int)(A:Option jG)(l:List Int)(cap:Nat)(w:jC)
abbrev J_:jC:=((w.alloc (aK r c A l cap)).alloc (rO 66)).alloc (aK r c A l cap)
theorem wn:Below w w (J_ r c A l cap w):=jP (jP (jP (jQ _) _) _) _
theorem Qv:jR (J_ r c A l cap w) w 131 #[jJ r,jJ c,jN A l cap]:=((jR.new w _ _).alloc _).alloc _
theorem Gw:jR (J_ r c A l cap w) (w.heap.size+1) 131 #[jJ 0,jJ 0,jM]:=by
 have h:=(jR.new (w.alloc (aK r c A l cap)) 131 #[jJ 0,jJ 0,jM]).alloc (aK r c A l cap);rwa[b_]at h
end
theorem J7(r:Int)(A:Option jG)(l:List Int)(cap:Nat)(w:jC)(hr:kP r 4 l.length=true):
 jE Tryz.prog 329 #[.agg #[jJ r,jJ 4,jN A l cap]] w (BK w (mm ⟨r,4,l⟩)):=by
 have HR:Hid (mm ⟨r,4,l⟩=(Cm.none,80)):=by show mm _=_;rw[mm,if_neg lV]
 have DA:=wn r 4 A l cap w
 have Y:=ah (Gw r 4 A l cap w)
 have H:=ah hr
 clear hr
 go_in
 go_wp2_with fail
 refine(j_ r 4 A l.length cap _).mono ?_
 rintro e w'⟨rfl,rfl⟩
 rw[H]
 go_wp2_with fail
 refine(oG r 2 _).mono ?_
 rintro e w1⟨hb1,⟨hs,_⟩|⟨hf,s,rfl⟩⟩
 ·simp[mX]at hs
 replace Y:=ah (Y.later hb1)
 have T1:=Below.two DA hb1
 have z1:=Y.lt
 clear hf hb1
 go_wp2_with fail
 refine(kR s _).mono ?_
 rintro e w'⟨rfl,rfl⟩
 replace Y:=ah ((Y.alloc bP).alloc (lz 53 s))
 replace T1:=jP (jP T1 bP) (lz 53 s)
 generalize(w1.alloc bP).alloc (lz 53 s)=W at*
 have f0:=Y.frozen 0
 have f1:=Y.frozen 1
 have f2:=Y.frozen 2
 have u0:=Y.c0
 have u1:=Y.c1
 have u2:=Y.c2
 go_wp2_with fail
 have K:=Y.zS (x:=.int .i64 0) (y:=.int .i64 0) (z:=.slice none 0 0)
 have k0:=K.c0
 have k1:=K.c1
 have k2:=K.c2
 refine jF (v:=.tuple #[cX,jJ 80]) (by simp[results,Tryz.results329,go_sem,k0,k1,k2]) rfl
  ⟨nw T1 jS _ _ _,jM,by rw[HR];rfl,?_⟩
 rw[HR]
 exact nh Y (rN _ _)
theorem qx(R H:Nat)(A:Option jG)(l:List Int)(cap:Nat)(hU:Us l)(w:jC)(hS:Sl w w A l)(hr:kP R (2*(H:Int)) l.length=true)(h4:H≠2):
 jE Tryz.prog 329 #[.agg #[jJ R,jJ (2*(H:Int)),jN A l cap]] w (BK w (mm ⟨R,(2*(H:Int)),l⟩)):=by
 obtain⟨q1,q2,q3⟩:=tl (lh hr).1
 have hsh:mX R H=true:=by simp[mX];omega
 have hl:l.length=R*(2*H):=by
  have:=(lh hr).2;rw[show(R:Int)*(2*(H:Int))=((R*(2*H):Nat):Int) by simp]at this;omega
 have hd:(2*(H:Int))/2=(H:Int):=jS
 have hn:((R:Int)*(H:Int)).toNat=R*H:=by rw[←eG,dM]
 have HR:Hid (mm ⟨R,(2*(H:Int)),l⟩=(⟨R,H,lL (fun p _=>AO H l p) (de (R*H) 0) (bu (R*H))⟩,0)):=by
  show mm _=_;rw[mm,if_pos ⟨hr,by show(2*(H:Int))≠4;omega⟩];simp only[hd,hn,dM]
 have q4:R≤4:=jS
 have q5:0<H:=jS
 have q6:H≤16:=jS
 have DA:=wn R (2*(H:Int)) A l cap w
 have Y:=ah (Gw R (2*(H:Int)) A l cap w)
 have X:=ah (Qv R (2*(H:Int)) A l cap w)
 have HS:=ah (hS.later DA)
 have hpos:l≠[]:=by
  intro e;rw[e]at hl;have:0<R*(2*H):=Nat.mul_pos jS jS;simp at hl;omega
 have BE:Hid (∀ad,A=some ad→ad.block<w.heap.size):=fun ad e=>by
  obtain⟨b,off,e',hb,_⟩:=hS (by simpa using hpos);rw[e']at e;cases e;exact hb
 have HL:=ah hl
 have HH:=ah hr
 have HN:=ah hn
 have HSH:=ah hsh
 clear hr hl hd hn hS hpos q1 q2 q3 hsh
 go_in
 go_wp2_with fail
 refine(j_ _ _ A l.length cap _).mono ?_
 rintro e w'⟨rfl,rfl⟩
 rw[HH]
 go_wp2_with fail
 refine(oG R H _).mono ?_
 rintro e w1⟨hb1,⟨_,g,hg,rfl,hblk⟩|⟨hf,_⟩⟩
 rotate_left
 ·rw[HSH]at hf;cases hf
 rw[HN]at hblk⊢
 have YY:=Y.later hb1
 have z0:=YY.lt
 clear YY
 replace X:=ah ((X.later hb1).alloc (.cells #[jJ R,jJ H,.slice (aC g) (R*H) (R*H)] 216))
 replace Y:=ah ((Y.later hb1).alloc (.cells #[jJ R,jJ H,.slice (aC g) (R*H) (R*H)] 216))
 have G:=ah (jR.alloc hblk (.cells #[jJ R,jJ H,.slice (aC g) (R*H) (R*H)] 216))
 have Z:=ah (jR.new w1 216 #[jJ R,jJ H,.slice (aC g) (R*H) (R*H)])
 replace HS:=ah ((HS.later hb1).later (jP (jQ _) (.cells #[jJ R,jJ H,.slice (aC g) (R*H) (R*H)] 216)))
 have T1:=jP (Below.two DA hb1) (.cells #[jJ R,jJ H,.slice (aC g) (R*H) (R*H)] 216)
 have hg':w.heap.size+3≤g:=by simpa using hg
 have hgw:g<w1.heap.size:=oh hblk
 clear hblk hb1 hg
 go_wp2_with fail
 generalize w1.alloc (.cells #[jJ R,jJ H,.slice (aC g) (R*H) (R*H)] 216)=W2 at*
 have x0:=Z.c0
 have x1:=Z.c1
 have x2:=Z.c2
 have z1:=Y.lt
 have z2:=Z.lt
 have z3:=G.lt
 have OT:Hid (∀ad,A=some ad→ad.block≠g):=fun ad e=>by have:=BE ad e;omega
 have KC:Hid (∀V:jC,V=W2.drew.alloc (.cells #[jJ R,jJ H,.slice (aC g) (R*H) (R*H)] 216)→jE Tryz.prog 332 #[.agg #[jJ R,jJ H,.slice (aC g) (R*H) (R*H)],.func (.func 340) #[] #[jO W2],.func (.func 337) #[] #[jO w1,jO w]] V fun e w'=>(∃v,e=.returned v)∧
  jR w' g 22 ((lL (fun p _=>AO H l p) (de (R*H) (0:Int)) (bu (R*H))).map (br .u64)).toArray∧(bY V w' g)):=by
  rintro V rfl
  exact xU _ g W2 w1 w (R*H) (R*H) cap R H (R*H) l A (aC g) q4 q5 q6 HL hU (G.drew.alloc _) (jR.new W2.drew _ _) (Z.drew.alloc _) (X.drew.alloc _) (HS.later (jP (jQ W2).drew _)) OT jS jS jS
 go_region_held3 (fun w'=>w'.cell? ⟨w1,0,none⟩=some (.int .i64 R)∧w'.cell? ⟨w1,1,none⟩=some (.int .i64 H)∧w'.cell? ⟨w1,2,none⟩=some (.slice (aC g) (R*H) (R*H))) (first|go_keep|exact⟨y0,y1,y2⟩)
  (first
   |(go_at_call 336;refine(MJ _ _ _ _ _ _).mono ?_;rintro e w'⟨rfl,rfl⟩)
   |(go_at_call 332;refine(KC _ rfl).mono ?_;rintro e w2⟨⟨v,rfl⟩,hG2,hg2⟩;have Z2:=(Z.drew.alloc _).grown hg2 (fun e=>TP);have y0:=Z2.c0;have y1:=Z2.c1;have y2:=Z2.c2;have Y2:=ah ((Y.drew.alloc _).grown hg2 (fun e=>TP));have T2:Below w w w2:=ly (jP T1.drew _) hg2 jS;have G2:=ah hG2;have f0:=Y2.frozen 0;have f1:=Y2.frozen 1;have f2:=Y2.frozen 2;have u0:=Y2.c0;have u1:=Y2.c1;have u2:=Y2.c2;have ne1:w1.heap.size≠w.heap.size+1:=jS))
 all_goals
  clear hG2 hg2 Z2 KC x0 x1 x2;have hq2:=Y2.lt;go_wp2_with fail;have K:=Y2.zS (x:=.int .i64 R) (y:=.int .i64 H) (z:=.slice (aC g) (R*H) (R*H));have k0:=K.c0;have k1:=K.c1;have k2:=K.c2;refine jF (v:=.tuple #[.agg #[jJ R,jJ H,.slice (aC g) (R*H) (R*H)],jJ 0]) (by simp[results,Tryz.results329,go_sem,k0,k1,k2]) rfl
   ⟨nw T2 jS _ _ _,.slice (aC g) (R*H) (R*H),by rw[HR],?_⟩
  rw[HR];refine nh Y2 ?_;have:=jR.held (base:=w.heap.size) G2 jS;rwa[mT,ey]at this
theorem rL(r c:Int)(A:Option jG)(l:List Int)(cap:Nat)(hU:Us l)(w:jC)(hS:Sl w w A l):
 jE Tryz.prog 329 #[bR r c A l cap] w (BK w (mm ⟨r,c,l⟩)):=by
 cases hr:kP r c l.length with
 |false=>exact xJ r c A l cap w hr
 |true=>
  by_cases h4:c=4
  ·subst h4;exact J7 r A l cap w hr
  obtain⟨q1,q2,q3⟩:=tl (lh hr).1;obtain⟨R,rfl⟩:∃R:Nat,r=R:=⟨r.toNat,jS⟩;obtain⟨H,rfl⟩:∃H:Nat,c=2*(H:Int):=⟨(c/2).toNat,jS⟩;exact qx R H A l cap hU w hS hr jS
section
open Go.RowKit Go.Shelf
attribute [local go_sem] db
def least(l:List Int)(ps:List Nat):Int:=ps.foldl (fun a p=>min a (nth l p)) cM
def qE(x:Cm)(h:Int):Int:=if kP x.r x.c x.l.length=true then least x.l (places x.r.toNat x.c.toNat h)else 0
theorem Kh(l:List Int)(ps:List Nat)(p:Nat):least l (ps++[p])=min (least l ps) (nth l p):=by simp[least]
theorem Uh(hU:Us l)(ps:List Nat):U (least l ps):=by
 have:∀(ps:List Nat)(a:Int),U a→U (ps.foldl (fun a p=>min a (nth l p)) a):=by
  intro ps;induction ps with
  |nil=>exact fun a h=>h
  |cons p ps ih=>
   intro a ha;refine ih _ ?_;have:=rI hU p;obtain⟨h1,h2⟩:=ha;show 0≤min a (nth l p)∧min a (nth l p)≤18446744073709551615;omega
 exact this ps _ (by unfold U;omega)
theorem Kg(hU:Us l){ps qs:List Nat}(h:least l ps=0)(hp:ps <+: qs):least l qs=0:=by
 obtain⟨t,rfl⟩:=hp;have:∀(t:List Nat),t.foldl (fun a p=>min a (nth l p)) 0=0:=by
  intro t;induction t with
  |nil=>rfl
  |cons p t ih=>
   have:=(rI hU p).1;rw[List.foldl_cons,show min 0 (nth l p)=0 by omega];exact ih
 rw[least,fE];rw[least]at h;rw[h];exact this t
def WE(w:jC)(N bx b5:Nat)(r c:Int)(A:Option jG)(cap:Nat)(l:List Int)(pre:List (At N))(W:jC):Prop:=
 jR W b5 22 #[jK (least l (pre.map (·.1)))]∧jR W bx 131 #[jJ r,jJ c,jN A l cap]∧Sl W w A l∧Below w w W
def CtX(w:jC)(N b5:Nat)(l:List Int)(c:bk9)(pre:List (At N))(W:jC):Prop:=
 c=.exit 0∧jR W b5 22 #[jK 0]∧least l (pre.map (·.1))=0∧Below w w W
variable{N B:Nat}
theorem Ff{bx b5:Nat}{cap:Nat}(hB:w.heap.size≤B):bj3 B (WE w N bx b5 r c A cap l):=by
 rintro s W W' row⟨h1,h2,h3,h4⟩ hg hr;have hr':∀r,row=some r→(aH W r):=fun r e=>(hr r e).2;have hb:Below w w W':=h4.grown hg h4.size (fun k e=>a_ hB (hr k e).1);exact⟨h1.kept hg hr',h2.kept hg hr',h3.keep (fun b o hb'=>(hb.cell (p:=⟨b,o,none⟩) hb').trans (h4.cell (p:=⟨b,o,none⟩) hb').symm),hb⟩
theorem VE{b5:Nat}{c:bk9}(hB:w.heap.size≤B):bj3 B (CtX w N b5 l c):=by
 rintro s W W' row⟨h1,h2,h3,h4⟩ hg hr;have hr':∀r,row=some r→(aH W r):=fun r e=>(hr r e).2;exact⟨h1,h2.kept hg hr',h3,h4.grown hg h4.size (fun k e=>a_ hB (hr k e).1)⟩
theorem xS(r c:Int)(A:Option jG)(l:List Int)(cap:Nat)(h:Int)(w:jC)(hr:kP r c l.length=false):
 jE Tryz.prog 328 #[bR r c A l cap,jK h] w fun e w'=>e=.returned (.int .u64 (qE ⟨r,c,l⟩ h))∧Below w w w':=by
 have HR:Hid (qE ⟨r,c,l⟩ h=0):=by show qE _ _=_;rw[qE,if_neg (by simp[hr])]
 have H:=ah hr
 clear hr
 go_in
 go_wp2_with fail
 go_step3
 go_wp2_with fail
 refine(j_ r c A l.length cap _).mono ?_
 rintro e w'⟨rfl,rfl⟩
 rw[H]
 go_wp2
 rw[cf]
 go_ret
 exact⟨mL HR.symm,jP (jP (jQ _) _) _⟩
theorem KY(R C:Nat)(A:Option jG)(l:List Int)(cap:Nat)(h:Int)(hh:U h)(hU:Us l)(w:jC)(hS:Sl w w A l)(hr:kP R C l.length=true):
 bj2 cz 6 Tryz.prog 328 #[.agg #[jJ R,jJ C,jN A l cap],jK h] w fun e w'=>e=.returned (.int .u64 (qE ⟨R,C,l⟩ h))∧Below w w w':=by
 have HR:Hid (qE ⟨R,C,l⟩ h=least l (places R C h)):=by show qE _ _=_;rw[qE,if_pos hr];simp
 have H:=ah hr
 obtain⟨q1,q2,q3⟩:=tl (lh hr).1
 have hl:l.length=R*C:=by have:=(lh hr).2;rw[←eG]at this;omega
 have hR4:R≤4:=jS
 have Mk:1≤C:=jS
 have hC2:C≤32:=jS
 obtain⟨zs,hzs⟩:=mH (N:=l.length) (places R C h) (by rw[hl];exact CO Mk h)
 have HZ:=ah hzs
 have hlb:l.length≤128:=by rw[hl];exact a_ (io hR4 hC2) jS
 clear hr q1 q2 q3 hl hzs
 refine bi7 Tryz.func328 rfl trivial ?_ rfl
 simp only[Tryz.ntmps328,xb,ao,dk]
 refine bi4.2 ?_
 go_wp2_with fail
 go_step3
 go_wp2_with fail
 refine(j_ _ _ A l.length cap _).mono ?_
 rintro e w'⟨rfl,rfl⟩
 rw[H]
 go_wp2_with fail
 try go_step3
 go_wp2_with fail
 refine(Fx _ _ _ _ _ _ _).mono ?_
 rintro e w'⟨rfl,rfl⟩
 go_wp2_with fail
 have hb0:Below w w (gG7 6 w R C A l cap h):=jP (jP (jP (jP (jP (jQ _) _) _) _) _) _
 have hX:jR (gG7 6 w R C A l cap h) w 131 #[jJ R,jJ C,jN A l cap]:=((((jR.new w _ _).alloc _).alloc _).alloc _).alloc _
 have hL:jR (gG7 6 w R C A l cap h) (aN w) 22 #[jK cM]:=by
  have:=((jR.new ((w.alloc (.cells #[jJ R,jJ C,jN A l cap] 131)).alloc (.cells #[jJ R,jJ C,jN A l cap] 131)) 22 #[jK cM]).alloc (.cells #[jJ R,jJ C,jN A l cap] 216)).alloc (cD h);rwa[b_,b_]at this
 have hK1:jR (gG7 6 w R C A l cap h) (cC w) 216 #[jJ R,jJ C,jN A l cap]:=by
  have:=(jR.new (((w.alloc (.cells #[jJ R,jJ C,jN A l cap] 131)).alloc (.cells #[jJ R,jJ C,jN A l cap] 131)).alloc (.cells #[jK cM] 22)) 216 #[jJ R,jJ C,jN A l cap]).alloc (cD h);rwa[b_,b_,b_]at this
 have hK2:jR (gG7 6 w R C A l cap h) (w.heap.size+1+1+1+1) 22 #[jK h]:=by
  have:=jR.new ((((w.alloc (.cells #[jJ R,jJ C,jN A l cap] 131)).alloc (.cells #[jJ R,jJ C,jN A l cap] 131)).alloc (.cells #[jK cM] 22)).alloc (.cells #[jJ R,jJ C,jN A l cap] 216)) 22 #[jK h];rwa[b_,b_,b_,b_]at this
 have hsz:(((((w.alloc (.cells #[jJ R,jJ C,jN A l cap] 131)).alloc (.cells #[jJ R,jJ C,jN A l cap] 131)).alloc (.cells #[jK cM] 22)).alloc (.cells #[jJ R,jJ C,jN A l cap] 216)).alloc (cD h)).heap.size=w.heap.size+5:=lV
 generalize((((w.alloc (.cells #[jJ R,jJ C,jN A l cap] 131)).alloc (.cells #[jJ R,jJ C,jN A l cap] 131)).alloc (.cells #[jK cM] 22)).alloc (.cells #[jJ R,jJ C,jN A l cap] 216)).alloc (cD h)=V at*
 have hst:WE w l.length w (aN w) R C A cap l [] V:=⟨hL,hX,hS.below hb0,hb0⟩
 refine(bi4 (n:=6)).1 ?_
 refine bj9 rfl jS (gf:=339) (lb:=#[.pointer (some ⟨cC w,0,none⟩),.pointer (some (lz 46 w))]) rfl trivial (enters_of Tryz.func339 oo rfl)
  (zM 5 jS (cC w) (w.heap.size+1+1+1+1) V (aN w) R C l.length cap l.length A h hh hR4 Mk hC2 zs HZ jS jS jS jS V aa hK1 hK2)
  (fun h k=>l_ h k) (qf jS) (Below.refl _ _) (fun _=>rfl)
  (WE w l.length w (aN w) R C A cap l) (CtX w l.length (aN w) l) (Ff jS) (fun c=>VE jS) hst
  (fun x=>{tmps:=#[.agg #[jJ R,jJ C,jN A l cap],jK h,jO w,undef,jK 0,.pointer (some (aG w)),jJ (x.1:Int),.agg #[jJ R,jJ C,jN A l cap],.bool true,.bool false,.agg #[jJ R,jJ C,jN A l cap],.agg #[jJ R,jJ C,jN A l cap],jK h,.func (.func 339) #[] #[.pointer (some ⟨cC w,0,none⟩),.pointer (some (lz 46 w))],jJ (x.1:Int),undef,undef,undef,undef,undef,undef,undef,undef,undef,undef],defers:=[]}) ?assign ?body ?done ?stop
 case assign=>
  intro l x W K hK;gi_wp2;exact hK
 case body=>
  rintro l' pre⟨p,hp⟩ W⟨hG,hx,hSl,hb⟩ hlt;obtain⟨a,ha⟩:∃a,least l (pre.map (·.1))=a:=⟨_,rfl⟩;have hUa:U a:=by rw[←ha];exact Uh hU _
  have HA:Hid (least l ((pre++[(⟨p,hp⟩:At l.length)]).map (·.1))=min a (nth l p)):=by
   show _=_;rw[dH,←ha];exact Kh l _ p
  rw[ha]at hG;clear ha;obtain⟨bl,off,rfl,hbl,hcs⟩:=hSl.at_ jS;have cx:=hcs p hp;have hUx:=rI hU p;obtain⟨v,hv⟩:∃v,nth l p=v:=⟨_,rfl⟩;rw[hv]at cx hUx HA;clear hcs hv;have HG:=ah hG;have HX:=ah hx;have HSL:=ah hSl;have cg:=hG.one;have fg:=hG.frozen 0;have c2:=hx.c2;have z1:=hx.lt;have z3:=hG.lt;have hx1:(0:Int)≤p:=jS;have hx2:((p:Nat):Int)<(l.length:Int):=jS;have hn1:bl≠w.heap.size+1+1:=jS;obtain⟨mn,hmn⟩:∃mn,min a v=mn:=⟨_,rfl⟩;rw[hmn]at HA;have hmin:(if v<a then v else a)=mn:=by rw[←hmn];split<;>omega
  clear hG hx hSl;gi_wp2_with fail;refine qQ (S:=fun w'=>w'.cell? ⟨w,2,none⟩=some (.slice (bH bl off) l.length cap)∧w'.cell? ⟨bl,off+p,none⟩=some (.int .u64 v)) oo oo (by rintro⟨_,_,h⟩;exact h) ⟨c2,cx⟩ (fun hHeld=>?_);refine re hHeld ?_;refine pL 0 fun K hK=>?_;go_simp;refine hK.out _ _ ⟨c2,cx⟩ (fun hHeld=>?_);clear hK K;refine az ?_;refine pL 6 fun K hK=>?_;go_simp;refine hK.out _ _ ⟨c2,cx⟩ (fun hHeld=>?_);clear hK K;refine az ?_;refine pL 7 fun K hK=>?_;go_simp;refine hK.out _ _ ⟨(HX.far (p:=(aG w)) (by show w.heap.size≠w.heap.size+1+1;omega) _).c2,by show(W.setCell _ _).cell? _=_;rw[eX _ _ _ _ (fun e=>hn1 (by injection e with e1 _;exact e1.symm))];exact cx⟩ (fun hHeld=>?_);clear hK K;refine az ?_;refine hdn ?_;have HG2:jR (W.setCell (aG w) (.int .u64 mn)).drew (aN w) 22 #[jK mn]:=HG.kY 0 _;have cg2:=HG2.one;have hbS:Below w w (W.setCell (aG w) (.int .u64 mn)).drew:=(hb.setCell (by show(aU w);omega) _).drew;have hKO:bj4 W (W.setCell (aG w) (.int .u64 mn)).drew:=(b7 _ _ _).trans (KeepsOthers.drew _);by_cases h0:mn=0
  ·subst h0;gi_wp2;exact⟨hKO,rfl,HG2,HA,hbS⟩
  have d0:(mn==0)=false:=by simpa using h0
  gi_wp2;refine⟨hKO,⟨hKO.size,fun i _ hne=>Below.heap_setCell W (aG w) _ i hne⟩,?_,HX.far (p:=(aG w)) (by show w.heap.size≠w.heap.size+1+1;omega) _,HSL.keep (fun b o hb'=>eX _ _ _ _ (fun e=>by injection e with e1 _;omega)),hbS⟩;rw[HA];exact HG2
 case done=>
  rintro D ys W hD rfl⟨hG,hx,hSl,hb⟩ hK;rw[HZ]at hG;have HG:=ah hG;have cg:=hG.one;clear hG hx hSl;go_wp2;try rw[cf]
  refine⟨lV,.inl ⟨_,_,rfl,bi2 hK,?_⟩⟩;exact⟨.int .u64 (least l (places R C h)),by simp[results,Tryz.results328,go_sem],mL HR.symm,hb.trans (bj6 (w:=w) aa _ D _ _ jS hK rfl rfl)⟩
 rintro D c' pre W hD hpre⟨rfl,hG,hz,hb⟩ hK
 have hz':=Kg hU hz (hpre.map (·.1))
 rw[HZ]at hz'
 have HZ0:=ah hz'
 have cg:=hG.one
 clear hz hz' hG
 refine bi4.2 ?_
 go_wp2
 try rw[cf]
 refine⟨lV,.inl ⟨_,_,rfl,bi2 hK,?_⟩⟩
 exact⟨.int .u64 0,by simp[results,Tryz.results328,go_sem],mL (by rw[HR,HZ0]),hb.trans (bj6 (w:=w) aa _ D _ _ jS hK rfl rfl)⟩
theorem count_any(r c:Int)(A:Option jG)(l:List Int)(cap:Nat)(h:Int)(hh:U h)(hU:Us l)(w:jC)(hS:Sl w w A l):
 jE Tryz.prog 328 #[bR r c A l cap,jK h] w fun e w'=>e=.returned (.int .u64 (qE ⟨r,c,l⟩ h))∧Below w w w':=by
 cases hr:kP r c l.length with
 |false=>exact xS r c A l cap h w hr
 |true=>
  obtain⟨R,C,rfl,rfl,_⟩:=rD (lh hr).1;exact jI.1 (KY R C A l cap h hh hU w hS hr)
end
end Cm
instance aX9(x0:Int)(x1:Int):CoeOut (wU 15 x0 x1) jD:=⟨fun _=>(.int .u64 (IntKind.u64.wrap (x0+x1)))⟩
structure SbW(x0:jC) where
def bW(x0:jC):SbW x0:=⟨⟩
instance aU7(x0:jC):CoeOut (SbW x0) jG:=⟨fun _=>⟨x0.heap.size+1,2,none⟩⟩
structure ScY where
def cY:ScY:=⟨⟩
instance aU4:CoeOut ScY (Array jD):=⟨fun _=>#[jK 0,jK 0,jK 0,jK 0]⟩
instance aW6(x0:jC):CoeOut (sH 51 x0) jG:=⟨fun _=>⟨x0.heap.size+1,3,none⟩⟩
namespace Sp
theorem new2(w:jC)(o:Obj)(t:jH)(cs:Array jD):jR ((w.alloc o).alloc (.cells cs t)) (w.heap.size+1) t cs:=by
 have h:=jR.new (w.alloc o) t cs;have e:(w.alloc o).heap.size=w.heap.size+1:=lV;rwa[e]at h
theorem xZ(n:Int):U (IntKind.u64.wrap n):=by
 unfold U IntKind.wrap;simp[IntKind.bits,IntKind.signed];omega
theorem py(op:BinOp)(x y:Int):U (bits op .u64 x y):=by
 unfold bits;exact xZ _
def lX(x:Int)(n:Nat):Int:=bits .or .u64 (IntKind.u64.wrap (x*2^n)) (x/2^(64-n))
theorem Wl(x:Int)(n:Nat):U (lX x n):=py _ _ _
theorem TF(x:Int)(hx:U x)(w:jC):jE Tryz.prog 165 #[jK x,jJ 13] w fun e w'=>e=.returned (.int .u64 (lX x 13))∧w'=w:=by
 have hb:bits .and .u64 13 63=13:=TO;go_in;go_wp2;go_ret;exact⟨rfl,rfl⟩
theorem TE(x:Int)(hx:U x)(w:jC):jE Tryz.prog 165 #[jK x,jJ 16] w fun e w'=>e=.returned (.int .u64 (lX x 16))∧w'=w:=by
 have hb:bits .and .u64 16 63=16:=TO;go_in;go_wp2;go_ret;exact⟨rfl,rfl⟩
theorem TD(x:Int)(hx:U x)(w:jC):jE Tryz.prog 165 #[jK x,jJ 17] w fun e w'=>e=.returned (.int .u64 (lX x 17))∧w'=w:=by
 have hb:bits .and .u64 17 63=17:=TO;go_in;go_wp2;go_ret;exact⟨rfl,rfl⟩
theorem TC(x:Int)(hx:U x)(w:jC):jE Tryz.prog 165 #[jK x,jJ 21] w fun e w'=>e=.returned (.int .u64 (lX x 21))∧w'=w:=by
 have hb:bits .and .u64 21 63=21:=TO;go_in;go_wp2;go_ret;exact⟨rfl,rfl⟩
theorem LM(x:Int)(hx:U x)(w:jC):jE Tryz.prog 165 #[jK x,jJ 32] w fun e w'=>e=.returned (.int .u64 (lX x 32))∧w'=w:=by
 have hb:bits .and .u64 32 63=32:=TO;go_in;go_wp2;go_ret;exact⟨rfl,rfl⟩
def P2(v:Int×Int×Int×Int):Int×Int×Int×Int:=
 let a:=IntKind.u64.wrap (v.1+v.2.1)
 let b:=bits .xor .u64 (lX v.2.1 13) a
 let a:=lX a 32
 let c:=IntKind.u64.wrap (v.2.2.1+v.2.2.2)
 let d:=bits .xor .u64 (lX v.2.2.2 16) c
 let a:=IntKind.u64.wrap (a+d)
 let d:=bits .xor .u64 (lX d 21) a
 let c:=IntKind.u64.wrap (c+b)
 let b:=bits .xor .u64 (lX b 17) c
 (a,b,lX c 32,d)
theorem Nk(a b c d:Int)(ha:U a)(hb:U b)(hc:U c)(hd:U d)(w:jC):
 jE Tryz.prog 122 #[.agg #[jK a,jK b,jK c,jK d]] w fun e w'=>e=.returned (.agg #[jK (P2 (a,b,c,d)).1,jK (P2 (a,b,c,d)).2.1,jK (P2 (a,b,c,d)).2.2.1,jK (P2 (a,b,c,d)).2.2.2])∧Below w w w':=by
 go_in
 have X0:=ah ((jR.new w 180 #[jK (IntKind.u64.wrap (a+b)),jK b,jK c,jK d]).alloc (.cells cY 180))
 have Y0:=ah (new2 w (.cells #[jK (IntKind.u64.wrap (a+b)),jK b,jK c,jK d] 180) 180 cY)
 have B0:=ah (jP (jP (jQ w) (.cells #[jK (IntKind.u64.wrap (a+b)),jK b,jK c,jK d] 180)) (.cells cY 180))
 go_wp2_with fail
 generalize(w.alloc (.cells #[jK (IntKind.u64.wrap (a+b)),jK b,jK c,jK d] 180)).alloc (.cells cY 180)=W0 at*
 obtain⟨a1,ha1⟩:∃q,IntKind.u64.wrap (a+b)=q:=⟨_,rfl⟩
 have ua1:U a1:=ha1▸xZ _
 rw[ha1]at X0⊢
 have x0:=ce X0 0
 have x1:=ce X0 1
 have x2:=ce X0 2
 have x3:=ce X0 3
 have fz:∀i,W0.frozen? ⟨w,i,none⟩=false:=fun i=>X0.frozen i
 have zx:=X0.lt
 refine kG (S:=fun w'=>w'.cell? ⟨w,1,none⟩=some (.int .u64 b)∧w'.cell? ⟨w,0,none⟩=some (.int .u64 a1)) (s:=7) oo ?_
 refine sU ⟨x1,x0⟩ ?_
 refine oY 2 fun K hK=>?_
 go_simp
 refine(TF b hb _).mono ?_
 rintro e w'⟨rfl,hw'⟩
 rw[hw']
 clear hw'
 refine hK.out _ _ (fun _=>⟨x1,x0⟩) ?_
 clear hK K
 refine az ?_
 refine sU ⟨x1,x0⟩ ?_
 refine oY 7 fun K hK=>?_
 go_simp
 refine hK.out _ _ (fun h=>qch) ?_
 clear hK K
 refine az ?_
 refine yi ?_
 clear x0 x1 x2 x3 fz zx
 have X1:=ah (X0.kY 1 (.int .u64 (bits .xor .u64 (lX b 13) a1)))
 have Y1:=ah (Y0.far (p:=⟨w,1,none⟩) (by show(dL w);omega) (.int .u64 (bits .xor .u64 (lX b 13) a1)))
 have B1:=ah (below_drewN (B0.setCell (p:=⟨w,1,none⟩) aa (.int .u64 (bits .xor .u64 (lX b 13) a1))) 1)
 simp only[bd,ak,am]at X1
 replace X1:Hid (jR ((W0.setCell ⟨w,1,none⟩ (.int .u64 (bits .xor .u64 (lX b 13) a1))).drew) _ _ _):=X1
 replace Y1:Hid (jR ((W0.setCell ⟨w,1,none⟩ (.int .u64 (bits .xor .u64 (lX b 13) a1))).drew) _ _ _):=Y1
 replace B1:Hid (Below w w ((W0.setCell ⟨w,1,none⟩ (.int .u64 (bits .xor .u64 (lX b 13) a1))).drew)):=B1
 generalize(W0.setCell ⟨w,1,none⟩ (.int .u64 (bits .xor .u64 (lX b 13) a1))).drew=W1 at*
 obtain⟨v1,hv1⟩:∃q,(bits .xor .u64 (lX b 13) a1)=q:=⟨_,rfl⟩
 have uv1:U v1:=hv1▸py _ _ _
 rw[hv1]at X1⊢
 clear X0 Y0 B0
 have x0:=ce X1 0
 have x1:=ce X1 1
 have x2:=ce X1 2
 have x3:=ce X1 3
 have fz:∀i,W1.frozen? ⟨w,i,none⟩=false:=fun i=>X1.frozen i
 have zx:=X1.lt
 go_wp2_with fail
 refine(LM _ ua1 _).mono ?_
 rintro e w'⟨rfl,hw'⟩
 rw[hw']
 clear hw'
 go_wp2_with fail
 clear x0 x1 x2 x3 fz zx
 have X2:=ah ((X1.kY 0 (.int .u64 (lX a1 32))).kY 2 (lI 15 c d))
 have Y2:=ah ((Y1.far (p:=⟨w,0,none⟩) (by show(dL w);omega) (.int .u64 (lX a1 32))).far (p:=⟨w,2,none⟩) (by show(dL w);omega) (lI 15 c d))
 have B2:=ah ((B1.setCell (p:=⟨w,0,none⟩) aa (.int .u64 (lX a1 32))).setCell (p:=⟨w,2,none⟩) aa (lI 15 c d))
 simp only[bd,ak,am]at X2
 generalize((W1.setCell ⟨w,0,none⟩ (.int .u64 (lX a1 32))).setCell ⟨w,2,none⟩ (lI 15 c d))=W2 at*
 obtain⟨YX,Xt⟩:∃q,(lX a1 32)=q:=⟨_,rfl⟩
 have aP9:U YX:=Xt▸Wl _ _
 rw[Xt]at X2⊢
 obtain⟨JO,Xs⟩:∃q,(IntKind.u64.wrap (c+d))=q:=⟨_,rfl⟩
 have aP8:U JO:=Xs▸xZ _
 rw[Xs]at X2⊢
 clear X1 Y1 B1
 have x0:=ce X2 0
 have x1:=ce X2 1
 have x2:=ce X2 2
 have x3:=ce X2 3
 have fz:∀i,W2.frozen? ⟨w,i,none⟩=false:=fun i=>X2.frozen i
 have zx:=X2.lt
 refine kG (S:=fun w'=>w'.cell? ⟨w,3,none⟩=some (.int .u64 d)∧w'.cell? ⟨w,2,none⟩=some (.int .u64 JO)) (s:=7) oo ?_
 refine sU ⟨x3,x2⟩ ?_
 refine oY 2 fun K hK=>?_
 go_simp
 refine(TE d hd _).mono ?_
 rintro e w'⟨rfl,hw'⟩
 rw[hw']
 clear hw'
 refine hK.out _ _ (fun _=>⟨x3,x2⟩) ?_
 clear hK K
 refine az ?_
 refine sU ⟨x3,x2⟩ ?_
 refine oY 7 fun K hK=>?_
 go_simp
 refine hK.out _ _ (fun h=>qch) ?_
 clear hK K
 refine az ?_
 refine yi ?_
 clear x0 x1 x2 x3 fz zx
 have X3:=ah (X2.kY 3 (.int .u64 (bits .xor .u64 (lX d 16) JO)))
 have Y3:=ah (Y2.far (p:=⟨w,3,none⟩) (by show(dL w);omega) (.int .u64 (bits .xor .u64 (lX d 16) JO)))
 have B3:=ah (below_drewN (B2.setCell (p:=⟨w,3,none⟩) aa (.int .u64 (bits .xor .u64 (lX d 16) JO))) 1)
 simp only[bd,ak,am]at X3
 replace X3:Hid (jR ((W2.setCell ⟨w,3,none⟩ (.int .u64 (bits .xor .u64 (lX d 16) JO))).drew) _ _ _):=X3
 replace Y3:Hid (jR ((W2.setCell ⟨w,3,none⟩ (.int .u64 (bits .xor .u64 (lX d 16) JO))).drew) _ _ _):=Y3
 replace B3:Hid (Below w w ((W2.setCell ⟨w,3,none⟩ (.int .u64 (bits .xor .u64 (lX d 16) JO))).drew)):=B3
 generalize(W2.setCell ⟨w,3,none⟩ (.int .u64 (bits .xor .u64 (lX d 16) JO))).drew=W3 at*
 obtain⟨v3,hv3⟩:∃q,(bits .xor .u64 (lX d 16) JO)=q:=⟨_,rfl⟩
 have uv3:U v3:=hv3▸py _ _ _
 rw[hv3]at X3⊢
 clear X2 Y2 B2
 have x0:=ce X3 0
 have x1:=ce X3 1
 have x2:=ce X3 2
 have x3:=ce X3 3
 have fz:∀i,W3.frozen? ⟨w,i,none⟩=false:=fun i=>X3.frozen i
 have zx:=X3.lt
 go_wp2_with fail
 clear x0 x1 x2 x3 fz zx
 have X4:=ah (X3.kY 0 (lI 15 YX v3))
 have Y4:=ah (Y3.far (p:=⟨w,0,none⟩) (by show(dL w);omega) (lI 15 YX v3))
 have B4:=ah (B3.setCell (p:=⟨w,0,none⟩) aa (lI 15 YX v3))
 simp only[bd,ak,am]at X4
 generalize(W3.setCell ⟨w,0,none⟩ (lI 15 YX v3))=W4 at*
 obtain⟨p40,Xr⟩:∃q,(IntKind.u64.wrap (YX+v3))=q:=⟨_,rfl⟩
 have aP7:U p40:=Xr▸xZ _
 rw[Xr]at X4⊢
 clear X3 Y3 B3
 have x0:=ce X4 0
 have x1:=ce X4 1
 have x2:=ce X4 2
 have x3:=ce X4 3
 have fz:∀i,W4.frozen? ⟨w,i,none⟩=false:=fun i=>X4.frozen i
 have zx:=X4.lt
 refine kG (S:=fun w'=>w'.cell? ⟨w,3,none⟩=some (.int .u64 v3)∧w'.cell? ⟨w,0,none⟩=some (.int .u64 p40)) (s:=7) oo ?_
 refine sU ⟨x3,x0⟩ ?_
 refine oY 2 fun K hK=>?_
 go_simp
 refine(TC v3 uv3 _).mono ?_
 rintro e w'⟨rfl,hw'⟩
 rw[hw']
 clear hw'
 refine hK.out _ _ (fun _=>⟨x3,x0⟩) ?_
 clear hK K
 refine az ?_
 refine sU ⟨x3,x0⟩ ?_
 refine oY 7 fun K hK=>?_
 go_simp
 refine hK.out _ _ (fun h=>qch) ?_
 clear hK K
 refine az ?_
 refine yi ?_
 clear x0 x1 x2 x3 fz zx
 have X5:=ah (X4.kY 3 (.int .u64 (bits .xor .u64 (lX v3 21) p40)))
 have Y5:=ah (Y4.far (p:=⟨w,3,none⟩) (by show(dL w);omega) (.int .u64 (bits .xor .u64 (lX v3 21) p40)))
 have B5:=ah (below_drewN (B4.setCell (p:=⟨w,3,none⟩) aa (.int .u64 (bits .xor .u64 (lX v3 21) p40))) 1)
 simp only[bd,ak,am]at X5
 replace X5:Hid (jR ((W4.setCell ⟨w,3,none⟩ (.int .u64 (bits .xor .u64 (lX v3 21) p40))).drew) _ _ _):=X5
 replace Y5:Hid (jR ((W4.setCell ⟨w,3,none⟩ (.int .u64 (bits .xor .u64 (lX v3 21) p40))).drew) _ _ _):=Y5
 replace B5:Hid (Below w w ((W4.setCell ⟨w,3,none⟩ (.int .u64 (bits .xor .u64 (lX v3 21) p40))).drew)):=B5
 generalize(W4.setCell ⟨w,3,none⟩ (.int .u64 (bits .xor .u64 (lX v3 21) p40))).drew=W5 at*
 obtain⟨v5,hv5⟩:∃q,(bits .xor .u64 (lX v3 21) p40)=q:=⟨_,rfl⟩
 have uv5:U v5:=hv5▸py _ _ _
 rw[hv5]at X5⊢
 clear X4 Y4 B4
 have x0:=ce X5 0
 have x1:=ce X5 1
 have x2:=ce X5 2
 have x3:=ce X5 3
 have fz:∀i,W5.frozen? ⟨w,i,none⟩=false:=fun i=>X5.frozen i
 have zx:=X5.lt
 go_wp2_with fail
 clear x0 x1 x2 x3 fz zx
 have X6:=ah (X5.kY 2 (lI 15 JO v1))
 have Y6:=ah (Y5.far (p:=⟨w,2,none⟩) (by show(dL w);omega) (lI 15 JO v1))
 have B6:=ah (B5.setCell (p:=⟨w,2,none⟩) aa (lI 15 JO v1))
 simp only[bd,ak,am]at X6
 generalize(W5.setCell ⟨w,2,none⟩ (lI 15 JO v1))=W6 at*
 obtain⟨p60,Xq⟩:∃q,(IntKind.u64.wrap (JO+v1))=q:=⟨_,rfl⟩
 have ar0:U p60:=Xq▸xZ _
 rw[Xq]at X6⊢
 clear X5 Y5 B5
 have x0:=ce X6 0
 have x1:=ce X6 1
 have x2:=ce X6 2
 have x3:=ce X6 3
 have fz:∀i,W6.frozen? ⟨w,i,none⟩=false:=fun i=>X6.frozen i
 have zx:=X6.lt
 refine kG (S:=fun w'=>w'.cell? ⟨w,1,none⟩=some (.int .u64 v1)∧w'.cell? ⟨w,2,none⟩=some (.int .u64 p60)) (s:=7) oo ?_
 refine sU ⟨x1,x2⟩ ?_
 refine oY 2 fun K hK=>?_
 go_simp
 refine(TD v1 uv1 _).mono ?_
 rintro e w'⟨rfl,hw'⟩
 rw[hw']
 clear hw'
 refine hK.out _ _ (fun _=>⟨x1,x2⟩) ?_
 clear hK K
 refine az ?_
 refine sU ⟨x1,x2⟩ ?_
 refine oY 7 fun K hK=>?_
 go_simp
 refine hK.out _ _ (fun h=>qch) ?_
 clear hK K
 refine az ?_
 refine yi ?_
 clear x0 x1 x2 x3 fz zx
 have X7:=ah (X6.kY 1 (.int .u64 (bits .xor .u64 (lX v1 17) p60)))
 have Y7:=ah (Y6.far (p:=⟨w,1,none⟩) (by show(dL w);omega) (.int .u64 (bits .xor .u64 (lX v1 17) p60)))
 have B7:=ah (below_drewN (B6.setCell (p:=⟨w,1,none⟩) aa (.int .u64 (bits .xor .u64 (lX v1 17) p60))) 1)
 simp only[bd,ak,am]at X7
 replace X7:Hid (jR ((W6.setCell ⟨w,1,none⟩ (.int .u64 (bits .xor .u64 (lX v1 17) p60))).drew) _ _ _):=X7
 replace Y7:Hid (jR ((W6.setCell ⟨w,1,none⟩ (.int .u64 (bits .xor .u64 (lX v1 17) p60))).drew) _ _ _):=Y7
 replace B7:Hid (Below w w ((W6.setCell ⟨w,1,none⟩ (.int .u64 (bits .xor .u64 (lX v1 17) p60))).drew)):=B7
 generalize(W6.setCell ⟨w,1,none⟩ (.int .u64 (bits .xor .u64 (lX v1 17) p60))).drew=W7 at*
 obtain⟨v7,hv7⟩:∃q,(bits .xor .u64 (lX v1 17) p60)=q:=⟨_,rfl⟩
 have uv7:U v7:=hv7▸py _ _ _
 rw[hv7]at X7⊢
 clear X6 Y6 B6
 have x0:=ce X7 0
 have x1:=ce X7 1
 have x2:=ce X7 2
 have x3:=ce X7 3
 have fz:∀i,W7.frozen? ⟨w,i,none⟩=false:=fun i=>X7.frozen i
 have zx:=X7.lt
 have y0:=ce Y7 0
 have y1:=ce Y7 1
 have y2:=ce Y7 2
 have y3:=ce Y7 3
 have fy:∀i,W7.frozen? ⟨w.heap.size+1,i,none⟩=false:=fun i=>Y7.frozen i
 have zy:=Y7.lt
 go_wp2_with fail
 refine(LM _ ar0 _).mono ?_
 rintro e w'⟨rfl,hw'⟩
 rw[hw']
 clear hw'
 go_wp2_with fail
 have YF:=(((((Y7.far (p:=⟨w,2,none⟩) (by show(dL w);omega) (.int .u64 (lX p60 32))).kY 0 (.int .u64 p40)).kY 1 (.int .u64 v7)).kY 2 (.int .u64 (lX p60 32))).kY 3 (.int .u64 v5))
 have BF:=(((((B7.setCell (p:=⟨w,2,none⟩) aa (.int .u64 (lX p60 32))).setCell (p:=(aE w)) (dU _) (.int .u64 p40)).setCell (p:=(bS w)) (dU _) (.int .u64 v7)).setCell (p:=(bW w)) (dU _) (.int .u64 (lX p60 32))).setCell (p:=(lz 51 w)) (dU _) (.int .u64 v5))
 simp only[bd,ak,am]at YF
 refine jF (bl2 rfl _ _ (w.heap.size+1) _ _ _ _ rfl YF Tryz.underlying180 rfl oo) rfl ⟨?_,BF⟩
 have e:P2 (a,b,c,d)=(p40,v7,(lX p60 32),v5):=by
  unfold P2;simp only[ha1,hv1,Xt,Xs,hv3,Xr,hv5,Xq,hv7]
 rw[e]
end Sp
namespace Sp
abbrev Q4:=Int×Int×Int×Int
def U4(v:Q4):Prop:=U v.1∧U v.2.1∧U v.2.2.1∧U v.2.2.2
theorem VU(v:Q4):U4 (P2 v):=by
 unfold P2 U4;refine⟨?_,?_,?_,?_⟩
 all_goals dsimp only
 ·exact xZ _
 ·exact py _ _ _
 ·exact Wl _ _
 exact py _ _ _
abbrev q4(v:Q4):Array jD:=#[jK v.1,jK v.2.1,jK v.2.2.1,jK v.2.2.2]
def vq:Nat→Q4→Q4
 |0,v=>v
 |n+1,v=>P2 (vq n v)
theorem PZ{v:Q4}(h:U4 v):∀n,U4 (vq n v)
 |0=>h
 |n+1=>VU _
theorem zX(g:Nat)(T:jH)(v:Q4)(hv:U4 v)(n:Nat)(hn:n≤8)(w:jC)(hX:jR w g T (q4 v)):
 jE Tryz.prog 88 #[jO g,jJ (n:Int)] w fun e w'=>e=.returned (.tuple #[])∧jR w' g T (q4 (vq n v))∧(bY w w' g):=by
 have HX:=ah hX
 have HV:=ah hv
 clear hX hv
 go_in
 go_wp2_with fail
 go_loopw[5] (fun i wr=>∃k:Nat,i=(aJ k)∧k≤n∧Hid (jR wr g T (q4 (vq k v)))∧Hid (bY w wr g)) (fun i _=>n-(av i).toNat)
 case atStart=>exact⟨0,rfl,be _,HX,World.grownBy.refl _ _⟩
 obtain⟨k,rfl,hk,HB,HG⟩:=hrel
 by_cases h1:k<n
 ·have d1:decide ((k:Int)<n)=true:=ae;have hu:=PZ HV k;have HE:Hid (vq (k+1) v=P2 (vq k v)):=rfl;generalize vq k v=r at*
  obtain⟨a,b,c,d⟩:=r;obtain⟨ua,ub,uc,ud⟩:=hu;have x0:=HB.cell 0;have x1:=HB.cell 1;have x2:=HB.cell 2;have x3:=HB.cell 3;simp only[q4,bh,bm,bo]at x0 x1 x2 x3;have zx:=HB.lt;have fz:∀i,wr.frozen? ⟨g,i,none⟩=false:=fun i=>HB.frozen i;go_wp2_with fail;refine(Nk a b c d ua ub uc ud _).mono ?_;rintro e w1⟨rfl,hb1⟩;have X1:=HB.later hb1;have DH:=ah (jW HG (kH hb1 _));rw[←HE];generalize hr:vq (k+1) v=r at*
  have HR:=ah hr;clear hr;obtain⟨a1,b1,c1,d1'⟩:=r;have y0:=X1.cell 0;have y1:=X1.cell 1;have y2:=X1.cell 2;have y3:=X1.cell 3;simp only[q4,bh,bm,bo]at y0 y1 y2 y3;have zy:=X1.lt;have fy:∀i,w1.frozen? ⟨g,i,none⟩=false:=fun i=>X1.frozen i;have X2:=(((X1.kY 0 (.int .u64 a1)).kY 1 (.int .u64 b1)).kY 2 (.int .u64 c1)).kY 3 (.int .u64 d1');simp only[q4,bd,ak,am]at X2;have Vj:=ah X2;have HG2:Hid (w.grownBy ((((w1.setCell ⟨g,0,none⟩ (.int .u64 a1)).setCell ⟨g,1,none⟩ (.int .u64 b1)).setCell ⟨g,2,none⟩ (.int .u64 c1)).setCell ⟨g,3,none⟩ (.int .u64 d1')) (some g)):=
   jW (jW (jW (jW DH (k6 _ _ _ _)) (k6 _ _ _ _)) (k6 _ _ _ _)) (k6 _ _ _ _)
  clear X1 X2 hb1 DH HB HG x0 x1 x2 x3 zx fz;go_wp2;go_roundw
  case rel=>exact⟨k+1,CJ,jS,by rw[HR];exact Vj,HG2⟩
  exact No
 have hkk:k=n:=jS
 subst hkk
 have d1:decide ((k:Int)<k)=false:=lV
 go_wp2
 exact bl6 (v:=.tuple #[]) (by simp[results,Tryz.results88,go_sem]) rfl ⟨rfl,HB,HG⟩
def Cb(l:List Int):Int:=l.foldl (fun s n=>bits .xor .u64 s n) 0
theorem Xg(l:List Int):U (Cb l):=by
 unfold Cb;have:∀(l:List Int)(s:Int),U s→U (l.foldl (fun s n=>bits .xor .u64 s n) s):=by
  intro l;induction l with
  |nil=>intro s h;exact h
  |cons n l ih=>intro s _;exact ih _ (py _ _ _)
 exact this l 0 ⟨B8,B8⟩
variable{l:List Int}{k:Nat}
theorem Ny(h:k<l.length):Cb (l.take (k+1))=bits .xor .u64 (Cb (l.take k)) (nth l k):=by
 unfold Cb;rw[aj h,fE];simp[nth,h]
theorem Nw(A:Option jG)(l:List Int)(cap:Nat)(hl:l.length≤100)(w:jC)(hS:Sl w w A l):
 jE Tryz.prog 89 #[jN A l cap] w fun e w'=>e=.returned (.int .u64 (Cb l))∧w'=w:=by
 have HS:=ah hS
 clear hS
 go_in
 go_wp2_with fail
 go_loopw[3,8] (fun s i wr=>∃k:Nat,s=.int .u64 (Cb (l.take k))∧i=(aJ k)∧k≤l.length∧wr=w) (fun _ i _=>l.length-(av i).toNat)
 case atStart=>exact⟨0,rfl,rfl,be _,rfl⟩
 obtain⟨k,rfl,rfl,hk,rfl⟩:=hrel
 by_cases h1:k<l.length
 ·have d1:decide ((k:Int)<l.length)=true:=ae;obtain⟨b,off,rfl,hb,hc⟩:=HS.at_ jS;have i1:=hc k h1;have hi1:(0:Int)≤k:=jS;have hi2:(k:Int)<l.length:=jS;have HN:=ah (Ny h1);clear hc;generalize nth l k=x at*
  generalize Cb (l.take k)=s at*
  go_wp2;go_roundw
  case rel=>exact⟨k+1,by rw[HN],CJ,jS,trivial⟩
  exact No
 have hkk:k=l.length:=jS
 subst hkk
 have d1:decide ((l.length:Int)<l.length)=false:=lV
 rw[dP]
 go_wp2
 go_ret
 exact⟨rfl,rfl⟩
def Al(s:ByteArray):Nat→Int
 |0=>0
 |k+1=>if h:k<s.size then bits .or .u64 (Al s k) (IntKind.u64.wrap (IntKind.u64.wrap ((s[k].toNat:Nat):Int)*2^min (8*k) 64))else 0
theorem Aj(s:ByteArray)(hs:s.size≤1000)(w:jC):
 jE Tryz.prog 121 #[jL s] w fun e w'=>e=.returned (.int .u64 (Al s s.size))∧w'=w:=by
 go_in
 go_wp2_with fail
 go_loopw[3,7] (fun n i wr=>∃k:Nat,n=.int .u64 (Al s k)∧i=(aJ k)∧k≤s.size∧wr=w) (fun _ i _=>s.size-(av i).toNat)
 case atStart=>exact⟨0,rfl,rfl,be _,rfl⟩
 obtain⟨k,rfl,rfl,hk,rfl⟩:=hrel
 by_cases h1:k<s.size
 ·have d1:decide ((k:Int)<s.size)=true:=ae;have hi1:(0:Int)≤k:=jS;have hi2:(k:Int)<s.size:=jS;have h8:(0:Int)≤8*(k:Int):=jS;have HE:Hid (Al s (k+1)=bits .or .u64 (Al s k) (IntKind.u64.wrap (IntKind.u64.wrap ((s[k].toNat:Nat):Int)*2^min (8*k) 64))):=by show _=_;rw[Al,dif_pos h1]
  go_wp2;go_roundw
  case rel=>exact⟨k+1,by rw[HE],CJ,jS,trivial⟩
  exact No
 have hkk:k=s.size:=jS
 subst hkk
 have d1:decide ((s.size:Int)<s.size)=false:=lV
 go_wp2
 go_ret
 exact⟨rfl,rfl⟩
end Sp
structure SaR(x0:Int)(x1:Int) where
def aR(x0:Int)(x1:Int):SaR x0 x1:=⟨⟩
instance aV6(x0:Int)(x1:Int):CoeOut (SaR x0 x1) Obj:=⟨fun _=>(.cells #[.int .u64 x0,.int .u64 x1] 24)⟩
structure SaW(x0:Int)(x1:Int) where
def aW(x0:Int)(x1:Int):SaW x0 x1:=⟨⟩
instance aV3(x0:Int)(x1:Int):CoeOut (SaW x0 x1) Obj:=⟨fun _=>(.cells #[jK x0,jK x1] 24)⟩
structure ScI(x0:Int)(x1:Int) where
def cI(x0:Int)(x1:Int):ScI x0 x1:=⟨⟩
instance aU6(x0:Int)(x1:Int):CoeOut (ScI x0 x1) jD:=⟨fun _=>.agg #[jK x0,jK x1]⟩
instance aX6:CoeOut (Cp 28) Obj:=⟨fun _=>(.cells #[.int .u64 0,.int .u64 0,.int .u64 0,.int .u64 0] 183)⟩
instance aW3(x0:Int)(x1:Int):CoeOut (wU 56 x0 x1) jD:=⟨fun _=>(.int .u64 (bits .xor .u64 x0 x1))⟩
namespace Sp
def oE(a b:Int):Q4:=(bits .xor .u64 a 8317987319222330741,bits .xor .u64 b 7237128888997146477,bits .xor .u64 a 7816392313619706465,bits .xor .u64 b 8387220255154660723)
def ax9(a b:Int):Nat→Q4
 |0=>(0,0,0,0)
 |1=>((oE a b).1,0,0,0)
 |2=>((oE a b).1,(oE a b).2.1,0,0)
 |3=>((oE a b).1,(oE a b).2.1,(oE a b).2.2.1,0)
 |_=>oE a b
theorem Ya(a b:Int):U4 (oE a b):=by
 unfold oE U4;refine⟨?_,?_,?_,?_⟩
 all_goals(dsimp only;exact py _ _ _)
abbrev firsts:Array jD:=#[jK 8317987319222330741,jK 7237128888997146477,jK 7816392313619706465,jK 8387220255154660723]
def ZD(w:jC)(a b:Int)(g k:Nat)(wr:jC):Prop:=
 jR wr (w.heap.size+1) 183 cY∧jR wr (aN w) 183 (q4 (ax9 a b k))∧jR wr (cC w) 243 #[jK a,jK b]∧jR wr g 22 firsts∧Below w w wr
theorem nI(a b:Int)(g:Nat)(w:jC)(hS:jR w g 22 firsts):
 jE Tryz.prog 85 #[cI a b,.slice (aC g) 4 4] w fun e w'=>e=.returned (.agg (q4 (oE a b)))∧Below w w w':=by
 have HG:=hS.lt
 have HI:Hid (ZD w a b g 0 ((((w.alloc (aW a b)).alloc (.cells cY 183)).alloc (.cells cY 183)).alloc (.cells #[jK a,jK b] 243))):=by
  refine⟨((new2 _ _ _ _).alloc _).alloc _,?_,?_,((((hS.alloc _).alloc _).alloc _).alloc _),jP (jP (jP (jP (jQ w) _) _) _) _⟩
  ·have h:=new2 (w.alloc (aW a b)) (.cells cY 183) 183 cY;have e:(w.alloc (aR a b)).heap.size=w.heap.size+1:=lV;rw[e]at h;exact h.alloc _
  have h:=jR.new (((w.alloc (aR a b)).alloc (rO 28)).alloc (rO 28)) 243 #[jK a,jK b];have e:(((w.alloc (aR a b)).alloc (rO 28)).alloc (rO 28)).heap.size=w.heap.size+1+1+1:=lV;rw[e]at h;exact h
 clear hS
 go_in
 go_wp2_with fail
 go_loopw[16] (fun i wr=>∃k:Nat,i=(aJ k)∧k≤4∧Hid (ZD w a b g k wr)) (fun i _=>4-(av i).toNat)
 case atStart=>exact⟨0,rfl,be _,HI⟩
 clear HI
 obtain⟨k,rfl,hk,HI⟩:=hrel
 obtain⟨c1,c2,c3,c4,c5⟩:=HI.out
 have z2:=c2.lt
 have z3:=c3.lt
 have zg:=c4.lt
 have fz:∀i,wr.frozen? ⟨w.heap.size+1+1,i,none⟩=false:=fun i=>c2.frozen i
 have m0:=c2.cell 0
 have m1:=c2.cell 1
 have m2:=c2.cell 2
 have m3:=c2.cell 3
 have h0:=c3.cell 0
 have h1:=c3.cell 1
 have g0:=c4.cell 0
 have g1:=c4.cell 1
 have g2:=c4.cell 2
 have g3:=c4.cell 3
 simp only[q4,firsts,bh,bm,bo]at m0 m1 m2 m3 h0 h1 g0 g1 g2 g3
 have hne:g≠w.heap.size+1+1:=by omega
 match k,hk with
 |0,_=>
  have HN:Hid (ZD w a b g 1 (wr.setCell (aG w) (.int .u64 (bits .xor .u64 a 8317987319222330741)))):=
   ⟨c1.far (by show w.heap.size+1≠w.heap.size+1+1;omega) _,c2.kY 0 (.int .u64 (bits .xor .u64 a 8317987319222330741)),c3.far (by show w.heap.size+1+1+1≠w.heap.size+1+1;omega) _,c4.far hne _,c5.setCell (by show(aU w);omega) _⟩
  clear c1 c2 c3 c4 c5 HI;go_wp2_with fail;go_roundw
  case rel=>exact⟨1,rfl,by omega,HN⟩
  simp[av]
 |1,_=>
  have HN:Hid (ZD w a b g 2 (wr.setCell (bZ w) (.int .u64 (bits .xor .u64 b 7237128888997146477)))):=
   ⟨c1.far (by show w.heap.size+1≠w.heap.size+1+1;omega) _,c2.kY 1 (.int .u64 (bits .xor .u64 b 7237128888997146477)),c3.far (by show w.heap.size+1+1+1≠w.heap.size+1+1;omega) _,c4.far hne _,c5.setCell (by show(aU w);omega) _⟩
  clear c1 c2 c3 c4 c5 HI;go_wp2_with fail;go_roundw
  case rel=>exact⟨2,rfl,by omega,HN⟩
  simp[av]
 |2,_=>
  have HN:Hid (ZD w a b g 3 (wr.setCell ⟨w.heap.size+1+1,2,none⟩ (.int .u64 (bits .xor .u64 a 7816392313619706465)))):=
   ⟨c1.far (by show w.heap.size+1≠w.heap.size+1+1;omega) _,c2.kY 2 (.int .u64 (bits .xor .u64 a 7816392313619706465)),c3.far (by show w.heap.size+1+1+1≠w.heap.size+1+1;omega) _,c4.far hne _,c5.setCell (by show(aU w);omega) _⟩
  clear c1 c2 c3 c4 c5 HI;go_wp2_with fail;go_roundw
  case rel=>exact⟨3,rfl,by omega,HN⟩
  simp[av]
 |3,_=>
  have HN:Hid (ZD w a b g 4 (wr.setCell ⟨w.heap.size+1+1,3,none⟩ (.int .u64 (bits .xor .u64 b 8387220255154660723)))):=
   ⟨c1.far (by show w.heap.size+1≠w.heap.size+1+1;omega) _,c2.kY 3 (.int .u64 (bits .xor .u64 b 8387220255154660723)),c3.far (by show w.heap.size+1+1+1≠w.heap.size+1+1;omega) _,c4.far hne _,c5.setCell (by show(aU w);omega) _⟩
  clear c1 c2 c3 c4 c5 HI;go_wp2;go_roundw
  case rel=>exact⟨4,rfl,by omega,HN⟩
  simp[av]
 |4,_=>
  replace c2:jR wr (aN w) 183 (q4 (oE a b)):=c2;replace m0:wr.cell? (aG w)=some (.int .u64 (oE a b).1):=m0;replace m1:wr.cell? (bZ w)=some (.int .u64 (oE a b).2.1):=m1;replace m2:wr.cell? ⟨w.heap.size+1+1,2,none⟩=some (.int .u64 (oE a b).2.2.1):=m2;replace m3:wr.cell? ⟨w.heap.size+1+1,3,none⟩=some (.int .u64 (oE a b).2.2.2):=m3;generalize hq:oE a b=q at*
  have HQ:=ah hq;clear hq;obtain⟨q0,q1,q2,q3⟩:=q;have y0:=ce c1 0;have y1:=ce c1 1;have y2:=ce c1 2;have y3:=ce c1 3;have zy:=c1.lt;have fy:∀i,wr.frozen? ⟨w.heap.size+1,i,none⟩=false:=fun i=>c1.frozen i;have YF:=(((c1.kY 0 (.int .u64 q0)).kY 1 (.int .u64 q1)).kY 2 (.int .u64 q2)).kY 3 (.int .u64 q3);simp only[bd,ak,am]at YF;have BF:=ah ((((c5.setCell (p:=(aE w)) (dU _) (.int .u64 q0)).setCell (p:=(bS w)) (dU _) (.int .u64 q1)).setCell (p:=(bW w)) (dU _) (.int .u64 q2)).setCell (p:=(lz 51 w)) (dU _) (.int .u64 q3));have HYF:=ai YF;clear YF c1 c2 c3 c4 c5 HI h0 h1 g0 g1 g2 g3;go_wp2;exact jF (bl2 rfl _ _ (w.heap.size+1) _ _ _ _ rfl HYF Tryz.underlying183 rfl oo) rfl ⟨by rw[HQ],BF⟩
 |n+5,h=>exact absurd h jS
variable{w:jC}
theorem Dk{a:jC}{row:Option Nat}(h:a.grownBy w row):a.grownBy w.drew row:=⟨h.os,h.tape,h.output,h.size,h.block⟩
def nQ(v:Q4)(m:Int)(k:Nat):Q4:=if k=3 then(v.1,v.2.1,v.2.2.1,bits .xor .u64 v.2.2.2 m)else(bits .xor .u64 v.1 m,v.2.1,v.2.2.1,v.2.2.2)
def uO(v:Q4)(m:Int):Q4:=nQ (vq 2 (nQ v m 3)) m 0
theorem Ts(v:Q4)(m:Int):U4 (uO v m):=by
 have h:=PZ (v:=nQ v m 3);unfold uO;have e:vq 2 (nQ v m 3)=P2 (vq 1 (nQ v m 3)):=rfl;rw[e];have h2:=VU (vq 1 (nQ v m 3));unfold nQ;rw[if_neg B8];refine⟨?_,h2.2.1,h2.2.2.1,h2.2.2.2⟩;dsimp only;exact py _ _ _
theorem Yf{v:Q4}(h:U4 v)(m:Int):U4 (nQ v m 3):=by
 unfold nQ;rw[if_pos rfl];refine⟨h.1,h.2.1,h.2.2.1,?_⟩;dsimp only;exact py _ _ _
theorem take_any(g:Nat)(v:Q4)(hv:U4 v)(m:Int)(w:jC)(hX:jR w g 183 (q4 v)):
 jE Tryz.prog 87 #[jO g,jK m] w fun e w'=>e=.returned (.tuple #[])∧jR w' g 183 (q4 (uO v m))∧(bY w w' g):=by
 have X0:=ah hX
 have U3:=ah (Yf hv m)
 clear hX hv
 obtain⟨a,b,c,d⟩:=v
 go_in
 have x0:=X0.cell 0
 have x1:=X0.cell 1
 have x2:=X0.cell 2
 have x3:=X0.cell 3
 simp only[q4,bh,bm,bo]at x0 x1 x2 x3
 have fz:∀i,w.frozen? ⟨g,i,none⟩=false:=fun i=>X0.frozen i
 have zx:=X0.lt
 go_wp2
 refine kG (S:=fun w'=>w'.cell? ⟨g,3,none⟩=some (.int .u64 d)) (s:=10) oo ?_
 refine sU x3 ?_
 refine oY 10 fun K hK=>?_
 go_simp
 refine hK.out _ _ (fun h=>qch) ?_
 clear hK K
 refine az ?_
 refine yi ?_
 clear x0 x1 x2 x3 fz zx
 have X1:=ah (X0.kY 3 (lI 56 d m))
 simp only[q4,bd,ak,am]at X1
 have DH:Hid (w.grownBy (w.setCell ⟨g,3,none⟩ (lI 56 d m)).drew (some g)):=Dk (k6 w g 3 (lI 56 d m))
 replace X1:Hid (jR (w.setCell ⟨g,3,none⟩ (lI 56 d m)).drew g 183 (q4 (nQ (a,b,c,d) m 3))):=X1
 generalize(w.setCell ⟨g,3,none⟩ (lI 56 d m)).drew=w1 at*
 clear X0
 have QR:=ah (zX g 183 _ U3 2 B8 w1 X1)
 clear X1
 go_wp2_with fail
 refine QR.mono ?_
 rintro e w2⟨rfl,hX2,hg2⟩
 have HG2:=ah (jW DH hg2)
 have X2:=ah hX2
 obtain⟨r,hr⟩:∃r,vq 2 (nQ (a,b,c,d) m 3)=r:=⟨_,rfl⟩
 have HR:Hid (uO (a,b,c,d) m=nQ r m 0):=by show _=_;unfold uO;rw[hr]
 rw[hr]at X2
 clear QR hX2 hg2 hr U3
 obtain⟨a2,b2,c2,d2⟩:=r
 go_wp2_with fail
 have x0:=X2.cell 0
 have x1:=X2.cell 1
 have x2:=X2.cell 2
 have x3:=X2.cell 3
 simp only[q4,bh,bm,bo]at x0 x1 x2 x3
 have fz:∀i,w2.frozen? ⟨g,i,none⟩=false:=fun i=>X2.frozen i
 have zx:=X2.lt
 refine kG (S:=fun w'=>(bI w' g a2)) (s:=10) oo ?_
 refine sU x0 ?_
 refine oY 10 fun K hK=>?_
 go_simp
 refine hK.out _ _ (fun h=>qch) ?_
 clear hK K
 refine az ?_
 refine yi ?_
 clear x0 x1 x2 x3 fz zx
 have X3:=ah (X2.kY 0 (lI 56 a2 m))
 simp only[q4,bd,ak,am]at X3
 have O9:Hid (w.grownBy (w2.setCell ⟨g,0,none⟩ (lI 56 a2 m)).drew (some g)):=jW HG2 (Dk (k6 w2 g 0 _))
 go_wp2
 exact bl6 (v:=.tuple #[]) (by simp[results,Tryz.results87,go_sem]) rfl ⟨rfl,by rw[HR];exact X3,O9⟩
end Sp
namespace Sp
attribute [local go_sem] db
abbrev Ch:=Int×Bool
def L_(s:ByteArray)(k:Nat):Ch:=(bits .or .u64 (Al (s.extract k s.size) (s.size-k)) (IntKind.u64.wrap (IntKind.u64.wrap (s.size:Int)*2^56)),true)
def Xh(s:ByteArray)(k:Nat):Ch:=(Al (s.extract k (k+8)) 8,false)
variable{k:Nat}
theorem drop_cons{α:Type}{zs:List α}{a:α}{r:List α}(h:zs.drop k=a::r):k<zs.length∧zs.take (k+1)=zs.take k++[a]∧zs.drop (k+1)=r:=by
 have hk:k<zs.length:=by
  rcases fB k zs.length with h1|h1
  ·exact h1
  rw[ei h1]at h;cases h
 rw[dN hk]at h;injection h with h1 h2;exact⟨hk,by rw[aj hk,h1],h2⟩
def yM(s:ByteArray):Nat→Nat→List Ch
 |0,k=>[L_ s k]
 |n+1,k=>Xh s k::yM s n (k+8)
theorem KN(s:ByteArray)(w:jC):
 jE Tryz.prog 86 #[jL s] w fun e w'=>e=.returned (.func (.func 120) #[] #[jO w])∧w.alloc (cQ s)=w':=by
 go_in
 go_wp2
 go_ret
 exact⟨rfl,rfl⟩
def Vh(n₀ Bs:Nat):jC→jC→Prop:=fun A B=>A.heap.size≤B.heap.size∧∀i,i<n₀→i=Bs→B.heap[i]? =A.heap[i]?
theorem Vh.blk{n₀ Bs:Nat}{A B:jC}{t:jH}{cs:Array jD}(h:jR A Bs t cs)(hk:Vh n₀ Bs A B)(hb:Bs<n₀):jR B Bs t cs:=(hk.2 Bs hb rfl).trans h
theorem Ou(n:Nat)(hn:1≤n)(ll Bs n₀:Nat)(s:ByteArray)(hs:s.size≤100000)(zs:List Ch)(hz:zs=yM s (s.size/8) 0)(hBs:Bs<n₀)
 (J Jx:List Ch→jC→Prop) (W:jC) (hn0:n₀≤W.heap.size) {nJ:Nat} (hJ:uC (fun _=>False) nJ J)
 (hY:∀pre x W,J pre W→pre.length<zs.length→bl4 cz (n-1) Tryz.prog ll #[jK x.1,.bool x.2] W fun e W'=>
  (e=.returned (.bool true)∧J (pre++[x]) W'∧Vh n₀ Bs W W')∨(e=.returned (.bool false)∧Jx (pre++[x]) W'))
 (b1:jR W Bs 9 #[jL s]) (h0:J [] W):
 bj2 cz n Tryz.prog 120 #[cG ll,jO Bs] W fun e W'=>(∃v,e=.returned v)∧
  ((∃ys,ys=zs∧J ys W')∨(∃pre,pre <+: zs∧Jx pre W')):=by
 have HB:=ah b1
 have HZ:=ah hz
 refine bj1 Tryz.func120 rfl trivial ?_ rfl
 simp only[Tryz.ntmps120,xb,ao,dk]
 gi_wp2
 gi_loopw[3] (fun i wr=>∃k:Nat,i=.int .i64 ((8*k:Nat):Int)∧8*k≤s.size∧zs.drop k=yM s (s.size/8-k) (8*k)∧J (zs.take k) wr∧Hid (jR wr Bs 9 #[jL s])) (fun i _=>s.size-(av i).toNat)
 case atStart=>exact⟨0,rfl,be _,HZ,by rw[fO];exact h0,HB⟩
 obtain⟨k,rfl,hk,Za,hJk,HBk⟩:=hrel
 have x0:=HBk.one
 have zx:=HBk.lt
 obtain⟨a,ha⟩:∃a:Nat,8*k=a:=⟨_,rfl⟩
 rw[ha]at hk Za⊢
 have c0:(0:Int)≤a:=jS
 have c1:(a:Int)≤(s.size:Int):=jS
 by_cases h8:a+8≤s.size
 ·have d1:decide ((8:Int)≤(s.size:Int)-(a:Int))=true:=ae;have c2:(0:Int)≤a+8:=jS;have c3:(a:Int)+8≤(s.size:Int):=jS;have c4:(a:Int)≤(a:Int)+8:=jS;have hn8:s.size/8-k=(s.size/8-k-1)+1:=jS;rw[hn8,yM]at Za;obtain⟨hkl,htk,hz2⟩:=drop_cons Za;rw[show s.size/8-k-1=s.size/8-(k+1) by omega]at hz2;have hsz:(s.extract a (a+8)).size=8:=by rw[fI];omega
  have QN:=ah (fun w=>Aj (s.extract a (a+8)) jS w);rw[hsz]at QN;have HY:=hY (zs.take k) (Xh s a) wr hJk qlt;rw[←htk]at HY;unfold Xh at HY;have HZ2:=ah hz2;obtain⟨fn,tmps,assign,body,hy,hR⟩:=HY;gi_wp2_with fail;refine⟨trivial,?_⟩;refine(jI.2 (QN _)).mono ?_;rintro e w'⟨rfl,hw'⟩;rw[hw'];gi_wp2_with fail;refine hR.mono ?_;rintro e W3(⟨rfl,hJ3,hk3⟩|⟨rfl,hJx3⟩)
  ·have HB3:=ah (Vh.blk HBk hk3 hBs);gi_wp2_with fail;go_roundw
   case rel=>exact⟨k+1,by rw[show 8*(k+1)=a+8 by omega];go_num,jS,by rw[show 8*(k+1)=a+8 by omega];exact HZ2,hJ3,HB3⟩
   exact No
  clear hy hR HBk x0 zx;gi_wp2_with fail;refine jF (bj7 rfl _ _ _) rfl ?_;exact⟨⟨_,rfl⟩,.inr ⟨_,eS _ _,hJx3⟩⟩
 have d1:decide ((8:Int)≤(s.size:Int)-(a:Int))=false:=ag
 have hn0:s.size/8-k=0:=jS
 rw[hn0,yM]at Za
 obtain⟨hkl,htk,hz2⟩:=drop_cons Za
 have hall:zs.take (k+1)=zs:=by
  refine cl ?_;have:=congrArg ez hz2;rw[dr,dp]at this;omega
 rw[hall]at htk
 have hsz:(s.extract a s.size).size=s.size-a:=by rw[fI];omega
 have QN:=ah (fun w=>Aj (s.extract a s.size) (by omega) w)
 rw[hsz]at QN
 have HY:Hid (∀W,J (zs.take k) W→bl4 cz (n-1) Tryz.prog ll #[jK (L_ s a).1,.bool true] W fun e W'=>(e=.returned (.bool true)∧J zs W'∧Vh n₀ Bs W W')∨(e=.returned (.bool false)∧Jx zs W')):=fun W hW=>by
  have h:=hY (zs.take k) (L_ s a) W hW (by rw[cv];omega);rw[←htk]at h;exact h
 have hJD:J (zs.take k) wr.drew:=hJ _ _ _ none hJk ⟨rfl,rfl,rfl,ay _,fun _ _ _=>rfl⟩ (fun r e=>LS)
 obtain⟨fn,tmps,assign,body,hy,hR⟩:=HY _ hJD
 have hl1:(L_ s a).1=bits .or .u64 (Al (s.extract a s.size) (s.size-a)) (IntKind.u64.wrap (IntKind.u64.wrap (s.size:Int)*2^56)):=rfl
 rw[hl1]at hy
 clear hl1 hall htk hz2 Za hn0 hsz hJk HZ HY hJD
 have hx0:wr.drew.cell? ⟨Bs,0,none⟩=some (.string s):=x0
 rw[show(2:Int)^56=72057594037927936 from by decide]at hy
 have HR:=ah (hR.mono (zE (A:=fun W'=>J zs W'∧Vh n₀ Bs wr.drew W') (B:=fun W'=>Jx zs W')))
 clear hR
 gi_wp2_with fail
 gi_region_with(first|(refine⟨trivial,?_⟩;refine(jI.2 (QN _)).mono ?_;rintro e w'⟨rfl,hw'⟩;rw[hw'];clear hw')|(refine HR.mono ?_;rintro e W3⟨bq,rfl,hq⟩)|fail)
 all_goals
  cases bq
  ·gi_wp2_with fail;go_end0;exact⟨⟨_,rfl⟩,.inr ⟨_,List.prefix_refl _,hq⟩⟩
  gi_wp2_with fail;go_end0;exact⟨⟨_,rfl⟩,.inl ⟨_,rfl,hq.1⟩⟩
theorem EN(n:Nat)(hn:1≤n)(Bs:Nat)(s:ByteArray)(hs:s.size≤100000)(w:jC)(b1:jR w Bs 9 #[jL s]):
 x_ (fun _=>False) cz n Tryz.prog 120 #[jO Bs] (fun x:Ch=>#[jK x.1,.bool x.2]) (Vh w Bs) (fun ys=>ys=yM s (s.size/8) 0) (fun pre=>pre <+: yM s (s.size/8) 0) (yM s (s.size/8) 0).length w:=fun ll J Jx W hW hJ _ hY h0=>
 Ou n hn ll Bs w s hs _ rfl b1.lt J Jx W hW.size hJ hY (b1.later hW) h0
end Sp
namespace Sp
open Go.RowKit Go.Shelf
attribute [local go_sem] db
theorem sn{W W':jC}{r:Option Nat}(hg:W.grownBy W' r)(hr:∀k,r=some k→∃c t fz,W.heap[k]? =some (.cells c t fz)):bj4 W W':=
 ⟨hg.size,fun k o hk hc=>(hg.block k (aw.1 hk).1 (fun e=>by
  obtain⟨c,t,fz,h⟩:=hr k e.symm;rw[h]at hk;cases hk;cases hc)).trans hk⟩
def qz(v:Q4)(l:List Ch):Q4:=l.foldl (fun v x=>uO v x.1) v
theorem Mn{v:Q4}(h:U4 v):∀l:List Ch,U4 (qz v l)
 |[]=>h
 |x::l=>Mn (v:=uO v x.1) (Ts v x.1) l
theorem Ky(v:Q4)(l:List Ch)(x:Ch):qz v (l++[x])=uO (qz v l) x.1:=by unfold qz;rw[fE];rfl
theorem xV(s:ByteArray):∀n k,(yM s n k).map (·.2)=de n false++[true]
 |0,k=>rfl
 |n+1,k=>by rw[yM,df,xV s n (k+8)];rfl
def oC(v:Q4):Q4:=vq 4 (v.1,v.2.1,bits .xor .u64 v.2.2.1 255,v.2.2.2)
def sumF(a b:Int)(s:ByteArray):Int:=Cb [(oC (qz (oE a b) (yM s (s.size/8) 0))).1,(oC (qz (oE a b) (yM s (s.size/8) 0))).2.1,(oC (qz (oE a b) (yM s (s.size/8) 0))).2.2.1,(oC (qz (oE a b) (yM s (s.size/8) 0))).2.2.2]
theorem Jk(a b:Int)(s:ByteArray):U (sumF a b s):=Xg _
def SuI(w:jC)(a b:Int)(g:Nat)(pre:List Ch)(W:jC):Prop:=jR W g 183 (q4 (qz (oE a b) pre))∧(∀x∈pre,x.2=false)∧Below w w W
def SuX(w:jC)(a b:Int)(g:Nat)(c:bk9)(pre:List Ch)(W:jC):Prop:=c=.exit 0∧jR W g 183 (q4 (qz (oE a b) pre))∧(∃p x,pre=p++[x]∧x.2=true)∧Below w w W
variable{w:jC}{a b:Int}{g:Nat}
theorem U8{Bd:Nat}(hB:w.heap.size≤Bd):bj3 Bd (SuI w a b g):=by
 rintro s W W' row⟨h1,h2,h3⟩ hg hr;exact⟨h1.kept hg (fun r e=>(hr r e).2),h2,h3.grown hg h3.size (fun k e=>a_ hB (hr k e).1)⟩
theorem U7{Bd:Nat}{c:bk9}(hB:w.heap.size≤Bd):bj3 Bd (SuX w a b g c):=by
 rintro s W W' row⟨h0,h1,h2,h3⟩ hg hr;exact⟨h0,h1.kept hg (fun r e=>(hr r e).2),h2,h3.grown hg h3.size (fun k e=>a_ hB (hr k e).1)⟩
variable{s:ByteArray}
theorem OD{p:List Ch}{x:Ch}(h:p++[x] <+: yM s (s.size/8) 0)(hx:x.2=true):p++[x]=yM s (s.size/8) 0:=by
 obtain⟨t,ht⟩:=h;have e:=congrArg (List.map (·.2)) ht;rw[xV,dH,dH,df,jA,hx]at e
 cases t with
 |nil=>rw[eB]at ht;exact ht
 |cons y t=>
  exfalso;have hl:p.length+(t.length+1+1)=s.size/8+1:=by
   have:=congrArg ez e;simpa using this
  have h1:(List.map (fun x:Ch=>x.2) p++[true]++List.map (fun x:Ch=>x.2) (y::t))[p.length]? =some true:=by
   rw[eL lV,d7 lV];simp
  rw[e,eL (by rw[ey];omega),List.getElem?_replicate]at h1;split at h1
  ·cases h1
  cases h1
theorem OC(h:∀x∈yM s (s.size/8) 0,x.2=false):False:=by
 have hm:true∈(yM s (s.size/8) 0).map (·.2):=by rw[xV];simp
 obtain⟨x,hx,e⟩:=dq.1 hm;rw[h x hx]at e;cases e
theorem Uk{n₀ Bs:Nat}(hn:n₀≤w.heap.size)(W:jC)(l:Nat)(o o':Obj)(hl:w.heap.size≤l)(h:W.heap[l]? =some o)(_:o.isCells=false)(_:o.isWalk=false):Vh n₀ Bs W (W.putObj l o'):=by
 have h1:=bj6 hn W l o o' hl h ‹_› ‹_›;exact⟨h1.size,fun i hi _=>h1.block i hi⟩
theorem WL(a b:Int)(s:ByteArray)(hs:s.size≤100000)(w:jC):
 bj2 cz 6 Tryz.prog 66 #[cI a b,jL s] w fun e w'=>e=.returned (.int .u64 (sumF a b s))∧Below w w w':=by
 refine bi7 Tryz.func66 rfl trivial ?_ rfl
 simp only[Tryz.ntmps66,xb,ao,dk]
 refine bi4.2 ?_
 go_wp2_with fail
 go_step3
 go_wp2_with fail
 have T0:=jP (jP (jQ w) (aW a b)) (.cells firsts 22)
 have N0:=new2 w (aW a b) 22 firsts
 have HB0:=ah T0
 have IT:=ah N0
 clear T0 N0
 generalize(w.alloc (aW a b)).alloc (.cells firsts 22)=w0 at*
 refine(nI a b (w.heap.size+1) w0 IT).mono ?_
 rintro e w1⟨rfl,hb1⟩
 have HB1:(bB w w1):=HB0.trans (hb1.mono HB0.size)
 clear hb1 IT HB0
 have HU:=ah (Mn (Ya a b))
 have HX:=ah (jR.new w1 183 (q4 (oE a b)))
 have Zz:Hid (Below w w (w1.alloc (.cells (q4 (oE a b)) 183))):=HB1.trans ((jP (jQ w1) _).mono HB1.size)
 have hw1:=HB1.size
 go_wp2_with fail
 generalize w1.alloc (.cells (q4 (oE a b)) 183)=w2 at*
 go_step3
 go_wp2_with fail
 refine(KN s _).mono ?_
 rintro e w'⟨rfl,rfl⟩
 have hg:=HX.lt
 have hba:=jP (jQ w2) (cQ s)
 have HS:=ah (jR.new w2 9 #[jL s])
 replace HX:=ah (HX.later hba)
 replace Zz:=ah (Zz.trans (hba.mono Zz.size))
 clear hba HB1
 go_wp2_with fail
 generalize w2.alloc (cQ s)=V at*
 have hst:SuI w a b w1 [] V:=⟨HX,(fun x hx=>by cases hx),Zz⟩
 have Zb:=HS.lt
 refine(bi4 (n:=6)).1 ?_
 refine yy (q:=fun _=>False) rfl jS (gf:=120) (lb:=#[jO w2]) rfl trivial (enters_of Tryz.func120 oo rfl)
  (EN 5 jS w2 s hs V HS)
  (fun h k=>⟨a_ h.1 k.1,fun i h1 h2=>(k.2 i h1 h2).trans (h.2 i h1 h2)⟩) (Uk aa) (Below.refl _ _) (fun _=>rfl) (fun r h=>h.elim)
  (SuI w a b w1) (SuX w a b w1) (U8 Zz.size) (fun c=>U7 Zz.size) (fun s W W' r _ _ h=>h.elim) (fun c s W W' r _ _ h=>h.elim) hst
  (fun x=>{tmps:=#[cI a b,jL s,jO w,undef,jK 0,jO w1,jK x.1,.bool x.2,
   (cI a b),.slice (some (aE w)) 4 4,.agg (q4 (oE a b)),jL s,.func (.func 120) #[] #[jO w2],jK x.1,.bool x.2,
   undef,undef,undef,undef,undef,undef,undef,undef,undef,undef,undef,undef,undef,undef],defers:=[]})
  ?assign ?body ?done ?stop
 case assign=>
  intro l x W K hK;gi_wp2;exact hK
 case body=>
  rintro l' pre x W⟨hX,hfl,hb⟩ hbz hlt;have HX:=ah hX;have HB:=ah hb;have HFL:=ah hfl;have QT:=ah (take_any w1 _ (HU pre) x.1 W hX);rw[←Ky]at QT;have hVW:V.heap.size≤W.heap.size:=jS;clear hX hfl hb hst;gi_wp2_with fail;refine⟨trivial,?_⟩;refine(d_ l' (jI.2 QT)).mono ?_;rintro e W1⟨rfl,hX1,hg1⟩;have KO:bj4 W W1:=sn hg1 (fun k e=>by cases e;exact⟨_,_,_,HX⟩);have KP:Hid (Vh V w2 W W1):=⟨hg1.size,fun i hi e=>hg1.block i jS mO⟩;have HB1:(bB w W1):=HB.grown hg1 HB.size (fun k e=>by cases e;exact hw1);have HX1:=ah hX1;clear hX1 hg1 HB HX QT;obtain⟨m,last⟩:=x
  cases last with
  |true=>
   gi_wp2_with fail;exact⟨KO,rfl,HX1,⟨pre,_,rfl,rfl⟩,HB1⟩
  |false=>
   gi_wp2_with fail;exact⟨KO,KP,HX1,fun y hy=>by
    rcases ed.1 hy with h|h
    ·exact HFL y h
    rw[eM.1 h],HB1⟩
 case done=>
  rintro D ys W hD rfl⟨_,hfl,_⟩ hK;exact(OC hfl).elim
 rintro D c' pre W hD hpre⟨rfl,hX,⟨p,x,rfl,hx⟩,hb⟩ hK
 rw[OD hpre hx]at hX
 have HX:=ah hX
 have HB:=ah hb
 have HK:=ah hK
 have HV:=ah (HU (yM s (s.size/8) 0))
 clear hX hb hK hpre hx hst
 have Zl:Hid (sumF a b s=Cb [(oC (qz (oE a b) (yM s (s.size/8) 0))).1,(oC (qz (oE a b) (yM s (s.size/8) 0))).2.1,(oC (qz (oE a b) (yM s (s.size/8) 0))).2.2.1,(oC (qz (oE a b) (yM s (s.size/8) 0))).2.2.2]):=rfl
 generalize qz (oE a b) (yM s (s.size/8) 0)=v at*
 obtain⟨v0,v1,v2,v3⟩:=v
 have x2:=HX.cell 2
 simp only[q4,bh,bm,bo]at x2
 have fz:∀i,W.frozen? ⟨w1,i,none⟩=false:=fun i=>HX.frozen i
 have zx:=HX.lt
 have X2:=HX.kY 2 (.int .u64 (bits .xor .u64 v2 255))
 simp only[q4,bd,ak,am]at X2
 have B2:=ah (HB.setCell (p:=⟨w1,2,none⟩) hw1 (.int .u64 (bits .xor .u64 v2 255)))
 have K2:Hid ((W.setCell ⟨w1,2,none⟩ (.int .u64 (bits .xor .u64 v2 255))).heap[D]? =some (aY)):=(Below.heap_setCell W ⟨w1,2,none⟩ _ D (by show D≠w1.heap.size;omega)).trans HK
 have U2:U4 (v0,v1,bits .xor .u64 v2 255,v3):=⟨HV.1,HV.2.1,(by dsimp only;exact py _ _ _),HV.2.2.2⟩
 have QR:=ah (zX w1 183 (v0,v1,bits .xor .u64 v2 255,v3) U2 4 B8 _ X2)
 have HE:Hid (vq 4 (v0,v1,bits .xor .u64 v2 255,v3)=oC (v0,v1,v2,v3)):=rfl
 rw[HE]at QR
 clear HX HB HK HV X2 U2 HE
 refine bi4.2 ?_
 go_wp2_with fail
 refine QR.mono ?_
 rintro e W3⟨rfl,hX3,hg3⟩
 have B3:(bB w W3):=B2.grown hg3 B2.size (fun k e=>by cases e;exact hw1)
 have K3:Hid (W3.heap[D]? =some (aY)):=(hg3.block D (aw.1 K2).1 mO).trans K2
 have HX3:=ah hX3
 clear hX3 hg3 B2 K2 QR x2 fz zx
 generalize oC (v0,v1,v2,v3)=u at*
 obtain⟨u0,u1,u2,u3⟩:=u
 have zx:=HX3.lt
 have hSl:Sl W3 W3 (aM w1) [u0,u1,u2,u3]:=jR.sl HX3
 have QM:=ah (Nw (aM w1) [u0,u1,u2,u3] 4 lV W3 hSl)
 rw[←Zl]at QM
 clear hSl HX3
 go_wp2_with fail
 refine QM.mono ?_
 rintro e w'⟨rfl,hw'⟩
 rw[hw']
 clear hw'
 go_wp2
 try rw[cf]
 refine⟨lV,.inl ⟨_,_,rfl,bi2 K3,?_⟩⟩
 exact⟨.int .u64 (sumF a b s),by simp[results,Tryz.results66,go_sem],rfl,B3.trans (bj6 (w:=w) aa _ D _ _ jS K3 rfl rfl)⟩
theorem sum_any(a b:Int)(s:ByteArray)(hs:s.size≤100000)(w:jC):
 jE Tryz.prog 66 #[cI a b,jL s] w fun e w'=>e=.returned (.int .u64 (sumF a b s))∧Below w w w':=jI.1 (WL a b s hs w)
end Sp
open Go.RowKit Go.Shelf
def Dw:Go.Shelf.Ren:=⟨fun|166=>171|240=>206|276=>243|n=>n,fun|0=>0|3=>3|4=>4|5=>5|9=>9|20=>20|21=>21|37=>151|46=>152|51=>365|70=>310|72=>312|75=>171|80=>315|164=>372|127=>355|n=>n,fun|n=>n⟩
theorem af8:Go.Proofs.Lays.n166 Tryz.prog Dw:={
 mixed:=oo
 f166:=Tryz.func171.trans (congrArg some oo)
 f240:=Tryz.func206.trans (congrArg some oo)
 f276:=Tryz.func243.trans (congrArg some oo)
 t0:=Tryz.underlying0
 a0:=Tryz.isAgg0
 z0:=Tryz.sizeOf0
 v0:=Tryz.zeroValue0
 t3:=Tryz.underlying3
 a3:=Tryz.isAgg3
 z3:=Tryz.sizeOf3
 v3:=Tryz.zeroValue3
 t4:=Tryz.underlying4
 a4:=Tryz.isAgg4
 z4:=Tryz.sizeOf4
 v4:=Tryz.zeroValue4
 t9:=Tryz.underlying9
 a9:=Tryz.isAgg9
 z9:=Tryz.sizeOf9
 v9:=Tryz.zeroValue9
 t20:=Tryz.underlying20
 a20:=Tryz.isAgg20
 z20:=Tryz.sizeOf20
 v20:=Tryz.zeroValue20
 t37:=Tryz.underlying151
 a37:=Tryz.isAgg151
 z37:=Tryz.sizeOf151
 v37:=Tryz.zeroValue151
 t70:=Tryz.underlying310
 a70:=Tryz.isAgg310
 z70:=Tryz.sizeOf310
 v70:=Tryz.zeroValue310
 t72:=Tryz.underlying312
 a72:=Tryz.isAgg312
 z72:=Tryz.sizeOf312
 v72:=Tryz.zeroValue312
 t75:=Tryz.underlying171
 a75:=Tryz.isAgg171
 z75:=Tryz.sizeOf171
 v75:=Tryz.zeroValue171
 t164:=Tryz.underlying372
 a164:=Tryz.isAgg372
 z164:=Tryz.sizeOf372
 v164:=Tryz.zeroValue372}
theorem am7:Builder.Extra Tryz.prog Dw:={
 sizeBuilder:=oo
 liesBuilder:=oo
 t5:=Tryz.underlying5
 a5:=Tryz.isAgg5
 z5:=Tryz.sizeOf5
 v5:=Tryz.zeroValue5
 infoByte:=oo
 cellsByte:=oo
 sizeByte:=oo
 neB5:=by decide}
def Dv:Go.Shelf.Ren:=⟨fun|169=>172|n=>n,fun|0=>0|3=>3|4=>4|5=>5|9=>9|20=>20|21=>21|37=>151|46=>152|51=>365|70=>310|72=>312|75=>171|80=>315|164=>372|127=>355|n=>n,fun|n=>n⟩
theorem af7:Go.Proofs.Lays.n169 Tryz.prog Dv:={
 mixed:=oo
 f169:=Tryz.func172.trans (congrArg some oo)
 t0:=Tryz.underlying0
 a0:=Tryz.isAgg0
 z0:=Tryz.sizeOf0
 v0:=Tryz.zeroValue0
 t3:=Tryz.underlying3
 a3:=Tryz.isAgg3
 z3:=Tryz.sizeOf3
 v3:=Tryz.zeroValue3
 t9:=Tryz.underlying9
 a9:=Tryz.isAgg9
 z9:=Tryz.sizeOf9
 v9:=Tryz.zeroValue9
 t37:=Tryz.underlying151
 a37:=Tryz.isAgg151
 z37:=Tryz.sizeOf151
 v37:=Tryz.zeroValue151
 t70:=Tryz.underlying310
 a70:=Tryz.isAgg310
 z70:=Tryz.sizeOf310
 v70:=Tryz.zeroValue310
 t72:=Tryz.underlying312
 a72:=Tryz.isAgg312
 z72:=Tryz.sizeOf312
 v72:=Tryz.zeroValue312
 t127:=Tryz.underlying355
 a127:=Tryz.isAgg355
 z127:=Tryz.sizeOf355
 v127:=Tryz.zeroValue355}
theorem am6:Builder.Extra Tryz.prog Dv:={
 sizeBuilder:=oo
 liesBuilder:=oo
 t5:=Tryz.underlying5
 a5:=Tryz.isAgg5
 z5:=Tryz.sizeOf5
 v5:=Tryz.zeroValue5
 infoByte:=oo
 cellsByte:=oo
 sizeByte:=oo
 neB5:=by decide}
theorem sL(B b:Nat)(bs:List jD)(s:ByteArray)(w:jC)(h:dX 312 5 B b bs w)(hlen:bs.length+s.size≤140737488355328)(hBw:B≤w.heap.size):
 jE Tryz.prog 171 #[jO b,jL s] w fun e w'=>e=.returned (.tuple #[jJ s.size,.nilIface])∧(fN 312 5 B b (.pointer (aC b)) (bs++jh s) w'∧Below B w w'∧eh 5 (some b) w w'):=
 Any.Builder_WriteString_k af8 am7 B b bs s w h hlen hBw
theorem IF(B b:Nat)(l:List UInt8)(w:jC)(h:dX 312 5 B b (dV l) w)(hBw:B≤w.heap.size):
 jE Tryz.prog 172 #[jO b] w fun e w'=>e=.returned (.string ⟨l.toArray⟩)∧(dX 312 5 B b (dV l) w'∧Below B w w'∧eh 5 (some b) w w'):=Any.Builder_String_any_k af7 am6 B b l w h hBw
end Go.Proofs.YtfcnedcahoifoaaGreatDoor

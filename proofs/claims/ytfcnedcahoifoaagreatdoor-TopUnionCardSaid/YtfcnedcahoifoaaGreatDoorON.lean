import Derived.Test.YtfcnedcahoifoaaGreatDoorOM
namespace Go.Proofs.YtfcnedcahoifoaaGreatDoor
open Go.RowKit
open _root_.Go renaming Act→gG,Addr→jG,Calls→jE,Ending→bi6,Exit→bk7,FuncId→bl9,MapEntry→bk4,Oper→bk0,Program→bi3,TypeId→jH,Value→jD,World→jC,bodyPost_ret→jF
open _root_.Go.Act renaming put→gL
open _root_.Go.Code renaming region→jo
open _root_.Go.Instr renaming findNow→eI,lookup→eU,makeFunc→gF
open _root_.Go.IntWalk renaming u64_in→gC
open _root_.Go.Oper renaming wp→je
open _root_.Go.Region renaming free→iV,noSelect→gS,ready→eE,wanted→eQ
open _root_.Go.RowKit renaming intOf→av
open _root_.Go.World renaming alloc_heap_new→du,block_lt_of_cell?→b8
open _root_.List renaming cons_append→dj,foldl_append→fE,getElem?_eq_getElem→an,getElem?_eq_some_iff→ci,getElem?_map→eD,getElem?_toArray→bh,getElem_cons_succ→ej,getElem_cons_zero→dQ,getElem_mem→ar,getElem_toArray→eK,length_map→ax,length_nil→dp,length_set→eq,length→ez,nil_append→dz,push_toArray→fW,setIfInBounds_toArray→bd,set_cons_succ→am,set_cons_zero→ak,take_length→dP,take_succ_eq_append_getElem→aj
open _root_.Nat renaming reduceAdd→ao,zero_add→au,zero_le→be
set_option maxRecDepth 100000
set_option maxHeartbeats 16000000
set_option linter.unusedVariables false
set_option linter.unusedSimpArgs false
variable{X:Nat→Prop}{w w':jC}{g:Nat}{c:lO}
theorem rv.out(h:rv w g c)(ho:Out X w w')(hx:¬X g):rv w' g c:=by
 obtain⟨v0,v1,v2,v3,v4,v5,h⟩:=h;exact⟨v0,v1,v2,v3,v4,v5,ho.blk h hx⟩
def ToldAt(B:Nat)(cb:Nat)(ps:List Nat)(W:jC):Prop:=∃A k,W.cell? ⟨cb,0,none⟩=some (.slice A ps.length k)∧Rd W W A (lC ps)∧∀ad,A=some ad→B≤ad.block
theorem GY(q:Nat→Prop)(g:Nat)(c:lO)(T:kM)(tb sb kb ib cb B:Nat)(labels:ByteArray)(kind:Int)(IA:Option jG)(ic:Nat)(items:List Item)(hc:GC c)(hG:GT T.tb)(hu:U T.tm)(hl:labels.size≤1000)(hil:items.length≤1000)(hi:∀x∈items,U x.h∧U x.n)(h4:4≤g)(hc4:4≤cb)(w:jC)(hT:Tb w)(hE:Er w)(hB:B≤w.heap.size)
 (ht:w.cell? ⟨tb,0,none⟩=some (.pointer (aC g))) (hsc:w.cell? ⟨sb,0,none⟩=some (.string labels)) (hk:w.cell? ⟨kb,0,none⟩=some (.int .i64 kind)) (hic:w.cell? ⟨ib,0,none⟩=some (.slice IA items.length ic)) (hcb:jR w cb 52 #[jM]) (nD:kB w q g c T) (hq:∀b,q b→b≠g∧b≠cb) (hgc:cb≠g) (hI:Rd w w IA (items.flatMap Q8)):
 jE Tryz.prog 69 #[jO tb,jO sb,jO kb,jO ib,jO cb] w (mM (fun b=>b=cb) (fun W=>∀r,me c T labels kind items=.ok r→ToldAt B cb r.2 W) (fun b=>q b∨w.heap.size≤b) g c ((me c T labels kind items).map (·.1)) w):=by
 have Q:=ah (take_any q g c T labels kind IA ic items hc hG hu hl hil hi h4 w hT hE nD (fun b hb=>(hq b hb).1) hI)
 have HP:=ah hq
 have H0:=ah (kj.one (fun b=>b=g∨b=cb) (w:=w) (cs:=[jM]) (.inr rfl) hcb)
 have IV:Hid (∀er,me c T labels kind items=.error er→er≠0):=fun er e=>FC e
 have hcw:=hcb.lt
 generalize me c T labels kind items=r at*
 clear nD hq hcb hT hE hG hI hi hc
 go_in
 go_wp2_with fail
 refine Q.mono ?_
 rintro e w1⟨ho1,h1⟩
 have HV:=ah (H0.wP ho1 (fun k e=>.inl (.inl e)) (fun b hb e=>by simp at hb;subst hb;exact hgc e))
 have hs1:=ho1.size
 clear Q H0 ho1
 have x:=fk (HV.facts)
 cases r with
 |error er=>
  obtain⟨rfl,hbad⟩:=h1;have IY:=ah hbad;have HZ:=aT (ah (HV.put 0 0 aO));clear hbad;go_wp2_with fail;refine kh (fun V=>Out (·=cb) w1 V) HZ ((Out.refl (fun b=>b=cb) w1).setCell (p:=⟨cb,0,none⟩) (.inl rfl) _) (fun V9 H9 mB=>?_);clear x HZ HV;go_ret;exact mM.no rfl H9.out.out (IV er rfl) (IY.out.out mB fun e=>hgc e.symm)
 |ok r=>
  obtain⟨T2,ps⟩:=r;obtain⟨A,k,rfl,mo,hrd,hlo⟩:=h1;have xc:=ah mo;have wZ:=ah hrd;have BG:=ah hlo;have HZ:=aT (ah (HV.put 0 0 (.slice A ps.length k)));clear mo hrd hlo;go_wp2_with fail;refine kh (fun V=>Out (·=cb) w1 V) HZ ((Out.refl (fun b=>b=cb) w1).setCell (p:=⟨cb,0,none⟩) (.inl rfl) _) (fun V9 H9 mB=>?_);clear x HZ HV;go_ret;refine mM.yes rfl H9.out.out (xc.out.out mB (fun b hb e=>?_) fun e=>hgc e.symm) ?_
  ·rcases hb with hb|hb
   ·exact(HP b hb).2 e
   omega
  rintro r⟨⟩;exact⟨A,k,(H9.blk _ ab).2.cell 0,mB.rd wZ fun _ ad e e2=>by have:=BG ad e;omega,fun ad e=>by have:=BG ad e;omega⟩
theorem yn: "ingest".toByteArray=⟨#[105,110,103,101,115,116]⟩:=TO
theorem FA(p:Nat→Prop)(g:Nat)(c:lO)(T:kM)(now:Int)(labels:ByteArray)(kind:Int)(IA:Option jG)(ic:Nat)(items:List Item)(hc:GC c)(hG:nH c T)(hu:U now)(hl:labels.size≤1000)(hil:items.length≤1000)(hi:∀x∈items,U x.h∧U x.n)(h4:4≤g)(w:jC)(hw:4≤w.heap.size)(hT:Tb w)(hE:Er w)(nD:kB w p g c T)(hp:∀b,p b→b≠g)(hI:Rd w w IA (items.flatMap Q8))(hIg:items≠[]→∀ad,IA=some ad→ad.block≠g):
 jE Tryz.prog 53 #[jO g,jK now,jL labels,jJ kind,jN IA items ic] w (qJ w p g c T (fun er=>.tuple #[jM,jJ er]) (fun W ps v=>∃A k,v=.tuple #[jN A ps k,jJ 0]∧Rd W W A (lC ps)∧(aX A w)) (nl c T now labels kind items)):=by
 have hgw:g<w.heap.size:=by obtain⟨_,_,_,_,_,_,_,h⟩:=nD;exact h.blk.lt
 have HT:=ah hT
 have HE:=ah hE
 have ov:=ah nD.lt
 have HP:=ah hp
 have oX:=ah hG
 have HI:=ah hI
 have HIG:=ah hIg
 have HHI:=ah hi
 have HGC:Hid (GT (ko c T now).tb):=hG.tb.filter _
 have HH:=ah (((((((kj.nil (fun _=>False) w).alloc w 82 [jO g]).alloc (w.heap.size+1) 9 [jL labels]).alloc (w.heap.size+2) 3 [jJ kind]).alloc (w.heap.size+3) 32 [jN IA items ic]).alloc (w.heap.size+4) 52 [jM]).alloc (w.heap.size+5) 156 [.func (.func 69) #[] #[jO w,.pointer (some (aE w)),bF w,.pointer (some (cB w)),.pointer (some (lz 45 w))]])
 clear hT nD hp hG hE hI hIg hi
 have hmf:∀(fn:Fn)(first cap:Array jD)(w:jC),(gF fn first cap).run Tryz.prog w=.ok (.func fn first cap) w:=fun _ _ _ _=>rfl
 go_in
 go_wp2_with fail
 refine kq (fun _=>True) HH trivial (fun V HV _=>?_)
 clear HH
 have hV:w.heap.size+5<V.heap.size:=(HV.blk _ ab).2.lt
 have hb:(bJ w V):=HV.out.out.below aa fun _ h=>h.elim
 have Rv:=HT.later hb
 have hEV:=HE.later hb
 have hIV:=(Rd.below HI hb).more hb.size
 refine(zt (fun b=>b=w.heap.size+4) (fun W=>∀r,me c (ko c T now) labels kind items=.ok r→ToldAt (V.heap.size+3) (w.heap.size+4) r.2 W) (fun b=>p b∧b<w.heap.size) g c T now _ (some ⟨w.heap.size+1+1+1+1+1,0,none⟩) 1 69 #[jO w,.pointer (some (aE w)),bF w,.pointer (some (cB w)),.pointer (some (lz 45 w))] ((me c (ko c T now) labels kind items).map (·.1)) (fun W=>rfl) hc oX.tb
  (by have:=oX.lg.len;omega) (fun x hx=>⟨(oX.lg.fit x hx).1,by have:=(oX.lg.fit x hx).2;omega⟩) oX.lg.bU hu B8 h4 (fun T2 h2=>?_) V Rv (ov.later hb) (fun b hb=>⟨HP b hb.1,qhc,jS⟩) (fun b e=>jS)
  (fun _=>⟨w.heap.size+1+1+1+1+1,0,rfl,jS,fun j v hj=>?_⟩) (fun ad e=>by cases e;simp;omega) (fun W ho hs mo=>?_)).mono ?_
 ·cases O2:me c (ko c T now) labels kind items with
  |error e=>rw[O2]at h2;cases h2
  |ok l=>
   rw[O2]at h2
   cases h2
   obtain⟨a1,a2,a3,_⟩:=zQ (T2:=l.1) (ps:=l.2) O2;exact⟨a1,a2,a3⟩
 ·rw[au];exact((HV.blk _ ab).2.cell j).trans (by rw[bh];exact hj)
 ·have k0:V.cell? ⟨w,0,none⟩=some (.pointer (aC g)):=(HV.blk _ (ac 5)).2.cell 0;have k1:V.cell? (aE w)=some (.string labels):=(HV.blk _ (ac 4)).2.cell 0;have k2:V.cell? ⟨w.heap.size+2,0,none⟩=some (.int .i64 kind):=(HV.blk _ (ac 3)).2.cell 0;have k3:V.cell? (cB w)=some (.slice IA items.length ic):=(HV.blk _ (ac 2)).2.cell 0;refine(GY (fun b=>(p b∧b<w.heap.size)∨V.heap.size+3≤b) g c (ko c T now) w (w.heap.size+1) (w.heap.size+2) (w.heap.size+3) (w.heap.size+4) (V.heap.size+3) labels kind IA ic items hc HGC hu hl hil HHI h4 jS W (Rv.rH ho fun b e=>jS) (hEV.rH ho fun b e=>jS) hs ((ho.cell (p:=⟨w,0,none⟩) (by show w.heap.size<_;omega) (by show¬w.heap.size=g;omega)).trans k0) ((ho.cell (p:=(aE w)) (by show w.heap.size+1<_;omega) (by show¬w.heap.size+1=g;omega)).trans k1) ((ho.cell (p:=⟨w.heap.size+2,0,none⟩) (by show w.heap.size+2<_;omega) (by show¬w.heap.size+2=g;omega)).trans k2) ((ho.cell (p:=(cB w)) (by show w.heap.size+3<_;omega) (by show¬w.heap.size+3=g;omega)).trans k3) (ho.blk (HV.blk _ (ac 1)).2 (by show¬w.heap.size+4=g;omega)) mo (fun b hb=>by rcases hb with hb|hb;exact⟨HP b hb.1,qhc⟩;omega) jS (ho.rd hIV fun h ad e=>HIG (fun e2=>h (by rw[e2];try rfl)) ad e)).mono ?_;rintro e W'⟨ho',hm⟩;refine⟨ho',?_⟩
  cases hr:((me c (ko c T now) labels kind items).map (·.1):Except Int kM)with
  |error er=>rw[hr]at hm;exact hm
  |ok T2=>rw[hr]at hm;exact⟨hm.1,hm.2.1.mono fun b hb=>by rcases hb with hb|hb;exact hb;exact .inr jS,hm.2.2⟩
 rintro e w9 h9
 obtain⟨mB,⟨er,hd,rfl,h0,ED⟩|⟨T2,T3,a,hst,hd,rfl,ED,W2,hK,ho2⟩⟩:=qJ.of (step:=fun T=>me c T labels kind items) rfl HV.out.out (fun _ h=>jS) h9
 ·have HD:=ah hd;have H0:=ah h0;clear hd h9;replace h0:¬er=0:=h0;go_wp2;go_ret2;exact⟨mB,by rw[nl,yn,HD];exact⟨rfl,H0,ED⟩⟩
 have HD:=ah hd
 obtain⟨A,k,hc2,hrd,hlo⟩:=hK (T2,a) hst
 have hcell:w9.cell? (lz 45 w)=some (.slice A a.length k):=
  (ho2.cell (p:=(lz 45 w)) (b8 W2 _ hc2) (by show¬(w.heap.size+4=g∨(V.heap.size≤w.heap.size+4∧_));omega)).trans hc2
 replace hcell:w9.cell? (lz 46 w)=some (.slice A a.length k):=hcell
 have wZ:Hid (Rd w9 w9 A (lC a)):=ho2.rd hrd fun _ ad e e2=>by have:=hlo ad e;omega
 have BG:Hid (aX A w):=fun ad e=>by have:=hlo ad e;omega
 clear hd h9 hst hK hc2 hrd hlo
 go_wp2
 go_ret2
 exact⟨mB,by rw[nl,yn,HD];exact⟨⟨_,rfl,_,_,rfl,wZ,BG⟩,ED⟩⟩
structure SaD(x0:ReqM) where
def aD(x0:ReqM):SaD x0:=⟨⟩
instance(x0:ReqM):CoeOut (SaD x0) (Array jD):=⟨fun _=>#[jJ x0.r.op,jK x0.r.now,jL x0.r.labels,jL x0.r.scope,jJ x0.r.kind,jN x0.ia x0.r.items x0.ic,jK x0.r.h,jK x0.r.to,jK x0.r.id,jN x0.ta x0.r.jV x0.tc]⟩
instance(x0:ReqM):CoeOut (sH 4 x0) (List jD):=⟨fun _=>[jJ x0.r.op,jK x0.r.now,jL x0.r.labels,jL x0.r.scope,jJ x0.r.kind,jN x0.ia x0.r.items x0.ic,jK x0.r.h,jK x0.r.to,jK x0.r.id,jN x0.ta x0.r.jV x0.tc]⟩
structure SbQ where
def bQ:SbQ:=⟨⟩
instance:CoeOut SbQ (List jD):=⟨fun _=>[jJ 0,jK 0,jM,jM]⟩
structure ScR where
def cR:ScR:=⟨⟩
instance:CoeOut ScR jD:=⟨fun _=>.agg #[jJ 0,jK 0,jM,jM]⟩
instance(x0:Nat)(x1:Nat)(x2:Int):CoeOut (IP 54 x0 x1 x2) jD:=⟨fun _=>.agg #[jO x0,jO x1,jK x2]⟩
def l6(w:jC)(p:Nat→Prop)(g:Nat)(c:lO)(T:kM)(r:Except Int (kM×Rep))(e:bi6)(w':jC):Prop:=
 Out (·=g) w w'∧match r with
 |.error er=>(∃n A k kc,e=.returned (.tuple #[.agg #[jJ 0,jK n,.slice A k kc,jM],jJ er]))∧er≠0∧kB w' p g c T
 |.ok (T',y)=>(∃v,e=.returned (.tuple #[v,jJ 0])∧IR w' w v y)∧kB w' (fun b=>p b∨w.heap.size≤b) g c T'
variable{p:Nat→Prop}{T:kM}{r:Except Int (kM×Rep)}{er:Int}{A:Option jG}{k:Nat}
theorem l6.no{n:Int}{kc:Nat}(h:r=.error er)(ho:Out (·=g) w w')(h0:er≠0)(hT:kB w' p g c T):l6 w p g c T r (.returned (.tuple #[.agg #[jJ 0,jK n,.slice A k kc,jM],jJ er])) w':=⟨ho,by rw[h];exact⟨⟨_,_,_,_,rfl⟩,h0,hT⟩⟩
theorem l6.yes{T':kM}{y:Rep}{n:Int}{E:Option jG}{kc l lc:Nat}(h:r=.ok (T',y))(ho:Out (·=g) w w')(hT:kB w' (fun b=>p b∨w.heap.size≤b) g c T')(e0:y.e=0)(e1:y.n=n)(e2:y.notices.length=k)(e3:y.entries.length=l)
 (ha:Rd w' w' A (lC y.notices)) (hb:∀ad,A=some ad→w.heap.size≤ad.block) (hc:Rd w' w' E (y.entries.flatMap nE)) (hd:∀ad,E=some ad→w.heap.size≤ad.block):
 l6 w p g c T r (.returned (.tuple #[.agg #[jJ 0,jK n,.slice A k kc,.slice E l lc],jJ 0])) w':=
 ⟨ho,by rw[h];exact⟨⟨_,rfl,A,kc,E,lc,by rw[e0,e1,e2,e3],⟨ha,hb⟩,hc,hd⟩,hT⟩⟩
theorem KU(p:Nat→Prop)(cb g:Nat)(id:Int)(c:lO)(T:kM)(m:ReqM)(hc:GC c)(hG:nH c T)(hf:lN m.r)(h4:4≤g)(w:jC)(hw:4≤w.heap.size)(hT:Tb w)(hE:Er w)(nD:kB w p g c T)(hp:∀b,p b→b≠g)(hM:ReqOk w w m)(G_:m.r.items≠[]→∀ad,m.ia=some ad→ad.block≠g):
 jE Tryz.prog 31 #[oZ 54 cb g id,.agg (aD m)] w (l6 w p g c T ((pM c T m.r.now m.r.scope m.r.kind m.r.h).map fun x=>(x.1,⟨0,x.2,[],[]⟩))):=by
 have hgw:g<w.heap.size:=by obtain⟨_,_,_,_,_,_,_,h⟩:=nD;exact h.blk.lt
 have HT:=ah hT
 have HE:=ah hE
 have ov:=ah nD.lt
 have oX:=ah hG
 have HF:=ah hf
 have HC:=ah hc
 have HP:Hid (∀b,(p b∧b<w.heap.size)→b≠g):=fun b hb=>hp b hb.1
 have HM:=ah hM
 have Zr:=ah G_
 have HH:=ah ((((kj.nil (·=g) w).alloc w 88 [jO cb,jO g,jK id]).alloc (w.heap.size+1) 35 (lz 4 m)).alloc (w.heap.size+2) 55 bQ)
 clear hT hE nD hG hf hc hp hM G_
 go_in
 go_wp2_with fail
 refine kq (fun V=>(cF w V)) HH ((((Out.refl (fun _=>False) w).alloc _).alloc _).alloc _) (fun V HV ho=>?_)
 clear HH
 have hb:Below w w V:=ho.below aa fun _ h=>h.elim
 have V_:w.heap.size+2<V.heap.size:=(HV.blk _ ab).2.lt
 have HQ:=ah (Jc (fun b=>p b∧b<w.heap.size) g c T m.r.now m.r.scope m.r.kind m.r.h HC oX HF.now (by have:=HF.scope;omega) HF.h h4 V jS (HT.later hb) (HE.later hb) (ov.later hb) HP)
 obtain⟨r,hr⟩:∃r,r=pM c T m.r.now m.r.scope m.r.kind m.r.h:=⟨_,rfl⟩
 rw[←hr]at HQ
 have HRR:=ah hr
 clear hr
 refine HQ.mono ?_
 rintro e w1⟨ho1,h1⟩
 replace HV:=ah (HV.wP ho1 (fun k e=>.inl e) (fun b hb e=>by simp at hb;rcases hb with rfl|rfl|rfl<;>simp at e<;>omega))
 have hs1:=ho1.size
 clear HQ ho1
 have x:=fk (HV.facts)
 cases r with
 |error er=>
  obtain⟨rfl,h0,mo⟩:=h1;have H0:=ah h0;have xc:=ah mo;clear h0 mo;have td:=aS (HV.all 0 bQ);have wY:=aS (Out.lp (X:=fun b=>b=w.heap.size+2) (g:=w.heap.size+2) (.inl rfl) bQ 0 (Out.refl _ w1));have lH:=ah td;have oU:=ah wY;clear td wY;go_wp2_with fail;refine kh (fun V=>Out (fun b=>b=w.heap.size+2) w1 V) lH oU (fun V9 H9 mB=>?_);have hq:=fk (H9.at_ 0);clear x HV lH oU;refine jF (v:=.tuple #[cR,jJ er]) (by simp[results,Tryz.results31,go_sem,hq]) rfl ?_;exact l6.no (by rw[←HRR];try rfl) H9.out.out H0 ((xc.out.out mB (fun b hb e=>qhc) jS).mono fun b hb=>hb.1)
 |ok r=>
  obtain⟨T2,a⟩:=r;obtain⟨⟨v,rfl,rfl⟩,mo⟩:=h1;have xc:=ah mo;clear mo;have td:=aS (HV.all 0 [jJ 0,jK a,jM,jM]);have wY:=aS (Out.lp (X:=fun b=>b=w.heap.size+2) (g:=w.heap.size+2) (.inl rfl) [jJ 0,jK a,jM,jM] 0 (Out.refl _ w1));have lH:=ah td;have oU:=ah wY;clear td wY;go_wp2_with fail;refine kh (fun V=>Out (fun b=>b=w.heap.size+2) w1 V) lH oU (fun V9 H9 mB=>?_);have hq:=fk (H9.at_ 0);clear x HV lH oU;refine jF (v:=.tuple #[.agg #[jJ 0,jK a,jM,jM],jJ 0]) (by simp[results,Tryz.results31,go_sem,hq]) rfl ?_;exact l6.yes (y:=⟨0,a,[],[]⟩) (n:=a) (by rw[←HRR];try rfl) H9.out.out ((xc.out.out mB (fun b hb e=>by rcases hb with hb|hb;have:=hb.2;omega;omega) jS).mono fun b hb=>hb.elim (fun h=>.inl h.1) fun h=>.inr jS) rfl rfl rfl rfl Rd.none_ (fun _ e=>LS) Rd.none_ (fun _ e=>LS)
theorem KV(p:Nat→Prop)(cb g:Nat)(id:Int)(c:lO)(T:kM)(m:ReqM)(hc:GC c)(hG:nH c T)(hf:lN m.r)(h4:4≤g)(w:jC)(hw:4≤w.heap.size)(hT:Tb w)(hE:Er w)(nD:kB w p g c T)(hp:∀b,p b→b≠g)(hM:ReqOk w w m)(G_:m.r.items≠[]→∀ad,m.ia=some ad→ad.block≠g):
 jE Tryz.prog 33 #[oZ 54 cb g id,.agg (aD m)] w (l6 w p g c T ((sy c T m.r.now m.r.to m.r.scope).map fun x=>(x.1,⟨0,x.2,[],[]⟩))):=by
 have hgw:g<w.heap.size:=by obtain⟨_,_,_,_,_,_,_,h⟩:=nD;exact h.blk.lt
 have HT:=ah hT
 have HE:=ah hE
 have ov:=ah nD.lt
 have oX:=ah hG
 have HF:=ah hf
 have HC:=ah hc
 have HP:Hid (∀b,(p b∧b<w.heap.size)→b≠g):=fun b hb=>hp b hb.1
 have HM:=ah hM
 have Zr:=ah G_
 have HH:=ah ((((kj.nil (·=g) w).alloc w 88 [jO cb,jO g,jK id]).alloc (w.heap.size+1) 35 (lz 4 m)).alloc (w.heap.size+2) 55 bQ)
 clear hT hE nD hG hf hc hp hM G_
 go_in
 go_wp2_with fail
 refine kq (fun V=>(cF w V)) HH ((((Out.refl (fun _=>False) w).alloc _).alloc _).alloc _) (fun V HV ho=>?_)
 clear HH
 have hb:Below w w V:=ho.below aa fun _ h=>h.elim
 have V_:w.heap.size+2<V.heap.size:=(HV.blk _ ab).2.lt
 have HQ:=ah (Jg (fun b=>p b∧b<w.heap.size) g c T m.r.now m.r.to m.r.scope HC oX HF.now (by have:=HF.scope;omega) h4 V jS (HT.later hb) (ov.later hb) HP)
 obtain⟨r,hr⟩:∃r,r=sy c T m.r.now m.r.to m.r.scope:=⟨_,rfl⟩
 rw[←hr]at HQ
 have HRR:=ah hr
 clear hr
 refine HQ.mono ?_
 rintro e w1⟨ho1,h1⟩
 replace HV:=ah (HV.wP ho1 (fun k e=>.inl e) (fun b hb e=>by simp at hb;rcases hb with rfl|rfl|rfl<;>simp at e<;>omega))
 have hs1:=ho1.size
 clear HQ ho1
 have x:=fk (HV.facts)
 cases r with
 |error er=>
  obtain⟨rfl,h0,mo⟩:=h1;have H0:=ah h0;have xc:=ah mo;clear h0 mo;have td:=aS (HV.all 0 bQ);have wY:=aS (Out.lp (X:=fun b=>b=w.heap.size+2) (g:=w.heap.size+2) (.inl rfl) bQ 0 (Out.refl _ w1));have lH:=ah td;have oU:=ah wY;clear td wY;go_wp2_with fail;refine kh (fun V=>Out (fun b=>b=w.heap.size+2) w1 V) lH oU (fun V9 H9 mB=>?_);have hq:=fk (H9.at_ 0);clear x HV lH oU;refine jF (v:=.tuple #[cR,jJ er]) (by simp[results,Tryz.results33,go_sem,hq]) rfl ?_;exact l6.no (by rw[←HRR];try rfl) H9.out.out H0 ((xc.out.out mB (fun b hb e=>qhc) jS).mono fun b hb=>hb.1)
 |ok r=>
  obtain⟨T2,a⟩:=r;obtain⟨⟨v,rfl,rfl⟩,mo⟩:=h1;have xc:=ah mo;clear mo;have td:=aS (HV.all 0 [jJ 0,jK a,jM,jM]);have wY:=aS (Out.lp (X:=fun b=>b=w.heap.size+2) (g:=w.heap.size+2) (.inl rfl) [jJ 0,jK a,jM,jM] 0 (Out.refl _ w1));have lH:=ah td;have oU:=ah wY;clear td wY;go_wp2_with fail;refine kh (fun V=>Out (fun b=>b=w.heap.size+2) w1 V) lH oU (fun V9 H9 mB=>?_);have hq:=fk (H9.at_ 0);clear x HV lH oU;refine jF (v:=.tuple #[.agg #[jJ 0,jK a,jM,jM],jJ 0]) (by simp[results,Tryz.results33,go_sem,hq]) rfl ?_;exact l6.yes (y:=⟨0,a,[],[]⟩) (n:=a) (by rw[←HRR];try rfl) H9.out.out ((xc.out.out mB (fun b hb e=>by rcases hb with hb|hb;have:=hb.2;omega;omega) jS).mono fun b hb=>hb.elim (fun h=>.inl h.1) fun h=>.inr jS) rfl rfl rfl rfl Rd.none_ (fun _ e=>LS) Rd.none_ (fun _ e=>LS)
theorem Hy(p:Nat→Prop)(cb g:Nat)(id:Int)(c:lO)(T:kM)(m:ReqM)(hc:GC c)(hG:nH c T)(hf:lN m.r)(h4:4≤g)(w:jC)(hw:4≤w.heap.size)(hT:Tb w)(hE:Er w)(nD:kB w p g c T)(hp:∀b,p b→b≠g)(hM:ReqOk w w m)(G_:m.r.items≠[]→∀ad,m.ia=some ad→ad.block≠g):
 jE Tryz.prog 34 #[oZ 54 cb g id,.agg (aD m)] w (l6 w p g c T ((D4 c T m.r.now m.r.id).map fun x=>(x.1,⟨0,0,[],[]⟩))):=by
 have hgw:g<w.heap.size:=by obtain⟨_,_,_,_,_,_,_,h⟩:=nD;exact h.blk.lt
 have HT:=ah hT
 have HE:=ah hE
 have ov:=ah nD.lt
 have oX:=ah hG
 have HF:=ah hf
 have HC:=ah hc
 have HP:Hid (∀b,(p b∧b<w.heap.size)→b≠g):=fun b hb=>hp b hb.1
 have HM:=ah hM
 have Zr:=ah G_
 have HH:=ah ((((kj.nil (·=g) w).alloc w 88 [jO cb,jO g,jK id]).alloc (w.heap.size+1) 35 (lz 4 m)).alloc (w.heap.size+2) 55 bQ)
 clear hT hE nD hG hf hc hp hM G_
 go_in
 go_wp2_with fail
 refine kq (fun V=>(cF w V)) HH ((((Out.refl (fun _=>False) w).alloc _).alloc _).alloc _) (fun V HV ho=>?_)
 clear HH
 have hb:Below w w V:=ho.below aa fun _ h=>h.elim
 have V_:w.heap.size+2<V.heap.size:=(HV.blk _ ab).2.lt
 have HQ:=ah (Fv (fun b=>p b∧b<w.heap.size) g c T m.r.now m.r.id HC oX HF.now h4 V jS (HT.later hb) (ov.later hb) HP)
 obtain⟨r,hr⟩:∃r,r=D4 c T m.r.now m.r.id:=⟨_,rfl⟩
 rw[←hr]at HQ
 have HRR:=ah hr
 clear hr
 refine HQ.mono ?_
 rintro e w1⟨ho1,h1⟩
 replace HV:=ah (HV.wP ho1 (fun k e=>.inl e) (fun b hb e=>by simp at hb;rcases hb with rfl|rfl|rfl<;>simp at e<;>omega))
 have hs1:=ho1.size
 clear HQ ho1
 have x:=fk (HV.facts)
 cases r with
 |error er=>
  obtain⟨rfl,h0,mo⟩:=h1;have H0:=ah h0;have xc:=ah mo;clear h0 mo;have td:=aS (HV.all 0 bQ);have wY:=aS (Out.lp (X:=fun b=>b=w.heap.size+2) (g:=w.heap.size+2) (.inl rfl) bQ 0 (Out.refl _ w1));have lH:=ah td;have oU:=ah wY;clear td wY;go_wp2_with fail;refine kh (fun V=>Out (fun b=>b=w.heap.size+2) w1 V) lH oU (fun V9 H9 mB=>?_);have hq:=fk (H9.at_ 0);clear x HV lH oU;refine jF (v:=.tuple #[cR,jJ er]) (by simp[results,Tryz.results34,go_sem,hq]) rfl ?_;exact l6.no (by rw[←HRR];try rfl) H9.out.out H0 ((xc.out.out mB (fun b hb e=>qhc) jS).mono fun b hb=>hb.1)
 |ok r=>
  obtain⟨T2,a⟩:=r;obtain⟨⟨v,rfl,rfl⟩,mo⟩:=h1;have xc:=ah mo;clear mo;have td:=aS (HV.all 0 bQ);have wY:=aS (Out.lp (X:=fun b=>b=w.heap.size+2) (g:=w.heap.size+2) (.inl rfl) bQ 0 (Out.refl _ w1));have lH:=ah td;have oU:=ah wY;clear td wY;go_wp2_with fail;refine kh (fun V=>Out (fun b=>b=w.heap.size+2) w1 V) lH oU (fun V9 H9 mB=>?_);have hq:=fk (H9.at_ 0);clear x HV lH oU;refine jF (v:=.tuple #[cR,jJ 0]) (by simp[results,Tryz.results34,go_sem,hq]) rfl ?_;exact l6.yes (y:=⟨0,0,[],[]⟩) (n:=0) (by rw[←HRR];try rfl) H9.out.out ((xc.out.out mB (fun b hb e=>by rcases hb with hb|hb;have:=hb.2;omega;omega) jS).mono fun b hb=>hb.elim (fun h=>.inl h.1) fun h=>.inr jS) rfl rfl rfl rfl Rd.none_ (fun _ e=>LS) Rd.none_ (fun _ e=>LS)
theorem KX(p:Nat→Prop)(cb g:Nat)(id:Int)(c:lO)(T:kM)(m:ReqM)(hc:GC c)(hG:nH c T)(hf:lN m.r)(h4:4≤g)(w:jC)(hw:4≤w.heap.size)(hT:Tb w)(hE:Er w)(nD:kB w p g c T)(hp:∀b,p b→b≠g)(hM:ReqOk w w m)(G_:m.r.items≠[]→∀ad,m.ia=some ad→ad.block≠g):
 jE Tryz.prog 35 #[oZ 54 cb g id,.agg (aD m)] w (l6 w p g c T ((.ok (T,⟨0,0,[],lA T.ll m.r.id⟩):Except Int (kM×Rep)))):=by
 have hgw:g<w.heap.size:=by obtain⟨_,_,_,_,_,_,_,h⟩:=nD;exact h.blk.lt
 have HT:=ah hT
 have HE:=ah hE
 have ov:=ah nD.lt
 have oX:=ah hG
 have HF:=ah hf
 have HC:=ah hc
 have HP:Hid (∀b,(p b∧b<w.heap.size)→b≠g):=fun b hb=>hp b hb.1
 have HM:=ah hM
 have Zr:=ah G_
 have HH:=ah ((((kj.nil (·=g) w).alloc w 88 [jO cb,jO g,jK id]).alloc (w.heap.size+1) 35 (lz 4 m)).alloc (w.heap.size+2) 55 bQ)
 clear hT hE nD hG hf hc hp hM G_
 go_in
 go_wp2_with fail
 refine kq (fun V=>(cF w V)) HH ((((Out.refl (fun _=>False) w).alloc _).alloc _).alloc _) (fun V HV ho=>?_)
 clear HH
 have hb:Below w w V:=ho.below aa fun _ h=>h.elim
 have V_:w.heap.size+2<V.heap.size:=(HV.blk _ ab).2.lt
 have HQ:=ah (Ji (fun b=>p b∧b<w.heap.size) g c T m.r.id (by have:=oX.lg.len;omega) V (ov.later hb))
 refine HQ.mono ?_
 rintro e w1⟨⟨E,k,rfl,hown⟩,hb1⟩
 obtain⟨E',k',e1,_,hrd,hlo⟩:=li hown
 cases e1
 have wZ:=ah hrd
 have BG:=ah hlo
 have xc:=ah ((ov.later hb).later hb1)
 replace HV:=ah (HV.call hb1)
 have hs1:=hb1.size
 obtain⟨l,Dg⟩:∃l,l=lA T.ll m.r.id:=⟨_,rfl⟩
 rw[←Dg]at wZ
 rw[←Dg]
 have HFF:=ah Dg
 clear HQ hb1 hown hrd hlo Dg
 have x:=fk (HV.facts)
 have td:=aS (HV.all 0 [jJ 0,jK 0,jM,jN E l k])
 have wY:=aS (Out.lp (X:=fun b=>b=w.heap.size+2) (g:=w.heap.size+2) (.inl rfl) [jJ 0,jK 0,jM,jN E l k] 0 (Out.refl _ w1))
 have lH:=ah td
 have oU:=ah wY
 clear td wY
 go_wp2_with fail
 refine kh (fun V=>Out (fun b=>b=w.heap.size+2) w1 V) lH oU (fun V9 H9 mB=>?_)
 have hq:=fk (H9.at_ 0)
 clear x HV lH oU
 refine jF (v:=.tuple #[.agg #[jJ 0,jK 0,jM,jN E l k],jJ 0]) (by simp[results,Tryz.results35,go_sem,hq]) rfl ?_
 exact l6.yes (y:=⟨0,0,[],l⟩) (n:=0) (by rw[HFF]) H9.out.out ((xc.out.out mB (fun b hb e=>qhc) jS).mono fun b hb=>.inl hb.1) rfl rfl rfl rfl Rd.none_ (fun _ e=>LS) (mB.rd wZ fun _ ad e e2=>by have:=BG.out ad e;omega) (fun ad e=>by have:=BG.out ad e;omega)
theorem Oy(p:Nat→Prop)(cb g:Nat)(id:Int)(c:lO)(T:kM)(m:ReqM)(hc:GC c)(hG:nH c T)(hf:lN m.r)(h4:4≤g)(w:jC)(hw:4≤w.heap.size)(hT:Tb w)(hE:Er w)(nD:kB w p g c T)(hp:∀b,p b→b≠g)(hM:ReqOk w w m)(G_:m.r.items≠[]→∀ad,m.ia=some ad→ad.block≠g):
 jE Tryz.prog 36 #[oZ 54 cb g id,.agg (aD m)] w (l6 w p g c T ((.ok (T,⟨0,kJ T.tb,[],[]⟩):Except Int (kM×Rep)))):=by
 have hgw:g<w.heap.size:=by obtain⟨_,_,_,_,_,_,_,h⟩:=nD;exact h.blk.lt
 have HT:=ah hT
 have HE:=ah hE
 have ov:=ah nD.lt
 have oX:=ah hG
 have HF:=ah hf
 have HC:=ah hc
 have HP:Hid (∀b,(p b∧b<w.heap.size)→b≠g):=fun b hb=>hp b hb.1
 have HM:=ah hM
 have Zr:=ah G_
 have HH:=ah ((((kj.nil (·=g) w).alloc w 88 [jO cb,jO g,jK id]).alloc (w.heap.size+1) 35 (lz 4 m)).alloc (w.heap.size+2) 55 bQ)
 clear hT hE nD hG hf hc hp hM G_
 go_in
 go_wp2_with fail
 refine kq (fun V=>(cF w V)) HH ((((Out.refl (fun _=>False) w).alloc _).alloc _).alloc _) (fun V HV ho=>?_)
 clear HH
 have hb:Below w w V:=ho.below aa fun _ h=>h.elim
 have V_:w.heap.size+2<V.heap.size:=(HV.blk _ ab).2.lt
 have HQ:=ah (xk (fun b=>p b∧b<w.heap.size) g c T oX.tb V (HT.later hb) (ov.later hb))
 have YI:=ah (Bg oX.tb)
 have hwr:IntKind.u64.wrap (kJ T.tb)=kJ T.tb:=gC _ (by have:=YI.out;omega)
 obtain⟨n,hn⟩:∃n,n=kJ T.tb:=⟨_,rfl⟩
 rw[←hn]at hwr HQ
 have HN:=ah hn
 clear hn
 refine HQ.mono ?_
 rintro e w1⟨rfl,hb1⟩
 have xc:=ah ((ov.later hb).later hb1)
 replace HV:=ah (HV.call hb1)
 have hs1:=hb1.size
 clear HQ hb1
 have x:=fk (HV.facts)
 have td:=aS (HV.all 0 [jJ 0,jK n,jM,jM])
 have wY:=aS (Out.lp (X:=fun b=>b=w.heap.size+2) (g:=w.heap.size+2) (.inl rfl) [jJ 0,jK n,jM,jM] 0 (Out.refl _ w1))
 have lH:=ah td
 have oU:=ah wY
 clear td wY
 go_wp2_with fail
 refine kh (fun V=>Out (fun b=>b=w.heap.size+2) w1 V) lH oU (fun V9 H9 mB=>?_)
 have hq:=fk (H9.at_ 0)
 clear x HV lH oU
 refine jF (v:=.tuple #[.agg #[jJ 0,jK n,jM,jM],jJ 0]) (by simp[results,Tryz.results36,go_sem,hq]) rfl ?_
 exact l6.yes (y:=⟨0,n,[],[]⟩) (n:=n) (by rw[HN]) H9.out.out ((xc.out.out mB (fun b hb e=>qhc) jS).mono fun b hb=>.inl hb.1) rfl rfl rfl rfl Rd.none_ (fun _ e=>LS) Rd.none_ (fun _ e=>LS)
theorem Ic(p:Nat→Prop)(cb g:Nat)(id:Int)(c:lO)(T:kM)(m:ReqM)(hc:GC c)(hG:nH c T)(hf:lN m.r)(h4:4≤g)(w:jC)(hw:4≤w.heap.size)(hT:Tb w)(hE:Er w)(nD:kB w p g c T)(hp:∀b,p b→b≠g)(hM:ReqOk w w m)(G_:m.r.items≠[]→∀ad,m.ia=some ad→ad.block≠g):
 jE Tryz.prog 30 #[oZ 54 cb g id,.agg (aD m)] w (l6 w p g c T ((nl c T m.r.now m.r.labels m.r.kind m.r.items).map fun x=>(x.1,⟨0,kJ x.1.tb,x.2,[]⟩))):=by
 have hgw:g<w.heap.size:=by obtain⟨_,_,_,_,_,_,_,h⟩:=nD;exact h.blk.lt
 have HT:=ah hT
 have HE:=ah hE
 have ov:=ah nD.lt
 have oX:=ah hG
 have HF:=ah hf
 have HC:=ah hc
 have HP:Hid (∀b,(p b∧b<w.heap.size)→b≠g):=fun b hb=>hp b hb.1
 have HM:=ah hM
 have Zr:=ah G_
 have HH:=ah ((((kj.nil (·=g) w).alloc w 88 [jO cb,jO g,jK id]).alloc (w.heap.size+1) 35 (lz 4 m)).alloc (w.heap.size+2) 55 bQ)
 clear hT hE nD hG hf hc hp hM G_
 go_in
 go_wp2_with fail
 refine kq (fun V=>(cF w V)) HH ((((Out.refl (fun _=>False) w).alloc _).alloc _).alloc _) (fun V HV ho=>?_)
 clear HH
 have hb:Below w w V:=ho.below aa fun _ h=>h.elim
 have V_:w.heap.size+2<V.heap.size:=(HV.blk _ ab).2.lt
 have Vx:Hid (∀T2 a,nl c T m.r.now m.r.labels m.r.kind m.r.items=.ok (T2,a)→GT T2.tb):=fun T2 a e=>(wy oX HF.now HF.iu e).1.g.tb
 have HTV:=ah (HT.later hb)
 have HQ:=ah (FA (fun b=>p b∧b<w.heap.size) g c T m.r.now m.r.labels m.r.kind m.ia m.ic m.r.items HC oX HF.now (by have:=HF.labels;omega) (by have:=HF.items;omega) HF.iu h4 V jS (HT.later hb) (HE.later hb) (ov.later hb) HP (HM.later hb).i Zr)
 obtain⟨r,hr⟩:∃r,r=nl c T m.r.now m.r.labels m.r.kind m.r.items:=⟨_,rfl⟩
 rw[←hr]at HQ Vx
 have HRR:=ah hr
 clear hr
 refine HQ.mono ?_
 rintro e w1⟨ho1,h1⟩
 have HT1:Hid (Tb w1):=HTV.rH ho1 fun b e=>jS
 replace HV:=ah (HV.wP ho1 (fun k e=>.inl e) (fun b hb e=>by simp at hb;rcases hb with rfl|rfl|rfl<;>simp at e<;>omega))
 have hs1:=ho1.size
 clear HQ ho1
 have x:=fk (HV.facts)
 cases r with
 |error er=>
  obtain⟨rfl,h0,mo⟩:=h1;have HQ:=ah (xk (fun b=>p b∧b<w.heap.size) g c T oX.tb w1 HT1 mo);have xc:=ah mo;have H0:=ah h0;have YI:=ah (Bg oX.tb);have hwr:IntKind.u64.wrap (kJ T.tb)=kJ T.tb:=gC _ (by have:=YI.out;omega);obtain⟨n,hn⟩:∃n,n=kJ T.tb:=⟨_,rfl⟩;rw[←hn]at hwr HQ;clear h0 mo hn YI;go_wp2_with fail;refine HQ.mono ?_;rintro e w2⟨rfl,hb2⟩;replace xc:=ah (xc.later hb2);replace HV:=ah (HV.call hb2);have hs2:=hb2.size;clear HQ hb2 x;have x:=fk (HV.facts);have td:=aS (HV.all 0 [jJ 0,jK n,jM,jM]);have wY:=aS (Out.lp (X:=fun b=>b=w.heap.size+2) (g:=w.heap.size+2) (.inl rfl) [jJ 0,jK n,jM,jM] 0 (Out.refl _ w2));have lH:=ah td;have oU:=ah wY;clear td wY;go_wp2_with fail;refine kh (fun V=>Out (fun b=>b=w.heap.size+2) w2 V) lH oU (fun V9 H9 mB=>?_);have hq:=fk (H9.at_ 0);clear x HV lH oU;refine jF (v:=.tuple #[.agg #[jJ 0,jK n,jM,jM],jJ er]) (by simp[results,Tryz.results30,go_sem,hq]) rfl ?_;exact l6.no (by rw[←HRR];try rfl) H9.out.out H0 ((xc.out.out mB (fun b hb e=>qhc) jS).mono fun b hb=>hb.1)
 |ok r=>
  obtain⟨T2,a⟩:=r;obtain⟨⟨v,rfl,A,k,rfl,hrd,hlo⟩,mo⟩:=h1;have HQ:=ah (xk (fun b=>(p b∧b<w.heap.size)∨V.heap.size≤b) g c T2 (Vx T2 a rfl) w1 HT1 mo);have xc:=ah mo;have YI:=ah (Bg (Vx T2 a rfl));have hwr:IntKind.u64.wrap (kJ T2.tb)=kJ T2.tb:=gC _ (by have:=YI.out;omega);have wZ:=ah hrd;have BG:=ah hlo;obtain⟨n,hn⟩:∃n,n=kJ T2.tb:=⟨_,rfl⟩;rw[←hn]at hwr HQ;have HN:=ah hn;clear mo hrd hlo hn YI;go_wp2_with fail;refine HQ.mono ?_;rintro e w2⟨rfl,hb2⟩;replace xc:=ah (xc.later hb2);have Vq:Hid (Rd w2 w2 A (lC a)):=(Rd.below wZ hb2).more hb2.size;replace HV:=ah (HV.call hb2);have hs2:=hb2.size;clear HQ hb2 x wZ;have x:=fk (HV.facts);have td:=aS (HV.all 0 [jJ 0,jK n,jN A a k,jM]);have wY:=aS (Out.lp (X:=fun b=>b=w.heap.size+2) (g:=w.heap.size+2) (.inl rfl) [jJ 0,jK n,jN A a k,jM] 0 (Out.refl _ w2));have lH:=ah td;have oU:=ah wY;clear td wY;go_wp2_with fail;refine kh (fun V=>Out (fun b=>b=w.heap.size+2) w2 V) lH oU (fun V9 H9 mB=>?_);have hq:=fk (H9.at_ 0);clear x HV lH oU;refine jF (v:=.tuple #[.agg #[jJ 0,jK n,jN A a k,jM],jJ 0]) (by simp[results,Tryz.results30,go_sem,hq]) rfl ?_;exact l6.yes (y:=⟨0,n,a,[]⟩) (n:=n) (by rw[←HRR,HN];try rfl) H9.out.out ((xc.out.out mB (fun b hb e=>by rcases hb with hb|hb;have:=hb.2;omega;omega) jS).mono fun b hb=>hb.elim (fun h=>.inl h.1) fun h=>.inr jS) rfl rfl rfl rfl (mB.rd Vq fun _ ad e e2=>by have:=BG.out ad e;omega) (fun ad e=>by have:=BG.out ad e;omega) Rd.none_ (fun _ e=>LS)
variable{sc:ByteArray}{kind:Int}
theorem PS{l:List Gr}{to:Int}{t:List mq}(h:qT l to t sc kind=.error er):er≠0:=by
 unfold qT at h;repeat' split at h
 all_goals first|(cases h;done)|(cases h;decide)
variable{C:Col}
theorem TU{own id:Int}(hf:m6 C id=some k)(he:C[k]? =some (c,T)):uV C own sc kind id=if id=own then kA T.tb sc kind else qT T.gl own T.tb sc kind:=by
 unfold uV;rw[hf];simp only;rw[he]
variable{s:Sk}
theorem step_none{own id:Int}(hf:m6 C id=none):ln C own sc kind s id=s:=by
 unfold ln uV;rw[hf]
theorem FI{own id:Int}(h:uV C own sc kind id=.error er):ln C own sc kind s id=s:=by unfold ln;rw[h]
theorem step_ok{own id:Int}{p:Sk}(h:uV C own sc kind id=.ok p):ln C own sc kind s id=mZ s p:=by unfold ln;rw[h]
def Ym(w:jC)(s0:SkM)(r:Sk)(e:bi6)(w':jC):Prop:=Below w w w'∧∃s:SkM,s.s=r∧e=.returned (nT s)∧jY w' w' s∧(s=s0∨lY (w.heap.size≤ ·) s)
theorem Ib(X:Nat→Prop)(cb g0:Nat)(G:List Nat)(ka kb:Int)(C:Col)(own id:Int)(s:SkM)(m:ReqM)(N4:nR C)(I1:C.length≤100)(hs:GK s.s)(hk:s.s.kind=m.r.kind)(hsc:m.r.scope.size≤1000)(w:jC)(hT:Tb w)(hE:Er w)(hC:kE X w cb G ka kb C)(hok:jY w w s):
 jE Tryz.prog 59 #[oZ 54 cb g0 own,nT s,jK id,.agg (aD m)] w (Ym w s (ln C own m.r.scope m.r.kind s.s id)):=by
 have HT:=ah hT
 have HE:=ah hE
 have HC:=ah hC
 have HG:=ah N4
 have HS:=ah hok
 have yZ:=ah hs
 have Wv:=ah hk
 have HH:=ah (((((Hold.nil w).alloc w 88 [jO cb,jO g0,jK own]).alloc (w.heap.size+1) 136 (aA s)).alloc (w.heap.size+2) 35 (lz 4 m)).alloc (w.heap.size+3) 136 [jJ 0,jJ 0,jM,jJ 0,aF,jJ 0,jJ 0,jM,jJ 0,jM])
 clear hT hE hC N4 hok hs hk
 unfold nT
 go_in
 go_wp2_with fail
 refine kf (fun _=>True) HH trivial (fun V HV _=>?_)
 clear HH
 have V_:w.heap.size+3<V.heap.size:=(HV.blk _ ab).2.lt
 refine(uA X cb G ka kb C id I1 V (HC.later HV.below)).mono ?_
 rintro e w1⟨rfl,rfl⟩
 have x:=fk (HV.facts)
 cases hf:m6 C id with
 |none=>
  have HST:Hid (ln C own m.r.scope m.r.kind s.s id=s.s):=step_none hf;generalize ln C own m.r.scope m.r.kind s.s id=r at*
  clear hf;unfold Ad;have HRR:=aS (HV.all 0 (aA s));go_wp2_with fail;refine kw (fun _=>True) HRR trivial (fun V9 H9 _=>?_);have hq:=fk (H9.at_ 0);clear x HRR HV;refine jF (v:=.agg (aB s)) (by simp[results,Tryz.results59,go_sem,hq]) rfl ?_;exact⟨H9.below,s,HST.symm,rfl,HS.later H9.below,.inl rfl⟩
 |some k=>
  obtain⟨hkl,Ut⟩:=EL hf;have hkg:k<G.length:=by rw[HC.len];exact hkl
  have OR:Hid (uV C own m.r.scope m.r.kind id=if id=own then kA C[k].2.tb m.r.scope m.r.kind else qT C[k].2.gl own C[k].2.tb m.r.scope m.r.kind):=TU hf (an hkl);have Zm:Hid (∀p,uV C own m.r.scope m.r.kind id=.ok p→GK p∧p.kind=m.r.kind):=fun p e=>Qf HG e;have ov:Hid (∀W,Below w w W→kB W (fun b=>¬X b) G[k] C[k].1 C[k].2):=fun W hb=>(HC.ten k hkl hkg).later hb;have oX:=ah (HG.ten _ (ar hkl));have hp:Ad G (some k)=.pointer (some ⟨G[k],0,none⟩):=by simp only[Ad,an hkg]
  rw[hp];generalize G[k]=g at*
  generalize C[k]=ct at*
  obtain⟨c,T⟩:=ct;simp only at OR ov oX;have HA:=ah (HV.alloc w1 136 [jJ 0,jJ 0,jM,jJ 0,aF,jJ 0,jJ 0,jM,jJ 0,jM]);clear hf hp;by_cases hid:id=own
  ·rw[if_pos hid]at OR;have b1:(id==own)=true:=by simp[hid]
   have b2:decide (id=own)=true:=by simp[hid]
   have IV:Hid (∀er,kA T.tb m.r.scope m.r.kind=.error er→er≠0):=fun er e=>An e;have QC:Hid (∀W,Below w w W→jE Tryz.prog 74 #[jO g,jL m.r.scope,jJ m.r.kind] W (mU W (kA T.tb m.r.scope m.r.kind))):=fun W hb=>Fw (fun b=>¬X b) g c T m.r.scope m.r.kind oX.tb hsc W (HT.later hb) (HE.later hb) (ov W hb);generalize kA T.tb m.r.scope m.r.kind=r at*
   clear hid;go_wp2_with fail;refine kf (fun _=>True) HA trivial (fun V HV _=>?_);clear x HA;have hz1:w1.heap.size<V.heap.size:=(HV.blk _ ab).2.lt;refine(QC V HV.below).mono ?_;rintro e w3⟨hb3,h3⟩;have hs3:=hb3.size;replace HV:=ah (HV.call hb3);clear hb3 QC;have x:=fk (HV.facts)
   cases r with
   |error er=>
    simp only at h3;subst h3;have HST:Hid (ln C own m.r.scope m.r.kind s.s id=s.s):=FI OR;generalize ln C own m.r.scope m.r.kind s.s id=rr at*
    have h0:¬er=0:=IV er rfl;have HRR:=(HV.all 0 [jJ 0,jJ 0,jM,jJ 0,aF,jJ 0,jJ 0,jM,jJ 0,jM]).all 1 (aA s);simp only[xl,lp,au,ao,ak,am]at HRR;have lH:=ah HRR;clear HRR OR Zm IV;simp only[xl];go_wp2_with fail;refine kw (fun _=>True) lH trivial (fun V9 H9 _=>?_);have hq:=fk (H9.at_ 1);clear x lH HV;refine jF (v:=.agg (aB s)) (by simp[results,Tryz.results59,go_sem,hq]) rfl ?_;exact⟨H9.below,s,HST.symm,rfl,HS.later H9.below,.inl rfl⟩
   |ok p=>
    obtain⟨mp,rfl,rfl,wA,uI⟩:=h3;have HST:Hid (ln C own m.r.scope m.r.kind s.s id=mZ s.s mp.s):=step_ok OR;have HGP:=ah (Zm mp.s OR);generalize ln C own m.r.scope m.r.kind s.s id=rr at*
    have HRR:=aS (HV.all 0 (aA mp));have yH:=aS (jY.lp (g:=w1.heap.size) (uI.mono fun b hb=>jS) (aA mp) 0 wA);have lH:=ah HRR;have YA:=ah yH;clear HRR OR Zm IV wA yH;unfold nT;go_wp2_with fail;refine kf (fun V=>jY V V mp) lH YA (fun V2 DE hk2=>?_);clear x lH YA HV;have hz2:w.heap.size+3<V2.heap.size:=(DE.blk _ (ac 1)).2.lt;have QM:=ah (vC s mp yZ HGP.1 (by rw[Wv,HGP.2]) V2 (HE.later DE.below) (HS.later DE.below) hk2);unfold nT at QM;refine QM.mono ?_;rintro e w8⟨m8,Mh,rfl,tQ,wC,hb8⟩;have hs8:=hb8.size;replace DE:=ah (DE.call hb8);have Vv:=ah Mh;have qO:=wC.inn;have nZ:=aS ((jY.lp (g:=w.heap.size+3) (qO.mono fun b(hb:V2.heap.size≤b)=>jS) (aA m8) 0 tQ).later ((Below.refl _ (lp w8 (w.heap.size+3) 0 (aA m8))).alloc aa (.cells (aB m8) 136)));have HRR:=aS ((DE.all 1 (aA m8)).alloc w8 136 (aA m8) (qj _ _ _ _).symm);have lH:=ah HRR;have YB:=ah nZ;have O8:Hid (lY (w.heap.size≤ ·) m8):=qO.mono fun b(hb:V2.heap.size≤b)=>jS;clear QM hb8 Mh tQ wC qO nZ HRR;have x:=fk (DE.facts);unfold nT;go_wp2_with fail;refine kw (fun V=>jY V V m8) lH YB (fun V9 H9 hk9=>?_);have hq:=fk (H9.at_ 2);clear x lH DE YB;refine jF (v:=.agg (aB m8)) (by simp[results,Tryz.results59,go_sem,hq]) rfl ?_;exact⟨H9.below,m8,by rw[Vv,HST],rfl,hk9,.inr O8⟩
  rw[if_neg hid]at OR;have b1:(id==own)=false:=by simp[hid]
  have b2:decide (id=own)=false:=by simp[hid]
  have IV:Hid (∀er,qT T.gl own T.tb m.r.scope m.r.kind=.error er→er≠0):=fun er e=>PS e;have QC:Hid (∀W,Below w w W→jE Tryz.prog 77 #[jO g,jK own,jL m.r.scope,jJ m.r.kind] W (mU W (qT T.gl own T.tb m.r.scope m.r.kind))):=fun W hb=>M6 (fun b=>¬X b) g c T own m.r.scope m.r.kind oX.tb oX.gg hsc W (HT.later hb) (HE.later hb) (ov W hb);generalize qT T.gl own T.tb m.r.scope m.r.kind=r at*
  clear hid;go_wp2_with fail;refine kf (fun _=>True) HA trivial (fun V HV _=>?_);clear x HA;have hz1:w1.heap.size<V.heap.size:=(HV.blk _ ab).2.lt;refine(QC V HV.below).mono ?_;rintro e w3⟨hb3,h3⟩;have hs3:=hb3.size;replace HV:=ah (HV.call hb3);clear hb3 QC;have x:=fk (HV.facts)
  cases r with
  |error er=>
   simp only at h3;subst h3;have HST:Hid (ln C own m.r.scope m.r.kind s.s id=s.s):=FI OR;generalize ln C own m.r.scope m.r.kind s.s id=rr at*
   have h0:¬er=0:=IV er rfl;have HRR:=(HV.all 0 [jJ 0,jJ 0,jM,jJ 0,aF,jJ 0,jJ 0,jM,jJ 0,jM]).all 1 (aA s);simp only[xl,lp,au,ao,ak,am]at HRR;have lH:=ah HRR;clear HRR OR Zm IV;simp only[xl];go_wp2_with fail;refine kw (fun _=>True) lH trivial (fun V9 H9 _=>?_);have hq:=fk (H9.at_ 1);clear x lH HV;refine jF (v:=.agg (aB s)) (by simp[results,Tryz.results59,go_sem,hq]) rfl ?_;exact⟨H9.below,s,HST.symm,rfl,HS.later H9.below,.inl rfl⟩
  |ok p=>
   obtain⟨mp,rfl,rfl,wA,uI⟩:=h3;have HST:Hid (ln C own m.r.scope m.r.kind s.s id=mZ s.s mp.s):=step_ok OR;have HGP:=ah (Zm mp.s OR);generalize ln C own m.r.scope m.r.kind s.s id=rr at*
   have HRR:=aS (HV.all 0 (aA mp));have yH:=aS (jY.lp (g:=w1.heap.size) (uI.mono fun b hb=>jS) (aA mp) 0 wA);have lH:=ah HRR;have YA:=ah yH;clear HRR OR Zm IV wA yH;unfold nT;go_wp2_with fail;refine kf (fun V=>jY V V mp) lH YA (fun V2 DE hk2=>?_);clear x lH YA HV;have hz2:w.heap.size+3<V2.heap.size:=(DE.blk _ (ac 1)).2.lt;have QM:=ah (vC s mp yZ HGP.1 (by rw[Wv,HGP.2]) V2 (HE.later DE.below) (HS.later DE.below) hk2);unfold nT at QM;refine QM.mono ?_;rintro e w8⟨m8,Mh,rfl,tQ,wC,hb8⟩;have hs8:=hb8.size;replace DE:=ah (DE.call hb8);have Vv:=ah Mh;have qO:=wC.inn;have nZ:=aS ((jY.lp (g:=w.heap.size+3) (qO.mono fun b(hb:V2.heap.size≤b)=>jS) (aA m8) 0 tQ).later ((Below.refl _ (lp w8 (w.heap.size+3) 0 (aA m8))).alloc aa (.cells (aB m8) 136)));have HRR:=aS ((DE.all 1 (aA m8)).alloc w8 136 (aA m8) (qj _ _ _ _).symm);have lH:=ah HRR;have YB:=ah nZ;have O8:Hid (lY (w.heap.size≤ ·) m8):=qO.mono fun b(hb:V2.heap.size≤b)=>jS;clear QM hb8 Mh tQ wC qO nZ HRR;have x:=fk (DE.facts);unfold nT;go_wp2_with fail;refine kw (fun V=>jY V V m8) lH YB (fun V9 H9 hk9=>?_);have hq:=fk (H9.at_ 2);clear x lH DE YB;refine jF (v:=.agg (aB m8)) (by simp[results,Tryz.results59,go_sem,hq]) rfl ?_;exact⟨H9.below,m8,by rw[Vv,HST],rfl,hk9,.inr O8⟩
structure nG(X:Nat→Prop)(w:jC)(m:ReqM):Prop where
 i:pO X w m.ia (m.r.items.flatMap Q8)
 t:pO X w m.ta (qM m.r.jV)
 ic:m.r.items.length≤m.ic
 tc:m.r.jV.length≤m.tc
variable{m:ReqM}
theorem nG.ok(h:nG X w m):ReqOk w w m:=⟨h.i.rd,h.t.rd,h.ic,h.tc⟩
theorem nG.out{X:Nat→Prop}{w w':jC}{m:ReqM}(h:nG X w m)(ho:Out X w w'):nG X w' m:=⟨h.i.out ho,h.t.out ho,h.ic,h.tc⟩
theorem nG.later(h:nG X w m)(hb:(bJ w w')):nG X w' m:=h.out (Out.of hb)
theorem nG.wide{X Y:Nat→Prop}{w:jC}{m:ReqM}(h:nG X w m)(hy:∀b,Y b→X b∨w.heap.size≤b):nG Y w m:=⟨h.i.wide hy,h.t.wide hy,h.ic,h.tc⟩
theorem nG.gi(h:nG X w m)(hg:X g):m.r.items≠[]→∀ad,m.ia=some ad→ad.block≠g:=fun e ad ea eg=>h.i.x (fun e2=>e (by cases hi:m.r.items with|nil=>rfl|cons y r=>rw[hi]at e2;simp[Q8]at e2)) ad ea (eg▸hg)
variable{cb:Nat}{G:List Nat}{ka kb:Int}
theorem kE.narrow{Y:Nat→Prop}(h:kE Y w cb G ka kb C)(hy:∀b,X b→Y b)(hx:∀g∈G,X g):kE X w cb G ka kb C:=by
 obtain⟨IA,ic,TA,tc,h1,h2,h3⟩:=h.blk;exact⟨⟨IA,ic,TA,tc,h1,⟨h2.rd,fun e ad ea hb=>h2.x e ad ea (hy _ hb)⟩,⟨h3.rd,fun e ad ea hb=>h3.x e ad ea (hy _ hb)⟩⟩,fun e=>h.cx (hy _ e),h.len,h.nd,hx,h.g4,fun k hk hg=>(h.ten k hk hg).mono fun b hb e=>hb (hy b e)⟩
theorem yj: "rollup".toByteArray=⟨#[114,111,108,108,117,112]⟩:=TO
theorem kE.fresh{w1 w2:jC}{b0:Nat}(h:kE X w cb G ka kb C)(h1:(cF w w1))(h2:Out (fun b=>b=b0) w1 w2)(hb:w.heap.size≤b0)(hX:∀b,X b→b<w.heap.size):kE X w2 cb G ka kb C:=
 h.later ((h1.then_ (X:=fun _=>False) h2 fun k e=>.inr jS).below aa fun _ e=>e.elim)
def Lo(X:Nat→Prop)(w:jC)(cb g:Nat)(G:List Nat)(ka kb:Int)(C:Col)(k:Nat)(c:lO)(r:s9)(n:Except Int (kM×Unit))(e:bi6)(w':jC):Prop:=
 Out (·=g) w w'∧match n with
 |.error er=>e=.returned (.tuple #[cR,jJ er])∧er≠0∧kE X w' cb G ka kb C
 |.ok (T',_)=>e=.returned (.tuple #[.agg #[jJ 0,jK (rt (vm (C.set k (c,T')) c.id r.scope r.kind r.jV) r.h),jM,jM],jJ 0])∧kE X w' cb G ka kb (C.set k (c,T'))
theorem M_{own:Int}{ids:List Int}(h:k<ids.length):vm C own sc kind (ids.take (k+1))=ln C own sc kind (vm C own sc kind (ids.take k)) ids[k]:=by
 unfold vm;rw[aj h,fE];try rfl
theorem Hx(X:Nat→Prop)(cb:Nat)(G:List Nat)(ka kb:Int)(C:Col)(k:Nat)(g:Nat)(c:lO)(T:kM)(m:ReqM)(N4:nR C)(I1:C.length≤100)(hk:C[k]? =some (c,T))(hg:G[k]? =some g)(hf:lN m.r)(w:jC)(hw:4≤w.heap.size)(hX:∀b,X b→b<w.heap.size)(hT:Tb w)(hE:Er w)(hC:kE X w cb G ka kb C)(hM:nG X w m):
 jE Tryz.prog 32 #[.agg #[jO cb,jO g,jK c.id],.agg (aD m)] w (Lo X w cb g G ka kb C k c m.r (qt c T m.r)):=by
 obtain⟨r,ia,ic,ta,tc⟩:=m
 simp only at hf
 show jE Tryz.prog 32 #[.agg #[jO cb,jO g,jK c.id],.agg #[jJ r.op,jK r.now,jL r.labels,jL r.scope,jJ r.kind,jN ia r.items ic,jK r.h,jK r.to,jK r.id,jN ta r.jV tc]] w (Lo X w cb g G ka kb C k c r (qt c T r))
 obtain⟨hkl,hke⟩:=ci.1 hk
 obtain⟨hgl,hge⟩:=ci.1 hg
 have HT:=ah hT
 have HE:=ah hE
 have HC:=ah hC
 have HG:=ah N4
 have HM:=ah hM
 have HF:=ah hf
 have HX:=ah hX
 have Zt:=ah hke
 have HGE:=ah hge
 have hgm:g∈G:=hge▸ar hgl
 have HXG:=ah (hC.gx g hgm)
 have h4:4≤g:=hC.g4 g hgm
 have hgw:g<w.heap.size:=hX g HXG
 have HCT:=ah (N4.at_ hk)
 have HH:=ah ((((kj.nil (·=g) w).alloc w 88 [jO cb,jO g,jK c.id]).alloc (w.heap.size+1) 35 [jJ r.op,jK r.now,jL r.labels,jL r.scope,jJ r.kind,jN ia r.items ic,jK r.h,jK r.to,jK r.id,jN ta r.jV tc]).alloc (w.heap.size+2) 55 bQ)
 clear hT hE hC N4 hM hf hX hk hg hke hge
 by_cases h8:8<r.jV.length
 ·have HN:Hid (qt c T r=.error 181):=by show _=_;unfold qt;rw[if_pos h8]
  generalize qt c T r=rr at*
  have d1:decide ((8:Int)<r.jV.length)=true:=ae;go_in;go_wp2_with fail;refine kh (fun V=>(cF w V)) HH ((((Out.refl (fun _=>False) w).alloc _).alloc _).alloc _) (fun V9 H9 mB=>?_);have hq:=fk (H9.at_ 0);clear HH;refine jF (v:=.tuple #[cR,jJ 181]) (by simp[results,Tryz.results32,go_sem,hq]) rfl ?_;exact⟨H9.out.out,by rw[HN];exact⟨rfl,B8,HC.later (mB.below aa fun _ h=>h.elim)⟩⟩
 have d1:decide ((8:Int)<r.jV.length)=false:=ag
 have QR:Hid (∀W,(cF w W)→jE Tryz.prog 56 #[jL r.scope] W fun e w'=>e=.returned (.bool (mw r.scope))∧Below W W w'):=fun W ho=>uk r.scope (by have:=HF.scope;omega) W (HT.rH ho fun b e=>e.elim)
 have H8:=ah h8
 clear h8
 generalize hrr:qt c T r=rr
 have IT:=ah hrr
 clear hrr
 go_in
 go_wp2_with fail
 refine kq (fun V=>(cF w V)) HH ((((Out.refl (fun _=>False) w).alloc _).alloc _).alloc _) (fun V HV ho=>?_)
 clear HH d1
 refine(QR V ho).mono ?_
 rintro e w1⟨rfl,hb1⟩
 replace HV:=ah (HV.call hb1)
 have HO:=ah (ho.call hb1)
 clear QR hb1 ho
 have x:=fk (HV.facts)
 cases hsc:mw r.scope with
 |false=>
  have HN:Hid (rr=.error 50):=by show _=_;rw[←IT];unfold qt;rw[if_neg H8,if_neg (by rw[hsc];decide)]
  clear IT hsc;go_wp2_with fail;have HRR:=aS (HV.all 0 bQ);have mB:=aS (Out.lp (X:=fun b=>b=w.heap.size+2) (g:=w.heap.size+2) (.inl rfl) bQ 0 (Out.refl _ w1));refine kh (fun V=>Out (fun b=>b=w.heap.size+2) w1 V) HRR mB (fun V9 H9 mB=>?_);have hq:=fk (H9.at_ 0);clear HRR;refine jF (v:=.tuple #[cR,jJ 50]) (by simp[results,Tryz.results32,go_sem,hq]) rfl ?_;exact⟨H9.out.out,by rw[HN.out];exact⟨rfl,B8,(HC.out.fresh HO.out mB jS HX.out)⟩⟩
 |true=>
  have HSC:=ah hsc;clear hsc;go_wp2_with fail;by_cases hk:1≤r.kind∧r.kind≤3
  ·have HK:=ah hk;have MQ:Hid (CV c T r.now "rollup".toByteArray=rr):=by show _=_;rw[←IT.out];unfold qt;rw[if_neg H8.out,if_pos HSC.out,if_pos hk]
   refine(AE r.kind hk w1).mono ?_;rintro e w2⟨s0,hs0,rfl,hok0,hfr0,hb2⟩;have hs2:=hb2.size;have hsO:=HO.size;have O7:=ah hs0;have oH:=ah (hok0.later ((Below.refl _ w2).alloc aa (.cells (aB s0) 136)));have al1:=ah hok0.inn;have aC9:=ah hfr0.inn;replace HV:=ah (HV.call hb2);have xd:=ah ((HO.call hb2).alloc (.cells (aB s0) 136));have HA:=ah (HV.alloc w2 136 (aA s0));clear x hk IT hok0 hfr0 hb2 hs0 HO;have x:=fk (HV.facts);unfold nT;go_wp2_with fail;have hw2:w.heap.size+2<w2.heap.size:=x.1;refine kq (fun V=>(cF w V)∧jY V V s0) HA ⟨xd,oH⟩ (fun V HV hV=>?_);obtain⟨ho,aa0⟩:=hV;clear x HA xd oH;have hbV:Below w w V:=ho.below aa fun _ h=>h.elim;have V_:w2.heap.size<V.heap.size:=(HV.blk _ ab).2.lt;obtain⟨X',hX'⟩:∃X':Nat→Prop,X'=fun b=>X b∨(w.heap.size≤b∧b<V.heap.size):=⟨_,rfl⟩;have E8:Hid (∀b,X' b↔(X b∨(w.heap.size≤b∧b<V.heap.size))):=fun b=>by rw[hX']
   have HCV:Hid (kE X' V cb G ka kb C):=(HC.wide (fun b hb=>by rcases(E8 b).1 hb with h|h;exact .inl h;exact .inr h.1) fun g hg=>(E8 g).2 (.inl (HC.gx g hg))).later hbV;have Fi:Hid (kB V (fun b=>¬X' b) g c T):=by
    have:=HCV.ten k hkl hgl;rw[Zt,HGE]at this;exact this
   have QN:=ah (M2 (fun b=>¬X' b) g c T r.now "rollup".toByteArray HCT.1 HCT.2 HF.now (by rw[yj];decide) h4 V (HT.later hbV) Fi (fun b hb e=>hb (by rw[e];exact(E8 g).2 (.inl HXG))));rw[MQ]at QN;rw[yj]at QN;clear hX' Fi;refine QN.mono ?_;rintro e w5⟨Mf,h5⟩;have hs5:=Mf.size;replace HV:=ah (HV.wP Mf (fun k e=>.inl e) (fun b hb e=>by simp at hb;rcases hb with rfl|rfl|rfl|rfl<;>simp at e<;>omega));have BC:=ah Mf;have HO:Hid (Out (·=g) w w5):=(ho.mono fun _ _ h=>h.elim).trans Mf;have aj2:Hid (jY w5 w5 s0):=Mf.sk aa0 (lY.mono (lY.both al1 aC9) fun b hb e=>by have:=HO.size;have h1:w1.heap.size≤b:=hb.2;omega);clear QN Mf ho aa0 hbV;have x:=fk (HV.facts)
   cases rr with
   |error er=>
    obtain⟨rfl,h0,mo⟩:=h5;have H0:=ah h0;have Zy:Hid (kE X' w5 cb G ka kb C):=by
     have:=HCV.same hkl hgl (by rw[HGE];exact BC) (by rw[HGE,Zt];exact mo) (fun b hb=>by rcases(E8 b).1 hb with h|h;have:=HX b h;omega;exact h.2);exact this
    clear mo;replace h0:¬er=0:=h0;go_wp2_with fail;have HRR:=aS (HV.all 1 bQ);have mB:=aS (Out.lp (X:=fun b=>b=w.heap.size+2) (g:=w.heap.size+2) (.inl rfl) bQ 0 (Out.refl _ w5));refine kh (fun V=>Out (fun b=>b=w.heap.size+2) w5 V) HRR mB (fun V9 H9 mB=>?_);have hq:=fk (H9.at_ 1);clear HRR x;refine jF (v:=.tuple #[cR,jJ er]) (by simp[results,Tryz.results32,go_sem,hq]) rfl ?_;exact⟨H9.out.out,rfl,H0,(Zy.out.out mB fun b e=>⟨(E8 b).2 (.inr jS),fun hm=>by have:=HX.out b (HC.gx b hm);omega⟩).narrow (fun b hb=>(E8 b).2 (.inl hb)) HC.gx⟩
   |ok tu=>
    obtain⟨T',u⟩:=tu;obtain⟨⟨v,rfl,rfl⟩,mo⟩:=h5;have aD1:Hid (nH c T'):=(Qk HCT.2 HF.now MQ).1.g;have HC5:Hid (kE X' w5 cb G ka kb (C.set k (c,T'))):=by
     have:=HCV.set hkl hgl (T:=T') (by rw[HGE];exact BC) (by rw[HGE,Zt];exact mo) (fun b hb=>by rcases(E8 b).1 hb with h|h;have:=HX b h;omega;exact h.2);rwa[Zt]at this
    have HG5:Hid (nR (C.set k (c,T'))):=by
     have:=HG.set hkl (T:=T') (by rw[Zt];exact aD1);rwa[Zt]at this
    have aD9:Hid ((C.set k (c,T')).length≤100):=by show _≤_;rw[eq];exact I1
    have HTR:Hid (Rd w5 w5 ta (qM r.jV)):=HO.rd HM.t.rd fun h ad e e2=>HM.t.x h ad e (e2▸HXG);have HTI:Hid (qM r.jV≠[]→∀ad,ta=some ad→ad.block<w.heap.size):=HM.t.lt;have HT5:Hid (Tb w5):=HT.rH HO fun b e=>jS;have HE5:Hid (Er w5):=HE.rH HO fun b e=>jS;clear mo HCV;go_wp2_with fail;have SJ:Hid (s0.s=vm (C.set k (c,T')) c.id r.scope r.kind (r.jV.take 0)):=O7;have al0:Hid (lY (fun b=>b≠w2.heap.size) s0):=al1.mono fun b hb=>Nat.ne_of_lt hb;generalize hc5:C.set k (c,T')=C5 at*
    have HCE:=ah hc5;clear hc5;clear x O7;have h10:r.jV.length≤10:=HF.jV;generalize hsb:w2.heap.size=sb at*
    go_loopw[42] (fun i wr=>∃(j:Nat)(s:SkM),i=(aJ j)∧j≤r.jV.length∧Hid (s.s=vm C5 c.id r.scope r.kind (r.jV.take j))∧Hid (kj (·=g) w wr [(sb,136,aA s),(w.heap.size+2,55,bQ),(w.heap.size+1,35,[jJ r.op,jK r.now,jL r.labels,jL r.scope,jJ r.kind,jN ia r.items ic,jK r.h,jK r.to,jK r.id,jN ta r.jV tc]),(w,88,[jO cb,jO g,jK c.id])])∧Hid (jY wr wr s)∧Hid (lY (fun b=>b≠sb) s)∧Hid (Out (fun b=>b=sb) w5 wr)) (fun i _=>r.jV.length-(av i).toNat)
    case atStart=>exact⟨0,s0,rfl,be _,SJ,HV,aj2,al0,Out.refl _ _⟩
    clear HV SJ aj2 al0;obtain⟨j,s,rfl,hj,Zl,H,oH,I4,Ys⟩:=hrel;have x:=fk (H.facts);have hs6:=Ys.size;by_cases h1:j<r.jV.length
    ·have d1:decide ((j:Int)<r.jV.length)=true:=ae;have hne:qM r.jV≠[]:=fun e=>by have h9:=congrArg ez e;unfold qM at h9;rw[ax,dp]at h9;omega
     obtain⟨b,off,rfl,hb,hc⟩:=HTR hne;have hbl:b<w.heap.size:=HTI hne _ rfl;have aS1:w.heap.size≤sb:=jS;have i0:wr.cell? ⟨b,off+j,none⟩=some (.int .u64 r.jV[j]):=(Ys.cell (p:=⟨b,off+j,none⟩) hb (by show¬b=sb;omega)).trans (hc j _ (by unfold qM;rw[eD,an h1];try rfl));have xO:(0:Int)≤j:=jS;have xN:(j:Int)<r.jV.length:=jS;have hbw:b<wr.heap.size:=jS;have Vo:Hid (GK s.s∧s.s.kind=r.kind):=by show _∧_;rw[Zl];exact Px HG5 HK _
     have HST:Hid (vm C5 c.id r.scope r.kind (r.jV.take (j+1))=ln C5 c.id r.scope r.kind s.s r.jV[j]):=by show _=_;rw[M_ h1,Zl]
     have QM:=ah (Ib X' cb g G ka kb C5 c.id r.jV[j] s ⟨r,ia,ic,some ⟨b,off,none⟩,tc⟩ HG5 aD9 Vo.1 Vo.2 (by have:=HF.scope;show r.scope.size≤1000;omega) wr (HT5.out.rH Ys fun b e=>jS) (HE5.out.rH Ys fun b e=>jS) (HC5.out.out Ys fun b e=>⟨(E8 b).2 (.inr jS),fun hm=>by have:=HX.out b (HC.gx b hm);omega⟩) oH);unfold nT at QM;generalize r.jV[j]=tid at*
     clear hc;go_wp2_with fail;refine QM.mono ?_;rintro e w8⟨hb8,s8,hs8,rfl,tQ,qO⟩;have HS8:Hid (s8.s=vm C5 c.id r.scope r.kind (r.jV.take (j+1))):=by show _=_;rw[hs8,HST]
     have hz8:=hb8.size;have aS2:sb<wr.heap.size:=(H.blk _ ab).2.lt;have O8:Hid (lY (fun b=>b≠sb) s8):=by
      rcases qO with h|h
      ·rw[h];exact I4
      exact h.mono fun b(hb:wr.heap.size≤b)=>jS
     replace H:=ah (H.call hb8);have HRR:=aS (H.all 0 (aA s8));have nZ:=aS (jY.lp (g:=sb) O8 (aA s8) 0 tQ);have mB:=aS (Out.lp (X:=fun b=>b=sb) (g:=sb) (.inl rfl) (aA s8) 0 (Ys.call hb8));have lH:=ah HRR;have YB:=ah nZ;have SM:=ah mB;clear x HRR nZ mB QM hb8 tQ qO hs8 i0 d1;have x:=fk (H.facts);unfold nT;go_wp2_with fail;clear x H;go_roundw
     case rel=>exact⟨j+1,s8,CJ,jS,HS8,lH,YB,O8,SM⟩
     exact No
    have hjn:j=r.jV.length:=jS;subst hjn;have d1:decide ((r.jV.length:Int)<r.jV.length)=false:=lV;have Vo:Hid (GK s.s∧s.s.kind=r.kind):=by show _∧_;rw[Zl];exact Px HG5 HK _
    have HS9:Hid (s.s=vm C5 c.id r.scope r.kind r.jV):=by show _=_;rw[Zl,dP]
    have QA:=ah (GO s Vo.1 r.h HF.h wr oH);unfold nT at QA;have e9:rt s.s r.h=rt (vm C5 c.id r.scope r.kind r.jV) r.h:=by rw[HS9]
    rw[e9]at QA;clear e9;generalize hn9:rt (vm C5 c.id r.scope r.kind r.jV) r.h=n at*
    have OT:=ah hn9;clear hn9;go_wp2_with fail;refine QA.mono ?_;rintro e w8⟨rfl,hb8⟩;replace H:=ah (H.call hb8);have HO8:=ah (Ys.call hb8);clear x QA hb8 d1;have x:=fk (H.facts);have HRR:=aS (H.all 1 [jJ 0,jK n,jM,jM]);have mB:=aS (Out.lp (X:=fun b=>b=sb∨b=w.heap.size+2) (g:=w.heap.size+2) (.inl (.inr rfl)) [jJ 0,jK n,jM,jM] 0 (HO8.mono fun b _ e=>.inl e));have lH:=ah HRR;have SM:=ah mB;clear HRR mB;go_wp2_with fail;refine kh (fun V=>Out (fun b=>b=sb∨b=w.heap.size+2) w5 V) lH SM (fun V9 H9 mB=>?_);have hq:=fk (H9.at_ 1);clear x H lH SM;refine jF (v:=.tuple #[.agg #[jJ 0,jK n,jM,jM],jJ 0]) (by simp[results,Tryz.results32,go_sem,hq]) rfl ?_;refine⟨H9.out.out,?_⟩;show _=_∧kE X V9 cb G ka kb (C.set k (c,T'));rw[HCE,OT];exact⟨rfl,(HC5.out.out mB fun b e=>⟨(E8.out b).2 (.inr jS),fun hm=>by have:=HX.out b (HC.out.gx b hm);omega⟩).narrow (fun b hb=>(E8.out b).2 (.inl hb)) HC.out.gx⟩
  have HN:Hid (rr=.error 101):=by show _=_;rw[←IT.out];unfold qt;rw[if_neg H8.out,if_pos HSC.out,if_neg hk]
  refine(JX r.kind hk w1).mono ?_;rintro e w2⟨rfl,hb2⟩;replace HV:=ah (HV.call hb2);have xd:=ah (HO.call hb2);clear x hk IT hb2 HO;simp only[xl];have x:=fk (HV.facts);go_wp2_with fail;have HRR:=aS ((HV.all 0 bQ).alloc w2 136 [jJ 0,jJ 0,jM,jJ 0,aF,jJ 0,jJ 0,jM,jJ 0,jM] (qj _ _ _ _).symm);have mB:=aS ((Out.lp (X:=fun b=>b=w.heap.size+2) (g:=w.heap.size+2) (.inl rfl) bQ 0 (Out.refl _ w2)).alloc (.cells #[jJ 0,jJ 0,jM,jJ 0,aF,jJ 0,jJ 0,jM,jJ 0,jM] 136));refine kh (fun V=>Out (fun b=>b=w.heap.size+2) w2 V) HRR mB (fun V9 H9 mB=>?_);have hq:=fk (H9.at_ 1);clear HRR x;refine jF (v:=.tuple #[cR,jJ 101]) (by simp[results,Tryz.results32,go_sem,hq]) rfl ?_;exact⟨H9.out.out,by rw[HN];exact⟨rfl,B8,HC.fresh xd mB jS HX⟩⟩
def qD(cb g:Nat)(id:Int):Array bk4:=#[{key:=.int .i64 1,val:=.func (.func 30) #[oZ 54 cb g id] #[],born:=0},{key:=.int .i64 2,val:=.func (.func 31) #[oZ 54 cb g id] #[],born:=1},{key:=.int .i64 3,val:=.func (.func 32) #[oZ 54 cb g id] #[],born:=2},{key:=.int .i64 4,val:=.func (.func 33) #[oZ 54 cb g id] #[],born:=3},{key:=.int .i64 5,val:=.func (.func 34) #[oZ 54 cb g id] #[],born:=4},{key:=.int .i64 6,val:=.func (.func 35) #[oZ 54 cb g id] #[],born:=5},{key:=.int .i64 7,val:=.func (.func 36) #[oZ 54 cb g id] #[],born:=6}]
theorem kj.map{X:Nat→Prop}{w0 w:jC}{bs:List (Nat×jH×List jD)}(h:kj X w0 w bs)(es:Array bk4)(k:Nat):kj X w0 (w.alloc (.map es k)) bs:=h.al _
theorem KF{op:Int}(v1 v2 v3 v4 v5 v6 v7:jD)(h:¬(1≤op∧op≤7)):eI (.int .i64) (.int .i64 op) (#[{key:=.int .i64 1,val:=v1,born:=0},{key:=.int .i64 2,val:=v2,born:=1},{key:=.int .i64 3,val:=v3,born:=2},{key:=.int .i64 4,val:=v4,born:=3},{key:=.int .i64 5,val:=v5,born:=4},{key:=.int .i64 6,val:=v6,born:=5},{key:=.int .i64 7,val:=v7,born:=6}]:Array bk4).toList 0=some none:=by
 have e1:(op==1)=false:=O1;have e2:(op==2)=false:=O1;have e3:(op==3)=false:=O1;have e4:(op==4)=false:=O1;have e5:(op==5)=false:=O1;have e6:(op==6)=false:=O1;have e7:(op==7)=false:=O1;simp only[eI,Instr.sameNow,if_true,e1,e2,e3,e4,e5,e6,e7]
theorem sK.err{r:Col×Rep}(h:r=(C,uJ er))(ho:Out (·∈G) w w')(hc:kE X w' cb G ka kb C):sK X w cb G ka kb r (.returned (.agg #[jJ er,jK 0,jM,jM])) w':=
 ⟨ho,by rw[h];exact hc,_,rfl,none,0,none,0,by rw[h];try rfl,by rw[h];exact⟨⟨Rd.none_,fun _ e=>LS⟩,Rd.none_,fun _ e=>LS⟩⟩
variable{x:Cu}{r:s9}
theorem R4(h:m6 C x.oK=none):tW C x r=(C,uJ 170):=by unfold tW;rw[h]
theorem XS(h:m6 C x.oK=some k)(hk:C[k]? =some (c,T))(ho:¬(1≤r.op∧r.op≤7)):tW C x r=(C,uJ 191):=by unfold tW;rw[h];simp only;rw[hk];simp only;rw[if_pos ho]
theorem R1(h:m6 C x.oK=some k)(hk:C[k]? =some (c,T))(ho:1≤r.op∧r.op≤7)(hr:zZ x.role r.op=false):tW C x r=(C,uJ 190):=by unfold tW;rw[h];simp only;rw[hk];simp only;rw[if_neg (fun q=>q ho),if_pos hr]
theorem R6(h:m6 C x.oK=some k)(hk:C[k]? =some (c,T))(ho:1≤r.op∧r.op≤7)(hr:zZ x.role r.op=true):tW C x r=Hz C k c T r:=by unfold tW;rw[h];simp only;rw[hk];simp only;rw[if_neg (fun q=>q ho),if_neg (by rw[hr];decide)]
theorem UH(h3:r.op≠3)(h:p6 c T r=.error er):Hz C k c T r=(C,uJ er):=by unfold Hz;rw[if_neg h3,h]
theorem xR{T':kM}{y:Rep}(h3:r.op≠3)(h:p6 c T r=.ok (T',y)):Hz C k c T r=(C.set k (c,T'),y):=by unfold Hz;rw[if_neg h3,h]
def mNo(op:Int):Nat:=if op=1 then 30 else if op=2 then 31 else if op=3 then 32 else if op=4 then 33 else if op=5 then 34 else if op=6 then 35 else 36
theorem NF{id op:Int}{m:Nat}(ho:1≤op∧op≤7)(h:w.heap[m]? =some (.map (qD cb g id) k)):
 (eU 90 (.map (some m)) (.int .i64 op) true).run Tryz.prog w=.ok (.tuple #[.func (.func (mNo op)) #[oZ 54 cb g id] #[],.bool true]) w:=by
 have e:op=1∨op=2∨op=3∨op=4∨op=5∨op=6∨op=7:=jS
 rcases e with rfl|rfl|rfl|rfl|rfl|rfl|rfl<;>exact FY h Tryz.underlying90 Tryz.underlying3 rfl
theorem Tn{P:bi3}{o:bk0}{a:gG}{next:gG→jC→Prop}{Q:bk7→gG→jC→Prop}{R:Result Next}{f:bl9}{args:Array jD}(e:R=.ok (.enter f args) w')
 (h:jE P f args w' fun
  |.returned v,w''=>next (a.put o.dst v) w''
  |.panicked chain,w''=>Q (.panic chain) a w''
  |.outgrown,_=>LetsOut Q):Oper.upon P o a next Q R:=by subst e;exact h
def MM(X:Nat→Prop)(w:jC)(cb:Nat)(G:List Nat)(ka kb:Int)(C:Col)(R:Col×Rep)(e:bi6)(w':jC):Prop:=
 Out (·∈G) w w'∧kE X w' cb G ka kb R.1∧∃(a n er:Int)(A E:Option jG)(k1 c1 k2 c2:Nat),e=.returned (.tuple #[.agg #[jJ a,jK n,.slice A k1 c1,.slice E k2 c2],jJ er])∧((er≠0∧R=(C,uJ er))∨(er=0∧IR w' w (.agg #[jJ a,jK n,.slice A k1 c1,.slice E k2 c2]) R.2))
section
variable{X:Nat→Prop}{w w':jC}{cb k g:Nat}{G:List Nat}{ka kb:Int}{C:Col}{c:lO}{T:kM}{r:s9}{e:bi6}
theorem xG(hC:kE X w cb G ka kb C)(hX:∀b,X b→b<w.heap.size)(hk:k<C.length)(hg:k<G.length)(eg:G[k]=g)(ec:C[k]=(c,T))(h3:r.op≠3)(h:l6 w (fun b=>¬X b) g c T (p6 c T r) e w'):MM X w cb G ka kb C (Hz C k c T r) e w':=by
 subst eg;obtain⟨ho,h⟩:=h;have ho':Out (·∈G) w w':=ho.mono fun b _(hb:b=G[k])=>hb▸ar hg;unfold Hz;rw[if_neg h3]
 cases hr:p6 c T r with
 |error er=>
  rw[hr]at h;obtain⟨⟨n,A,kk,kc,rfl⟩,h0,ht⟩:=h;exact⟨ho',hC.same hk hg ho (by rw[ec];exact ht) hX,_,_,_,_,_,_,_,_,_,rfl,.inl ⟨h0,rfl⟩⟩
 |ok ty=>
  rw[hr]at h;obtain⟨T',y⟩:=ty;obtain⟨⟨v,rfl,A,k1,E,k2,rfl,hy⟩,ht⟩:=h;have:=hC.set hk hg (T:=T') ho (by rw[ec];exact ht) hX;rw[ec]at this;exact⟨ho',this,_,_,_,_,_,_,_,_,_,rfl,.inr ⟨rfl,_,_,_,_,rfl,hy⟩⟩
theorem Uc(hk:k<C.length)(hg:k<G.length)(eg:G[k]=g)(h3:r.op=3)(h:Lo X w cb g G ka kb C k c r (qt c T r) e w'):MM X w cb G ka kb C (Hz C k c T r) e w':=by
 subst eg;obtain⟨ho,h⟩:=h;have ho':Out (·∈G) w w':=ho.mono fun b _(hb:b=G[k])=>hb▸ar hg;unfold Hz;rw[if_pos h3]
 cases hr:qt c T r with
 |error er=>
  rw[hr]at h;obtain⟨rfl,h0,hc⟩:=h;exact⟨ho',hc,_,_,_,_,_,_,_,_,_,rfl,.inl ⟨h0,rfl⟩⟩
 |ok ty=>
  rw[hr]at h;obtain⟨rfl,hc⟩:=h;exact⟨ho',hc,_,_,_,_,_,_,_,_,_,rfl,.inr ⟨rfl,none,0,none,0,rfl,⟨Rd.none_,fun _ e=>LS⟩,Rd.none_,fun _ e=>LS⟩⟩
end
theorem Qo(X:Nat→Prop)(cb:Nat)(G:List Nat)(ka kb:Int)(C:Col)(k g:Nat)(c:lO)(T:kM)(m:ReqM)(ho:1≤m.r.op∧m.r.op≤7)(N4:nR C)(I1:C.length≤100)(hkl:k<C.length)(hkg:k<G.length)(eg:G[k]=g)(ec:C[k]=(c,T))(hf:lN m.r)(w:jC)(hw:4≤w.heap.size)(hX:∀b,X b→b<w.heap.size)(hT:Tb w)(hE:Er w)(hC:kE X w cb G ka kb C)(hM:nG X w m):
 jE Tryz.prog (mNo m.r.op) #[.agg #[jO cb,jO g,jK c.id],.agg (aD m)] w (MM X w cb G ka kb C (Hz C k c T m.r)):=by
 have hk:C[k]? =some (c,T):=by rw[an hkl,ec]
 have O3:X g:=eg▸hC.gx _ (ar hkg)
 have ht:kB w (fun b=>¬X b) g c T:=by have:=hC.ten k hkl hkg;rwa[ec,eg]at this
 have hct:=N4.at_ hk
 obtain⟨⟨op,now,labels,scope,kind,items,h,to,id,jV⟩,ia,ic,ta,tc⟩:=m
 have e:op=1∨op=2∨op=3∨op=4∨op=5∨op=6∨op=7:=by simp only at ho;omega
 rcases e with rfl|rfl|rfl|rfl|rfl|rfl|rfl
 case inr.inr.inl=>exact(Hx X cb G ka kb C k g c T _ N4 I1 hk (by rw[an hkg,eg]) hf w hw hX hT hE hC hM).mono fun e w' h=>Uc hkl hkg eg rfl h
 case inl=>exact(Ic (fun b=>¬X b) cb g c.id c T _ hct.1 hct.2 hf (hC.g4 g (eg▸ar hkg)) w hw hT hE ht (fun b hb e=>hb (e▸O3)) hM.ok (hM.gi O3)).mono fun e w' h=>xG hC hX hkl hkg eg ec (by show(1:Int)≠3;decide) (by simp only[p6];exact h)
 case inr.inl=>exact(KU (fun b=>¬X b) cb g c.id c T _ hct.1 hct.2 hf (hC.g4 g (eg▸ar hkg)) w hw hT hE ht (fun b hb e=>hb (e▸O3)) hM.ok (hM.gi O3)).mono fun e w' h=>xG hC hX hkl hkg eg ec (by show(2:Int)≠3;decide) (by simp only[p6];exact h)
 case inr.inr.inr.inl=>exact(KV (fun b=>¬X b) cb g c.id c T _ hct.1 hct.2 hf (hC.g4 g (eg▸ar hkg)) w hw hT hE ht (fun b hb e=>hb (e▸O3)) hM.ok (hM.gi O3)).mono fun e w' h=>xG hC hX hkl hkg eg ec (by show(4:Int)≠3;decide) (by simp only[p6];exact h)
 case inr.inr.inr.inr.inl=>exact(Hy (fun b=>¬X b) cb g c.id c T _ hct.1 hct.2 hf (hC.g4 g (eg▸ar hkg)) w hw hT hE ht (fun b hb e=>hb (e▸O3)) hM.ok (hM.gi O3)).mono fun e w' h=>xG hC hX hkl hkg eg ec (by show(5:Int)≠3;decide) (by simp only[p6];exact h)
 case inr.inr.inr.inr.inr.inl=>exact(KX (fun b=>¬X b) cb g c.id c T _ hct.1 hct.2 hf (hC.g4 g (eg▸ar hkg)) w hw hT hE ht (fun b hb e=>hb (e▸O3)) hM.ok (hM.gi O3)).mono fun e w' h=>xG hC hX hkl hkg eg ec (by show(6:Int)≠3;decide) (by simp only[p6];exact h)
 case inr.inr.inr.inr.inr.inr=>exact(Oy (fun b=>¬X b) cb g c.id c T _ hct.1 hct.2 hf (hC.g4 g (eg▸ar hkg)) w hw hT hE ht (fun b hb e=>hb (e▸O3)) hM.ok (hM.gi O3)).mono fun e w' h=>xG hC hX hkl hkg eg ec (by show(7:Int)≠3;decide) (by simp only[p6];exact h)
theorem MB(X:Nat→Prop)(cb:Nat)(G:List Nat)(ka kb:Int)(C:Col)(x:Cu)(m:ReqM)(N4:nR C)(I1:C.length≤100)(hf:lN m.r)(w:jC)(hw:4≤w.heap.size)(hX:∀b,X b→b<w.heap.size)(hT:Tb w)(hE:Er w)(hC:kE X w cb G ka kb C)(hM:nG X w m):
 jE Tryz.prog 16 #[jO cb,.agg (Ij x).toArray,.agg (uD m).toArray] w (sK X w cb G ka kb (tW C x m.r)):=by
 have QM:=fun(X':Nat→Prop) k g c T ho a1 a2 a3 a4=>Qo X' cb G ka kb C k g c T m ho N4 I1 a1 a2 a3 a4 hf
 obtain⟨⟨op,now,labels,scope,kind,items,h,to,id,jV⟩,ia,ic,ta,tc⟩:=m
 obtain⟨rq,hrq⟩:∃rq:s9,rq=⟨op,now,labels,scope,kind,items,h,to,id,jV⟩:=⟨_,rfl⟩
 have Z7:rq.op=op:=by rw[hrq]
 simp only[Ij,uD]
 simp only[←hrq]at QM
 have HQM:=ah QM
 have HT:=ah hT
 have HE:=ah hE
 have HC:=ah hC
 have HG:=ah N4
 have HM:=ah hM
 have HX:=ah hX
 have td:=ah hrq
 have SK:=ah Z7
 rw[←hrq]
 have HH:=ah ((((kj.nil (·∈G) w).alloc w 30 [jK x.oK,jJ x.role,jK x.YR]).alloc (w.heap.size+1) 35 [jJ op,jK now,jL labels,jL scope,jJ kind,jN ia items ic,jK h,jK to,jK id,jN ta jV tc]).alloc (w.heap.size+2) 55 bQ)
 clear hT hE hC N4 hM hf hX hrq QM Z7
 go_in
 go_wp2_with fail
 refine kq (fun V=>(cF w V)) HH ((((Out.refl (fun _=>False) w).alloc _).alloc _).alloc _) (fun V HV ho=>?_)
 clear HH
 have HO:=ah ho
 have hb:Below w w V:=ho.below aa fun _ h=>h.elim
 have V_:w.heap.size+2<V.heap.size:=(HV.blk _ ab).2.lt
 refine(Ih _ V).mono ?_
 rintro e w1⟨rfl,rfl⟩
 have xx:=fk (HV.facts)
 go_wp2_with fail
 refine(uA X cb G ka kb C x.oK I1 w1 (HC.later hb)).mono ?_
 rintro e w2⟨rfl,rfl⟩
 clear ho
 cases hfd:m6 C x.oK with
 |none=>
  have HD:Hid (tW C x rq=(C,uJ 170)):=R4 hfd;clear hfd;unfold Ad;go_wp2_with fail;have HRR:=HV.all 0 [jJ 170,jK 0,jM,jM];have EC:=Out.lp (X:=fun b=>b=w.heap.size+2) (g:=w.heap.size+2) (.inl rfl) [jJ 170,jK 0,jM,jM] 0 (Out.refl _ w2);simp only[qD,lp,au,ao,ak,am]at HRR EC;refine kh (fun V=>Out (fun b=>b=w.heap.size+2) w2 V) HRR EC (fun V9 H9 mB=>?_);have hq:=fk (H9.at_ 0);clear HRR EC xx;refine jF (v:=.agg #[jJ 170,jK 0,jM,jM]) (by simp[results,Tryz.results16,go_sem,hq]) rfl ?_;exact sK.err HD H9.out.out (HC.fresh HO mB jS HX)
 |some k=>
  obtain⟨hkl,Ut⟩:=EL hfd;have hkg:k<G.length:=by rw[HC.len];exact hkl
  have hp:Ad G (some k)=.pointer (some ⟨G[k],0,none⟩):=by simp only[Ad,an hkg]
  rw[hp];have am0:Hid (C[k]? =some C[k]):=an hkl;have OV:Hid (G[k]∈G):=ar hkg;have HFD:=ah hfd;clear hp hfd;generalize hgk:G[k]=g at*
  generalize hck:C[k]=ct at*
  obtain⟨c,T⟩:=ct;have HHG:=ah hgk;have HHC:=ah hck;have HCK:Hid (C[k]? =some (c,T)):=am0;simp only at Ut;clear hgk hck am0;have hxt:x.oK=c.id:=Ut.symm;have hgw:g<w.heap.size:=HX g (HC.gx g OV);rw[hxt]at xx HV⊢;clear hxt Ut;have HA:=ah ((HV.alloc w2 88 [jO cb,jO g,jK c.id]).map (qD cb g c.id) 7);have HOA:=ah ((HO.alloc (.cells #[jO cb,jO g,jK c.id] 88)).alloc (.map (qD cb g c.id) 7));have HMP:Hid ((((w2.alloc (.cells #[jO cb,jO g,jK c.id] 88)).alloc (.map (qD cb g c.id) 7)).heap[w2.heap.size+1]? :Option Obj)=some (.map (qD cb g c.id) 7)):=by
   show _=_;have:=du (w2.alloc (.cells #[jO cb,jO g,jK c.id] 88)) (.map (qD cb g c.id) 7);rwa[show(w2.alloc (.cells #[jO cb,jO g,jK c.id] 88)).heap.size=w2.heap.size+1 by simp]at this
  have qq:∀(n:Int)(v:jD)(es:Array bk4)(ck:Nat)(_:eI (.int .i64) (.int .i64 n) es.toList 0=some none),_:=fun n v es ck h=>nW (P:=Tryz.prog) (W:=w2.alloc (.cells #[jO cb,jO g,jK c.id] 88)) (m:=w2.heap.size+1) (T:=90) (c:=n) (v:=v) (es:=es) (clock:=ck) lV Tryz.underlying90 Tryz.underlying3 h;have q1:=fun v=>qq 1 v #[] 0 rfl;have q2:=fun v1 v=>qq 2 v #[{key:=.int .i64 1,val:=v1,born:=0}] 1 rfl;have q3:=fun v1 v2 v=>qq 3 v #[{key:=.int .i64 1,val:=v1,born:=0},{key:=.int .i64 2,val:=v2,born:=1}] 2 rfl;have q4:=fun v1 v2 v3 v=>qq 4 v #[{key:=.int .i64 1,val:=v1,born:=0},{key:=.int .i64 2,val:=v2,born:=1},{key:=.int .i64 3,val:=v3,born:=2}] 3 rfl;have q5:=fun v1 v2 v3 v4 v=>qq 5 v #[{key:=.int .i64 1,val:=v1,born:=0},{key:=.int .i64 2,val:=v2,born:=1},{key:=.int .i64 3,val:=v3,born:=2},{key:=.int .i64 4,val:=v4,born:=3}] 4 rfl;have q6:=fun v1 v2 v3 v4 v5 v=>qq 6 v #[{key:=.int .i64 1,val:=v1,born:=0},{key:=.int .i64 2,val:=v2,born:=1},{key:=.int .i64 3,val:=v3,born:=2},{key:=.int .i64 4,val:=v4,born:=3},{key:=.int .i64 5,val:=v5,born:=4}] 5 rfl;have q7:=fun v1 v2 v3 v4 v5 v6 v=>qq 7 v #[{key:=.int .i64 1,val:=v1,born:=0},{key:=.int .i64 2,val:=v2,born:=1},{key:=.int .i64 3,val:=v3,born:=2},{key:=.int .i64 4,val:=v4,born:=3},{key:=.int .i64 5,val:=v5,born:=4},{key:=.int .i64 6,val:=v6,born:=5}] 6 rfl;simp only[fW,dz,dj,au,ao]at q1 q2 q3 q4 q5 q6 q7;clear qq;have hmm:=@run_makeMap Tryz.prog;have hmf:∀(fn:Fn)(first cap:Array jD)(w:jC),(gF fn first cap).run Tryz.prog w=.ok (.func fn first cap) w:=fun _ _ _ _=>rfl;have Yw:=HMP;simp only[qD]at HA HOA Yw;go_wp2_with fail;clear q1 q2 q3 q4 q5 q6 q7 hmm hmf;by_cases ho:1≤op∧op≤7
  ·have hlk:=NF ho HMP;have HOP:=ah ho;simp only[qD]at hlk;clear HV ho HMP Yw;generalize hmn:mNo op=f at*
   have HMN:=ah hmn;clear hmn;rw[hlk];go_wp2_with fail;refine kq (fun V=>(cF w V)) HA HOA (fun V HV ho=>?_);clear xx HA HOA hlk;refine(Ue x.role op V).mono ?_;rintro e w5⟨rfl,hb5⟩;replace HV:=ah (HV.call hb5);have BC:=ah (ho.call hb5);clear ho hb5;have xx:=fk (HV.facts);have hbw:Below w w w5:=BC.below aa fun _ h=>h.elim
   cases hrl:zZ x.role op with
   |false=>
    have HD:Hid (tW C x rq=(C,uJ 190)):=R1 HFD HCK (by rw[SK];exact HOP) (by rw[SK];exact hrl);clear hrl;go_wp2_with fail;have HRR:=HV.all 1 [jJ 190,jK 0,jM,jM];have EC:=Out.lp (X:=fun b=>b=w.heap.size+2) (g:=w.heap.size+2) (.inl rfl) [jJ 190,jK 0,jM,jM] 0 (Out.refl _ w5);simp only[qD,lp,au,ao,ak,am]at HRR EC;refine kh (fun V=>Out (fun b=>b=w.heap.size+2) w5 V) HRR EC (fun V9 H9 mB=>?_);have hq:=fk (H9.at_ 1);clear HRR EC xx;refine jF (v:=.agg #[jJ 190,jK 0,jM,jM]) (by simp[results,Tryz.results16,go_sem,hq]) rfl ?_;exact sK.err HD H9.out.out (HC.fresh BC mB jS HX)
   |true=>
    have HD:Hid (tW C x rq=Hz C k c T rq):=R6 HFD HCK (by rw[SK];exact HOP) (by rw[SK];exact hrl);clear hrl;have hf:f=30∨f=31∨f=32∨f=33∨f=34∨f=35∨f=36:=by rw[←HMN];unfold mNo;(repeat' split)<;>simp
    clear HMN
    all_goals
     go_wp2_with fail;obtain⟨X',hX'⟩:∃X':Nat→Prop,X'=fun b=>X b∨(w.heap.size≤b∧b<w5.heap.size):=⟨_,rfl⟩;have E8:Hid (∀b,X' b↔(X b∨(w.heap.size≤b∧b<w5.heap.size))):=fun b=>by rw[hX']
     clear hX';have hz5:=BC.size;have hz6:w.heap.size+2<w5.heap.size:=(HV.blk _ (ac 1)).2.lt;have QM:=HQM X' k g c T HOP hkl hkg HHG HHC w5 jS (fun b hb=>by rcases(E8 b).1 hb with h|h;have:=HX b h;omega;exact h.2) (HT.later hbw) (HE.later hbw)
      ((HC.wide (fun b hb=>by rcases(E8 b).1 hb with h|h;exact .inl h;exact .inr h.1) fun g hg=>(E8 g).2 (.inl (HC.gx g hg))).later hbw) (by rw[td];exact(HM.wide (fun b hb=>by rcases(E8 b).1 hb with h|h;exact .inl h;exact .inr h.1)).later hbw)
     generalize Hz C k c T rq=R at*
     refine Tn (f:=f) (args:=#[.agg #[jO cb,jO g,jK c.id],.agg #[jJ op,jK now,jL labels,jL scope,jJ kind,jN ia items ic,jK h,jK to,jK id,jN ta jV tc]]) (w':=w5) (by clear QM HQM HD;rcases hf with rfl|rfl|rfl|rfl|rfl|rfl|rfl<;>rfl) ?_;refine(show jE Tryz.prog _ #[.agg #[jO cb,jO g,jK c.id],.agg #[jJ op,jK now,jL labels,jL scope,jJ kind,jN ia items ic,jK h,jK to,jK id,jN ta jV tc]] w5 (MM X' w5 cb G ka kb C R)from QM).mono ?_;clear QM;rintro e w6⟨ho6,hc6,a,n,er,A,E,k1,c1,k2,c2,rfl,h6⟩;have hz7:=ho6.size;replace HV:=ah (HV.wP ho6 (fun k e=>.inl e) (fun b hb e=>by have:=HX _ (HC.gx _ e);simp at hb;rcases hb with rfl|rfl|rfl|rfl<;>simp at this<;>omega));have Vz:=ah hc6;clear ho6 hc6 xx;have xx:=fk (HV.facts);rcases h6 with⟨h0,hR⟩|⟨rfl,hy⟩
     ·rw[hR]at Vz HD;replace h0:¬er=0:=h0;clear hR;go_wp2_with fail;have HRR:=(HV.all 1 [jJ er,jK 0,jM,jM]).alloc w6 55 [jJ a,jK n,.slice A k1 c1,.slice E k2 c2] (qj _ _ _ _).symm;have EC:=(Out.lp (X:=fun b=>b=w.heap.size+2) (g:=w.heap.size+2) (.inl rfl) [jJ er,jK 0,jM,jM] 0 (Out.refl _ w6)).alloc (.cells #[jJ a,jK n,.slice A k1 c1,.slice E k2 c2] 55);simp only[qD,lp,au,ao,ak,am]at HRR EC;refine kh (fun V=>Out (fun b=>b=w.heap.size+2) w6 V) HRR EC (fun V9 H9 mB=>?_);have hq:=fk (H9.at_ 2);clear HRR EC xx;refine jF (v:=.agg #[jJ er,jK 0,jM,jM]) (by simp[results,Tryz.results16,go_sem,hq]) rfl ?_;exact sK.err HD H9.out.out ((Vz.out.out mB fun b e=>⟨(E8 b).2 (.inr jS),fun hm=>by have:=HX.out b (HC.gx b hm);omega⟩).narrow (fun b hb=>(E8 b).2 (.inl hb)) HC.gx)
     have HY:=ah hy;clear hy;go_wp2_with fail;have HRR:=(HV.all 1 [jJ a,jK n,.slice A k1 c1,.slice E k2 c2]).alloc w6 55 [jJ a,jK n,.slice A k1 c1,.slice E k2 c2] (qj _ _ _ _).symm;have EC:=(Out.lp (X:=fun b=>b=w.heap.size+2) (g:=w.heap.size+2) (.inl rfl) [jJ a,jK n,.slice A k1 c1,.slice E k2 c2] 0 (Out.refl _ w6)).alloc (.cells #[jJ a,jK n,.slice A k1 c1,.slice E k2 c2] 55);simp only[qD,lp,au,ao,ak,am]at HRR EC;refine kh (fun V=>Out (fun b=>b=w.heap.size+2) w6 V) HRR EC (fun V9 H9 mB=>?_);have hq:=fk (H9.at_ 2);clear HRR EC xx;refine jF (v:=.agg #[jJ a,jK n,.slice A k1 c1,.slice E k2 c2]) (by simp[results,Tryz.results16,go_sem,hq]) rfl ?_;obtain⟨A',k1',E',k2',e4,⟨ha,hb1⟩,he,hb2⟩:=HY;injection e4 with e4;have e5:=congrArg Array.toList e4;simp only[List.cons.injEq,Value.int.injEq,Value.slice.injEq,true_and,and_true]at e5;obtain⟨rfl,rfl,⟨rfl,rfl,rfl⟩,rfl,rfl,rfl⟩:=e5;exact⟨H9.out.out,by rw[HD];exact((Vz.out.out mB fun b e=>⟨(E8 b).2 (.inr jS),fun hm=>by have:=HX.out b (HC.gx b hm);omega⟩).narrow (fun b hb=>(E8 b).2 (.inl hb)) HC.gx),_,rfl,_,_,_,_,by rw[HD],by rw[HD];exact⟨mB.rd ha fun _ ad e e2=>by have:=hb1 ad e;omega,fun ad e=>by have:=hb1 ad e;omega⟩,by rw[HD];exact mB.rd he fun _ ad e e2=>by have:=hb2 ad e;omega,fun ad e=>by have:=hb2 ad e;omega⟩
  have HD:Hid (tW C x rq=(C,uJ 191)):=XS HFD HCK (by rw[SK];exact ho);have hlk:=BV (P:=Tryz.prog) (T:=90) (c:=op) Yw Tryz.underlying90 Tryz.underlying3 (KF _ _ _ _ _ _ _ jS) (z:=.nilFunc) oo;clear ho;rw[hlk];go_wp2_with fail;have HRR:=((HV.all 0 [jJ 191,jK 0,jM,jM]).alloc w2 88 [jO cb,jO g,jK c.id] (qj _ _ _ _).symm).map (qD cb g c.id) 7;have EC:=((Out.lp (X:=fun b=>b=w.heap.size+2) (g:=w.heap.size+2) (.inl rfl) [jJ 191,jK 0,jM,jM] 0 (Out.refl _ w2)).alloc (.cells #[jO cb,jO g,jK c.id] 88)).alloc (.map (qD cb g c.id) 7);simp only[qD,lp,au,ao,ak,am]at HRR EC;refine kh (fun V=>Out (fun b=>b=w.heap.size+2) w2 V) HRR EC (fun V9 H9 mB=>?_);have hq:=fk (H9.at_ 1);clear HRR EC xx;refine jF (v:=.agg #[jJ 191,jK 0,jM,jM]) (by simp[results,Tryz.results16,go_sem,hq]) rfl ?_;exact sK.err HD H9.out.out (HC.fresh HO mB jS HX)
end Go.Proofs.YtfcnedcahoifoaaGreatDoor

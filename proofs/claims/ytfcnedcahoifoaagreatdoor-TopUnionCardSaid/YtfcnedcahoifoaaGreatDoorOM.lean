import Derived.Defers
import Derived.FnLit
import Derived.Test.YtfcnedcahoifoaaGreatDoorOL
namespace Go.Proofs.YtfcnedcahoifoaaGreatDoor
open Go.RowKit
open _root_.Bool renaming and_eq_true→ba,not_eq_true'→jp
open _root_.ByteArray renaming size_extract→fI
open _root_.Go renaming Addr→jG,Calls→jE,Code→bk9,Ending→bi6,Exit→bk7,FuncId→bl9,Oper→bk0,Program→bi3,TypeId→jH,Value→jD,World→jC,bodyPost_ret→jF,leaves_cons→bl5,rounds_succ→bi9,wp_loop_rounds→bj8,wp_region_held_drew→bi1
open _root_.Go.Act renaming put→gL
open _root_.Go.Code renaming region→jo,wp_mono→jg
open _root_.Go.Instr renaming makeFunc→gF
open _root_.Go.Lib renaming hid→ai
open _root_.Go.Oper renaming wp→je
open _root_.Go.Region renaming free→iV,noSelect→gS,ready→eE,wanted→eQ
open _root_.Go.RowKit renaming intOf→av
open _root_.Go.Value renaming int→br
open _root_.Go.World renaming block_lt_of_cell?→b8,cell?_alloc_lt→dt
open _root_.Int renaming not_lt→iP
open _root_.List renaming eq_nil_of_length_eq_zero→da,ext_getElem→iO,findIdx?_eq_none_iff→fU,findIdx?_eq_some_iff_getElem→eP,foldl_append→fE,getElem?_cons_succ→bo,getElem?_cons_zero→bm,getElem?_eq_getElem→an,getElem?_map→eD,getElem?_toArray→bh,getElem_cons_succ→ej,getElem_cons_zero→dQ,getElem_mem→ar,getElem_of_mem→dR,getElem_set_self→fP,getElem_set→eW,getElem_toArray→eK,length_cons→c_,length_map→ax,length_nil→dp,length_set→eq,length_take→cv,length→ez,map_cons→df,map_map→fY,map_set→iJ,mem_cons_of_mem→dS,mem_cons_self→di,mem_cons→cw,mem_of_getElem?→cm,mem_of_mem_take→dy,mem_or_eq_of_mem_set→dO,pairwise_cons→b6,pairwise_iff_getElem→cj,setIfInBounds_toArray→bd,set_cons_succ→am,set_cons_zero→ak,set_getElem_self→ie,take_length→dP,take_succ_eq_append_getElem→aj
open _root_.Nat renaming le_refl→ay,lt_or_gt_of_ne→iD,reduceAdd→ao,zero_add→au,zero_le→be
set_option maxRecDepth 100000
set_option maxHeartbeats 16000000
set_option linter.unusedVariables false
set_option linter.unusedSimpArgs false
structure SbF(x0:jC) where
def bF(x0:jC):SbF x0:=⟨⟩
instance(x0:jC):CoeOut (SbF x0) jD:=⟨fun _=>.pointer (some ⟨x0.heap.size+2,0,none⟩)⟩
structure ScF(x0:jC)(x1:jC) where
def cF(x0:jC)(x1:jC):ScF x0 x1:=⟨⟩
instance(x0:jC)(x1:jC):CoeOut (ScF x0 x1) Prop:=⟨fun _=>Out (fun _=>False) x0 x1⟩
instance(x0:jC)(x1:jC):CoeSort (ScF x0 x1) Prop:=⟨fun _=>Out (fun _=>False) x0 x1⟩
def LF(e:Int)(c:lO)(o0 o1 o2 o3 o4 o5 v0 v1 v2 v3 v4 v5:jD):List jD:=if e=0 then[v0,v1,v2,v3,v4,v5,jK c.id,jJ c.budget,jK c.life,jK c.ka,jK c.kb]else[o0,o1,o2,o3,o4,o5,jK c.id,jJ c.budget,jK c.life,jK c.ka,jK c.kb]
variable{X:Nat→Prop}{w0:jC}
theorem qi(ob eb tb g:Nat)(e:Int)(c:lO)(A GA LA:Option jG)(n cap gl gc ll lc:Nat)(gn lb tm:Int)(v0 v1 v2 v3 v4 v5:jD)(u:FrameMode)(w:jC)
 (H:kj X w0 w [(ob,115,[.slice A n cap,jK gn,.slice GA gl gc,jK lb,.slice LA ll lc,jK tm]),(eb,49,[jJ e]),(tb,82,[jO g]),(g,117,[v0,v1,v2,v3,v4,v5,jK c.id,jJ c.budget,jK c.life,jK c.ka,jK c.kb])]):
 CallsD Tryz.prog 90 #[jO eb,jO ob,jO tb] u w fun e' u' w'=>u'=u∧(e'=.returned (.tuple #[])∧kj X w0 w' [(ob,115,[.slice A n cap,jK gn,.slice GA gl gc,jK lb,.slice LA ll lc,jK tm]),(eb,49,[jJ e]),(tb,82,[jO g]),(g,117,LF e c (.slice A n cap) (.int .u64 gn) (.slice GA gl gc) (.int .u64 lb) (.slice LA ll lc) (.int .u64 tm) v0 v1 v2 v3 v4 v5)]∧(e=0→w'=w)):=by
 have x:=fk (H.facts)
 by_cases he:e=0
 ·have H0:=ah H;have HE:=ah he;go_enter_d Tryz.func90,Tryz.ntmps90;go_wp2_with fail;go_end0;refine⟨rfl,?_,fun _=>rfl⟩;rw[LF,if_pos HE.out];exact H0
 have HF:=aT ((((((H.put 3 0 (.slice A n cap)).put 3 1 (.int .u64 gn)).put 3 2 (.slice GA gl gc)).put 3 3 (.int .u64 lb)).put 3 4 (.slice LA ll lc)).put 3 5 (.int .u64 tm))
 have HE:=ah he
 replace HF:=ah HF
 go_enter_d Tryz.func90,Tryz.ntmps90
 go_wp2
 go_end0
 refine⟨rfl,?_,fun e=>absurd e HE⟩
 rw[LF,if_neg HE]
 exact HF
variable{w:jC}
theorem kj.LZ{Y:Nat→Prop}{bs:List (Nat×jH×List jD)}(h:kj X w0 w bs)(hx:∀b,X b→Y b):kj Y w0 w bs:=⟨h.out.mono fun b _=>hx b,fun b hb=>⟨(h.blk b hb).1.imp (hx _) id,(h.blk b hb).2⟩,h.apart⟩
def VW(Q:bk7→Act→jC→Prop):bk7→Act→jC→Prop
 |.panic _,_,_=>False
 |e,a,w=>Q e a w
variable{Q:bk7→Act→jC→Prop}{a:Act}
theorem Gm{P:bi3}{c:bk9}(h:c.wp P (VW Q) a w):c.wp P Q a w:=jg (fun e a w h=>by cases e<;>first|exact h|exact h.elim) h
theorem zh(h:Q .normal a w):VW Q .normal a w:=h
def mM(C:Nat→Prop)(K:jC→Prop)(q:Nat→Prop)(g:Nat)(c:lO)(r:Except Int kM)(W:jC)(e:bi6)(W':jC):Prop:=
 Out (fun b=>b=g∨C b) W W'∧match r with
 |.error er=>e=.returned (.int .i64 er)∧er≠0∧rv W' g c
 |.ok T2=>e=.returned (.int .i64 0)∧kB W' q g c T2∧K W'
noncomputable def I2(c:lO)(T:kM)(now:Int)(text:ByteArray)(r:Except Int kM):Except Int kM:=
 if now<T.tm then .error 140 else match r with
  |.error e=>.error e
  |.ok T2=>match ru c.ka c.kb T2.lb T2.ll T2.tm text with
   |none=>.error 160
   |some (b,l)=>.ok {T2 with lb:=b,ll:=l}
def rb(w:jC)(C:Nat→Prop)(K:jC→Prop)(p:Nat→Prop)(g:Nat)(c:lO)(T:kM)(d:Except Int kM)(e:bi6)(w':jC):Prop:=
 Out (fun b=>b=g∨C b) w w'∧
 match d with
 |.error er=>e=.returned (.int .i64 er)∧er≠0∧kB w' p g c T
 |.ok T3=>e=.returned (.int .i64 0)∧kB w' (fun b=>p b∨w.heap.size+3≤b) g c T3∧∃W2,K W2∧Out (fun b=>b=g∨(w.heap.size≤b∧b<w.heap.size+3)) W2 w'
variable{c:lO}{T:kM}{now:Int}{text:ByteArray}{r:Except Int kM}
theorem HJ(h:now<T.tm):Hid (I2 c T now text r=.error 140):=by show _=_;unfold I2;rw[if_pos h]
theorem UI{e:Int}(h:¬now<T.tm)(hr:r=.error e):Hid (I2 c T now text r=.error e):=by show _=_;unfold I2;rw[if_neg h,hr]
variable{T2:kM}
theorem H_(h:¬now<T.tm)(hr:r=.ok T2)(ha:ru c.ka c.kb T2.lb T2.ll T2.tm text=none):Hid (I2 c T now text r=.error 160):=by show _=_;unfold I2;rw[if_neg h,hr];simp only[ha]
variable{b:Int}{l:List mV}
theorem R0(h:¬now<T.tm)(hr:r=.ok T2)(ha:ru c.ka c.kb T2.lb T2.ll T2.tm text=some (b,l)):Hid (I2 c T now text r=.ok {T2 with lb:=b,ll:=l}):=by show _=_;unfold I2;rw[if_neg h,hr];simp only[ha]
variable{C p:Nat→Prop}{K:jC→Prop}{g:Nat}{d:Except Int kM}{er:Int}{A GA LA:Option jG}{ms:List jZ}
theorem rb.no{w':jC}{cap gc lc:Nat}(h:Hid (d=.error er))(h0:er≠0)(hl:qP w p T A cap ms GA gc LA lc)(hp:∀b,p b→b≠g∧¬C b∧b<w.heap.size)(ho:Out (fun b=>b=g∨C b) w w')(hb:jR w' g 117 (xj c T A ms.length cap GA gc LA lc).toArray):rb w C K p g c T d (.returned (.int .i64 er)) w':=by
 refine⟨ho,?_⟩;rw[h.out];exact⟨rfl,h0,A,cap,ms,GA,gc,LA,lc,hb,hl.out ho fun b hb=>by have:=hp b hb;rintro(e|e);exact this.1 e;exact this.2.1 e⟩
theorem rb.yes{w4 w6 w9:jC}{B:Nat}{A4 GA4 Lq A9:Option jG}{cap4 gc4 QX c9:Nat}{ZZ:List jZ}
 (h:Hid (d=.ok {T2 with lb:=b,ll:=l})) (hK:K w4) (ho:Out (fun b=>b=g∨C b) w w9) (Mg:Out (fun b=>b=g∨(w.heap.size≤b∧b<w.heap.size+3)) w4 w9) (ho6:Out (fun b=>b=g∨(w.heap.size≤b∧b<w.heap.size+3)) w6 w9)
 (hl4:qP w4 (fun b=>p b∨w.heap.size+3≤b) T2 A4 cap4 ZZ GA4 gc4 Lq QX) (hp:∀b,p b→b≠g∧¬C b∧b<w.heap.size) (hgw:g<w.heap.size)
 (hown:w6.ownsRow B 59 4 (.slice A9 l.length c9) l.length (l.flatMap nE)) (hB:w.heap.size+3≤B) (hb:jR w9 g 117 (xj c {T2 with lb:=b,ll:=l} A4 ZZ.length cap4 GA4 gc4 A9 c9).toArray):rb w C K p g c T d (.returned (.int .i64 0)) w9:=by
 refine⟨ho,?_⟩
 rw[h.out]
 have h9:=hl4.out Mg fun b hb e=>by
  rcases hb with hb|hb
  ·have:=hp b hb;omega
  omega
 obtain⟨A',c',e,hc,hr,ha⟩:=li hown
 cases e
 refine⟨rfl,⟨A4,cap4,ZZ,GA4,gc4,A9,c9,hb,h9.map,h9.tab,h9.OZ,h9.cap,h9.gb,h9.XK,ho6.rd hr fun _ ad e e2=>?_,fun _ ad e=>.inr (by have:=ha ad e;omega),hc⟩,w4,hK,Mg⟩
 have:=ha ad e
 omega
variable{W:jC}
theorem oB{bs:List (Nat×jH×List jD)}{P:bi3}{fn:Func}{R:bi6→jC→Prop}{x:bk7}(F:jC→Prop)(H:kj X w0 W bs)(h:F W)(k:∀V,Hid (kj X w0 V bs)→F V→bodyPostD P fn R x a V):bodyPostD P fn R x a W:=k W (ah H) h
theorem zt(C:Nat→Prop)(K:jC→Prop)(p:Nat→Prop)(g:Nat)(c:lO)(T:kM)(now:Int)(text:ByteArray)(SA:Option jG)(sc:Nat)(f:bl9)(cap:Array jD)(r:Except Int kM)
 (hcf:∀W,(callFunc f cap).run Tryz.prog W=.ok (.enter f cap) W)
 (hc:GC c) (hG:GT T.tb) (hlen:T.ll.length≤1000) (hfit:∀x∈T.ll,qL x∧x.text.size≤1000) (hlb:U T.lb) (hu:U now) (ht:text.size≤1000) (h4:4≤g)
 (hrr:∀T2,r=.ok T2→T2.ll=T.ll∧T2.lb=T.lb∧T2.tm=now) (w:jC) (hT:Tb w) (h:kB w p g c T) (hp:∀b,p b→b≠g∧¬C b∧b<w.heap.size) (hC:∀b,C b→b<w.heap.size∧b≠g)
 (hS:Rd w w.heap.size SA [.func (.func f) #[] cap]) (hsg:∀ad,SA=some ad→ad.block≠g)
 (hQ:∀W,Out (·=g) w W→w.heap.size+3≤W.heap.size→kB W (fun b=>p b∨w.heap.size+3≤b) g c (ko c T now)→jE Tryz.prog f cap W (mM C K (fun b=>p b∨w.heap.size+3≤b) g c r W)):
 jE Tryz.prog 68 #[.pointer (aC g),.int .u64 now,.string text,.slice SA 1 sc] w (rb w C K p g c T (I2 c T now text r)):=by
 have HQ:=ah hQ
 have HRR:=ah hrr
 have HC:=ah hC
 have HP:=ah hp
 have ov:=ah h
 have QC:Hid (∀W q,Out (·=g) w W→kB W q g c T→(∀b,q b→b≠g)→jE Tryz.prog 91 #[.pointer (aC g),jK now] W (qb W q g c T now)):=fun W q ho h hq=>Ig q g c T now hG hu h4 W (hT.rH ho fun b e=>jS) h hq
 obtain⟨A,cap0,ms,GA,gc,LA,lc,h⟩:=h
 have hgw:=h.blk.lt
 have HL:=ah h.l
 have H0:=ah (kj.one (·=g) (w:=w) rfl h.blk)
 obtain⟨sb,so,rfl,hsb,hsc⟩:=hS lV
 have au1:=hsg _ rfl
 have s0:=hsc 0 _ rfl
 clear hsc h hQ hrr hC hp hT hG hsg
 have HH:=ah (((H0.alloc w 82 [.pointer (aC g)])).alloc (w.heap.size+1) 49 [jJ 0])
 simp only[xj]at HH
 clear H0
 go_enter_defers Tryz.func68,Tryz.ntmps68
 go_wp2_with fail
 refine kq (fun V=>(cF w V)∧V.heap.size=w.heap.size+2) HH ⟨((Out.refl _ w).alloc _).alloc _,lV⟩ (fun V HV hV=>?_)
 clear HH
 refine(qc _ _).mono ?_
 rintro e w1⟨rfl,rfl⟩
 obtain⟨hVo,XE⟩:=hV
 have HOV:=ah hVo
 clear hVo
 have x:=fk (HV.facts)
 have HA:=ah (HV.alloc (w.heap.size+2) 115 [cU A ms cap0,jK T.gn,jN GA T.gl gc,jK T.lb,jN LA T.ll lc,jK T.tm] XE.symm)
 have hmf:∀(fn:Fn)(first cap:Array jD)(w:jC),(gF fn first cap).run Tryz.prog w=.ok (.func fn first cap) w:=fun _ _ _ _=>rfl
 go_wp2_with fail
 refine kq (fun V=>(cF w V)∧V.heap.size=w.heap.size+3) HA ⟨HOV.alloc _,by simp[XE]⟩ (fun V2 H2 hV2=>?_)
 obtain⟨Ru,av5⟩:=hV2
 have WA:=ah (Ru.below aa fun _ h=>h.elim)
 clear x HA HV HOV XE Ru
 refine(QC V2 p H2.out.out (ov.later WA) fun b hb=>(HP b hb).1).mono ?_
 rintro e w2⟨ho2,hno,hyes⟩
 have hne:w.heap.size+2≠g∧w.heap.size+1≠g∧w.heap.size≠g:=jS
 by_cases hn:now<T.tm
 ·obtain⟨rfl,v0,v1,v2,v3,v4,v5,hbad⟩:=hno hn;have H3:=ah (H2.Dt 3 ho2 (fun b e=>.inl e) (fun b _ e=>e) hbad);have HN:=ah hn;clear hno hyes ho2 H2 hbad hn;simp only[ak,am]at H3;have x:=fk (H3.facts);have H4:=ah ((H3.put 1 0 (.int .i64 140)).put 1 0 (.int .i64 140));simp only[ak,am]at H4;go_wp2_with fail;refine oB (fun _=>True) (H4.LZ (Y:=fun b=>b=g∨C b) fun b=>.inl) trivial (fun V9 H9 _=>?_);clear x H4 H3;refine bl5 (f:=90) (args:=#[.pointer (some (aE w)),bF w,aV w]) lV (by simp[go_sem]) ?_;refine(qi _ _ _ g 140 c _ _ _ _ _ _ _ _ _ _ _ _ _ _ _ _ _ _ .returning V9 H9).mono ?_;rintro e u' w9⟨rfl,rfl,hH,Up⟩;have hq:=hH.at_ 1;simp only[kz,au,ao,and_true]at hq;refine⟨.int .i64 140,by simp[results,Tryz.results68,go_sem,hq],?_⟩;exact rb.no (HJ HN) B8 HL HP hH.out (hH.blk _ (ac 3)).2
 obtain⟨rfl,Me⟩:=hyes hn
 have HN:=ah hn
 have HT2:=ah Me
 obtain⟨A2,cap2,ms2,GA2,Mm,LA2,lc2,h2⟩:=Me
 have H3:=ah (H2.Dt 3 ho2 (fun b e=>.inl e) (fun b _ e=>e) h2.blk)
 have hs2:=ho2.size
 clear hno hyes ho2 H2 h2 hn
 simp only[xj,ko,ak,am]at H3
 have s2:=(H3.out.out.cell (p:=⟨sb,so,none⟩) hsb au1).trans s0
 have x:=fk (H3.facts)
 have H4:=ah (H3.put 1 0 (.int .i64 0))
 simp only[ak,am]at H4
 clear s0
 go_wp2_with fail
 refine bj8 2 ?_
 rw[bi9]
 go_wp2_with fail
 have HOC:=ah H3.out.out
 refine kq (fun V=>Out (fun b=>b=w.heap.size+1) w2 V) H4 ((Out.refl (fun b=>b=w.heap.size+1) w2).setCell (p:=(aE w)) (.inl rfl) _) (fun V3 H5 ho3=>?_)
 clear x H4 H3 s2
 have hs3:=ho3.size
 refine(HQ V3 H5.out.out jS ((HT2.out.out ho3 (fun b hb e=>by have:=HP.out b;rcases hb with hb|hb;have:=(this hb).2.2;omega;omega) jS).mono fun b hb=>hb.imp id fun e=>jS)).mono ?_
 rintro e w4⟨Mg,hm⟩
 have hs4:=Mg.size
 have H6:=ah (H5.LZ (Y:=fun b=>b=g∨C b) fun b=>.inl)
 clear H5 ho3 HT2 HQ
 cases hr:r with
 |error er=>
  rw[hr]at hm;obtain⟨rfl,h0,v0,v1,v2,v3,v4,v5,hbad⟩:=hm;have HR:=ah hr;have H7:=ah (H6.Dt 3 Mg (fun b e=>.inl e) (fun b hb hne e=>e.elim hne fun e=>by
   have:=HC _ e;simp at hb;rcases hb with rfl|rfl|rfl|rfl<;>simp at this hne<;>omega) hbad)
  clear H6 Mg hbad hr;simp only[ak,am]at H7;have x:=fk (H7.facts);have H8:=ah ((H7.put 1 0 (.int .i64 er)).put 1 0 (.int .i64 er));simp only[ak,am]at H8;clear H7;have HE0:=ah h0;go_wp2_with fail;refine oB (fun _=>True) H8 trivial (fun V9 H9 _=>?_);clear x H8;refine bl5 (f:=90) (args:=#[.pointer (some (aE w)),bF w,jO w]) lV (by simp[go_sem]) ?_;refine(qi _ _ _ g er c _ _ _ _ _ _ _ _ _ _ _ _ _ _ _ _ _ _ .returning V9 H9).mono ?_;rintro e u' w9⟨rfl,rfl,hH,Up⟩;have hq:=hH.at_ 1;simp only[kz,au,ao,and_true]at hq;refine⟨.int .i64 er,by simp[results,Tryz.results68,go_sem,hq],?_⟩;exact rb.no (UI (iP.2 HN) HR) HE0 HL HP hH.out (hH.blk _ (cm (i:=3) (by rw[LF,if_neg HE0];rfl))).2
 |ok T2=>
  rw[hr]at hm;obtain⟨rfl,Z0,hK⟩:=hm;obtain⟨hll,aa7,htm⟩:=HRR T2 hr;have HK:=ah hK;have HR:=ah hr;obtain⟨A4,cap4,ZZ,GA4,gc4,Lq,QX,Uw⟩:=Z0;have Lu:=ah Uw.l;have QA:Hid (∀W,Eb W W Lq T2.ll→jE Tryz.prog 92 #[.agg #[jK c.ka,jK c.kb],.agg #[jK T2.lb,jN Lq T2.ll QX],jK T2.tm,jL text] W (pQ W (ru c.ka c.kb T2.lb T2.ll T2.tm text))):=fun W hW=>
   Bq c.ka c.kb T2.lb T2.tm text Lq T2.ll QX (by rw[hll];exact hlen) Uw.l.GJ (by rw[aa7];exact hlb) (by rw[htm];exact hu) ht (by rw[hll];exact hfit) W hW
  have H7:=ah (H6.Dt 3 Mg (fun b e=>.inl e) (fun b hb hne e=>e.elim hne fun e=>by
   have:=HC _ e;simp at hb;rcases hb with rfl|rfl|rfl|rfl<;>simp at this hne<;>omega) Uw.blk)
  clear H6 Mg Uw hr hK hll aa7 htm hfit hlen hlb hu ht;simp only[xj,ak,am]at H7;have x:=fk (H7.facts);have H8:=ah (H7.put 1 0 (.int .i64 0));simp only[ak,am]at H8;clear H7;go_wp2_with fail;rw[bi9];go_wp2_with fail;refine oO (fun V=>Out (fun b=>b=w.heap.size+1) w4 V) H8 ((Out.refl (fun b=>b=w.heap.size+1) w4).setCell (p:=(aE w)) (.inl rfl) _) (fun V HV Mf=>?_);clear x H8;have x:=fk (HV.facts);have BC:=ah Mf.drew;have hs5:=Mf.size;clear Mf;replace HV:=ah HV.drew;have HEB:Hid (Eb V.drew V.drew.heap.size Lq T2.ll):=BC.rd Lu.eb fun e ad h(e5:ad.block=w.heap.size+1)=>by
   rcases Lu.UG (flat_nil e) ad h with a|a
   ·have:=(HP _ a).2.2;omega
   omega
  have k0:=(HV.blk _ (ac 2)).2.cell 0;have k1:=(HV.blk _ (ac 3)).2.cell 9;have k2:=(HV.blk _ (ac 3)).2.cell 10;have k3:=(HV.blk _ (ac 3)).2.cell 3;have k4:=(HV.blk _ (ac 3)).2.cell 4;have k5:=(HV.blk _ (ac 3)).2.cell 5;have AQ:w.heap.size+3≤V.drew.heap.size:=by show _≤V.heap.size;omega
  have hwV:=(HV.blk _ (ac 2)).2.lt;have EG:=(HV.blk _ (ac 3)).2.lt;clear x hcf;refine Gm ?_;refine kG (S:=(fun w'=>w'.cell? ⟨w,0,none⟩=some (.pointer (aC g))∧w'.cell? ⟨g,9,none⟩=some (.int .u64 c.ka)∧w'.cell? ⟨g,10,none⟩=some (.int .u64 c.kb)∧w'.cell? ⟨g,3,none⟩=some (.int .u64 T2.lb)∧w'.cell? ⟨g,4,none⟩=some (.slice Lq T2.ll.length QX)∧w'.cell? ⟨g,5,none⟩=some (.int .u64 T2.tm))) (s:=23) oo ?_;refine sU ⟨k0,k1,k2,k3,k4,k5⟩ ?_;generalize V.drew=V2 at*
  refine oY 16 fun K hK=>?_;go_simp;refine(QA V2 HEB).mono ?_;rintro e w6⟨hb6,happ⟩;have hs6:=hb6.size;have Td:=ah (BC.call hb6);replace HV:=ah (HV.call hb6);replace k0:=(hb6.cell (p:=⟨w,0,none⟩) hwV).trans k0;replace k1:=(hb6.cell (p:=⟨g,9,none⟩) EG).trans k1;replace k2:=(hb6.cell (p:=⟨g,10,none⟩) EG).trans k2;replace k3:=(hb6.cell (p:=⟨g,3,none⟩) EG).trans k3;replace k4:=(hb6.cell (p:=⟨g,4,none⟩) EG).trans k4;replace k5:=(hb6.cell (p:=⟨g,5,none⟩) EG).trans k5
  cases ha:ru c.ka c.kb T2.lb T2.ll T2.tm text with
  |none=>
   rw[ha]at happ;subst happ;have xa:=ah ha;refine hK.out _ _ (fun _=>⟨k0,k1,k2,k3,k4,k5⟩) ?_;refine az ?_;refine sU ⟨k0,k1,k2,k3,k4,k5⟩ ?_;have x:=fk (HV.facts);refine oY 23 fun K hK=>?_;go_simp;refine hK.out _ _ (fun h=>qch) ?_;refine az ?_;refine oY 24 fun K hK=>?_;go_simp;refine hK.out _ _ (fun h=>qch) ?_;refine az ?_;refine yi ?_;refine zh ?_;have HZ:=ah ((((HV.put 3 3 (.int .u64 0)).put 3 4 aO).put 1 0 (.int .i64 160)).put 1 0 (.int .i64 160));simp only[ak,am]at HZ;go_wp2_with fail;refine oB (fun _=>True) HZ trivial (fun V9 H9 _=>?_);refine bl5 (f:=90) (args:=#[.pointer (some (aE w)),bF w,jO w]) lV (by simp[go_sem]) ?_;refine(qi _ _ _ g 160 c _ _ _ _ _ _ _ _ _ _ _ _ _ _ _ _ _ _ .returning V9 H9).mono ?_;rintro e u' w9⟨rfl,rfl,hH,Up⟩;have hq:=hH.at_ 1;simp only[kz,au,ao,and_true]at hq;refine⟨.int .i64 160,by simp[results,Tryz.results68,go_sem,hq],?_⟩;exact rb.no (H_ (iP.2 HN) HR xa) B8 HL HP hH.out (hH.blk _ (ac 3)).2
  |some bl=>
   obtain⟨b,l⟩:=bl;rw[ha]at happ;obtain⟨A9,c9,rfl,hown⟩:=happ;have xa:=ah ha;have HOWN:=ah hown;refine hK.out _ _ (fun _=>⟨k0,k1,k2,k3,k4,k5⟩) ?_;refine az ?_;refine sU ⟨k0,k1,k2,k3,k4,k5⟩ ?_;have x:=fk (HV.facts);refine oY 23 fun K hK=>?_;go_simp;refine hK.out _ _ (fun h=>qch) ?_;refine az ?_;refine oY 24 fun K hK=>?_;go_simp;refine hK.out _ _ (fun h=>qch) ?_;refine az ?_;refine yi ?_;refine zh ?_;have HZ:=ah ((((HV.put 3 3 (.int .u64 b)).put 3 4 (.slice A9 l.length c9)).put 1 0 (.int .i64 0)).put 1 0 (.int .i64 0));simp only[ak,am]at HZ;go_wp2_with fail;refine oB (fun V=>Out (fun b=>b=g∨(w.heap.size≤b∧b<w.heap.size+3)) w6 V) HZ (((((Out.refl _ w6).setCell (p:=⟨g,3,none⟩) (.inl (.inl rfl)) _).setCell (p:=⟨g,4,none⟩) (.inl (.inl rfl)) _).setCell (p:=(aE w)) (.inl (.inr lV)) _).setCell (p:=(aE w)) (.inl (.inr lV)) _) (fun V9 H9 mB=>?_);refine bl5 (f:=90) (args:=#[.pointer (some (aE w)),bF w,jO w]) lV (by simp[go_sem]) ?_;refine(qi _ _ _ g 0 c _ _ _ _ _ _ _ _ _ _ _ _ _ _ _ _ _ _ .returning V9 H9).mono ?_;rintro e u' w9⟨rfl,rfl,hH,Up⟩;have hq:=hH.at_ 1;simp only[kz,au,ao,and_true]at hq;refine⟨.int .i64 0,by simp[results,Tryz.results68,go_sem,hq],?_⟩;obtain rfl:=Up rfl;exact rb.yes (R0 (iP.2 HN) HR xa) HK hH.out ((Td.mono fun b _ e=>.inr jS).trans mB) mB Lu HP hgw HOWN AQ (hH.blk _ (ac 3)).2
theorem UK(p:Nat→Prop)(g:Nat)(c:lO)(T:kM)(now:Int)(text:ByteArray)(SA:Option jG)(sc:Nat)
 (hc:GC c) (hG:GT T.tb) (hlen:T.ll.length≤1000) (hfit:∀x∈T.ll,qL x∧x.text.size≤1000) (hlb:U T.lb) (hu:U now) (ht:text.size≤1000) (h4:4≤g)
 (w:jC) (hT:Tb w) (h:kB w p g c T) (hp:∀b,p b→b≠g∧b<w.heap.size):
 jE Tryz.prog 68 #[jO g,jK now,jL text,.slice SA 0 sc] w (rb w (fun _=>False) (fun _=>True) p g c T (I2 c T now text (.ok (ko c T now)))):=by
 have HP:Hid (∀b,p b→b≠g∧¬(fun _=>False) b∧b<w.heap.size):=fun b hb=>⟨(hp b hb).1,id,(hp b hb).2⟩
 have ov:=ah h
 have QC:Hid (∀W q,Out (·=g) w W→kB W q g c T→(∀b,q b→b≠g)→jE Tryz.prog 91 #[jO g,jK now] W (qb W q g c T now)):=fun W q ho h hq=>Ig q g c T now hG hu h4 W (hT.rH ho fun b e=>jS) h hq
 obtain⟨A,cap0,ms,GA,gc,LA,lc,h⟩:=h
 have hgw:=h.blk.lt
 have HL:=ah h.l
 have H0:=ah (kj.one (·=g) (w:=w) rfl h.blk)
 have HH:=ah (((H0.alloc w 82 [jO g])).alloc (w.heap.size+1) 49 [jJ 0])
 simp only[xj]at HH
 go_enter_defers Tryz.func68,Tryz.ntmps68
 go_wp2_with fail
 refine kq (fun V=>(cF w V)∧V.heap.size=w.heap.size+2) HH ⟨((Out.refl _ w).alloc _).alloc _,lV⟩ (fun V HV hV=>?_)
 refine(qc _ _).mono ?_
 rintro e w1⟨rfl,rfl⟩
 obtain⟨hVo,XE⟩:=hV
 have HOV:=ah hVo
 have x:=fk (HV.facts)
 have HA:=ah (HV.alloc (w.heap.size+2) 115 [jN A ms cap0,jK T.gn,jN GA T.gl gc,jK T.lb,jN LA T.ll lc,jK T.tm] XE.symm)
 have hmf:∀(fn:Fn)(first cap:Array jD)(w:jC),(gF fn first cap).run Tryz.prog w=.ok (.func fn first cap) w:=fun _ _ _ _=>rfl
 go_wp2_with fail
 refine kq (fun V=>(cF w V)∧V.heap.size=w.heap.size+3) HA ⟨HOV.alloc _,by simp[XE]⟩ (fun V2 H2 hV2=>?_)
 obtain⟨Ru,av5⟩:=hV2
 have WA:=Ru.below aa fun _ h=>h.elim
 refine(QC V2 p H2.out.out (ov.later WA) fun b hb=>(HP b hb).1).mono ?_
 rintro e w2⟨ho2,hno,hyes⟩
 have hne:w.heap.size+2≠g∧w.heap.size+1≠g∧w.heap.size≠g:=jS
 by_cases hn:now<T.tm
 ·obtain⟨rfl,v0,v1,v2,v3,v4,v5,hbad⟩:=hno hn;have H3:=aT (ah (H2.Dt 3 ho2 (fun b e=>.inl e) (fun b _ e=>e) hbad));have HN:=ah hn;have x:=fk (H3.facts);have H4:=aT (ah ((H3.put 1 0 (.int .i64 140)).put 1 0 (.int .i64 140)));go_wp2_with fail;refine oB (fun _=>True) (H4.LZ (Y:=fun b=>b=g∨(fun _=>False) b) fun b=>.inl) trivial (fun V9 H9 _=>?_);refine bl5 (f:=90) (args:=#[.pointer (some (aE w)),bF w,jO w]) lV (by simp[go_sem]) ?_;refine(qi _ _ _ g 140 c _ _ _ _ _ _ _ _ _ _ _ _ _ _ _ _ _ _ .returning V9 H9).mono ?_;rintro e u' w9⟨rfl,rfl,hH,Up⟩;have hq:=fk (hH.at_ 1);refine⟨.int .i64 140,by simp[results,Tryz.results68,go_sem,hq],?_⟩;exact rb.no (HJ HN) B8 HL HP hH.out (hH.blk _ (ac 3)).2
 obtain⟨rfl,Me⟩:=hyes hn
 have HN:=ah hn
 obtain⟨A4,cap4,ZZ,GA4,gc4,Lq,QX,Uw⟩:=Me
 have Lu:=ah (Uw.l.mono (q:=fun b=>p b∨w.heap.size+3≤b) fun b hb=>hb.imp id fun e=>jS)
 have QA:Hid (∀W,Eb W W Lq (ko c T now).ll→jE Tryz.prog 92 #[.agg #[jK c.ka,jK c.kb],.agg #[jK (ko c T now).lb,.slice Lq (ko c T now).ll.length QX],jK (ko c T now).tm,jL text] W (pQ W (ru c.ka c.kb (ko c T now).lb (ko c T now).ll (ko c T now).tm text))):=fun W hW=>
  Bq c.ka c.kb T.lb now text Lq T.ll QX hlen Uw.l.GJ hlb hu ht hfit W hW
 have H7:=ah ((H2.Dt 3 ho2 (fun b e=>.inl e) (fun b _ e=>e) Uw.blk).LZ (Y:=fun b=>b=g∨(fun _=>False) b) fun b=>.inl)
 have hs4:=ho2.size
 generalize hT2:ko c T now=T2 at*
 have HR:=ah hT2
 have HK:Hid True:=trivial
 simp only[xj,ak,am]at H7
 have x:=fk (H7.facts)
 have H8:=aT (ah (H7.put 1 0 (.int .i64 0)))
 go_wp2_with fail
 refine bj8 1 ?_
 rw[bi9]
 go_wp2_with fail
 refine oO (fun V=>Out (fun b=>b=w.heap.size+1) w2 V) H8 ((Out.refl (fun b=>b=w.heap.size+1) w2).setCell (p:=(aE w)) (.inl rfl) _) (fun V HV Mf=>?_)
 have x:=fk (HV.facts)
 have BC:=ah Mf.drew
 have hs5:=Mf.size
 clear Mf
 replace HV:=ah HV.drew
 have HEB:Hid (Eb V.drew V.drew.heap.size Lq T2.ll):=BC.rd Lu.eb fun e ad h(e5:ad.block=w.heap.size+1)=>by
  rcases Lu.UG (flat_nil e) ad h with a|a
  ·have:=(HP _ a).2.2;omega
  omega
 have k0:V.drew.cell? ⟨w,0,none⟩=some (.pointer (aC g)):=(HV.blk _ (ac 2)).2.cell 0
 have k1:V.drew.cell? ⟨g,9,none⟩=some (.int .u64 c.ka):=(HV.blk _ (ac 3)).2.cell 9
 have k2:V.drew.cell? ⟨g,10,none⟩=some (.int .u64 c.kb):=(HV.blk _ (ac 3)).2.cell 10
 have k3:V.drew.cell? ⟨g,3,none⟩=some (.int .u64 T2.lb):=(HV.blk _ (ac 3)).2.cell 3
 have k4:V.drew.cell? ⟨g,4,none⟩=some (.slice Lq T2.ll.length QX):=(HV.blk _ (ac 3)).2.cell 4
 have k5:V.drew.cell? ⟨g,5,none⟩=some (.int .u64 T2.tm):=(HV.blk _ (ac 3)).2.cell 5
 have AQ:w.heap.size+3≤V.drew.heap.size:=by show _≤V.heap.size;omega
 have hwV:w.heap.size<V.drew.heap.size:=(HV.blk _ (ac 2)).2.lt
 have EG:g<V.drew.heap.size:=(HV.blk _ (ac 3)).2.lt
 clear x
 refine Gm ?_
 refine kG (S:=(fun w'=>w'.cell? ⟨w,0,none⟩=some (.pointer (aC g))∧w'.cell? ⟨g,9,none⟩=some (.int .u64 c.ka)∧w'.cell? ⟨g,10,none⟩=some (.int .u64 c.kb)∧w'.cell? ⟨g,3,none⟩=some (.int .u64 T2.lb)∧w'.cell? ⟨g,4,none⟩=some (.slice Lq T2.ll.length QX)∧w'.cell? ⟨g,5,none⟩=some (.int .u64 T2.tm))) (s:=23) (by kernel_rfl) ?_
 refine sU ⟨k0,k1,k2,k3,k4,k5⟩ ?_
 generalize V.drew=V2 at*
 refine oY 16 fun K hK=>?_
 go_simp
 refine(QA V2 HEB).mono ?_
 rintro e w6⟨hb6,happ⟩
 have hs6:=hb6.size
 have Td:Hid (Out (fun b=>b=w.heap.size+1) w2 w6):=BC.call hb6
 replace HV:=ah (HV.call hb6)
 replace k0:=(hb6.cell (p:=⟨w,0,none⟩) hwV).trans k0
 replace k1:=(hb6.cell (p:=⟨g,9,none⟩) EG).trans k1
 replace k2:=(hb6.cell (p:=⟨g,10,none⟩) EG).trans k2
 replace k3:=(hb6.cell (p:=⟨g,3,none⟩) EG).trans k3
 replace k4:=(hb6.cell (p:=⟨g,4,none⟩) EG).trans k4
 replace k5:=(hb6.cell (p:=⟨g,5,none⟩) EG).trans k5
 clear hb6 HEB QA BC
 cases ha:ru c.ka c.kb T2.lb T2.ll T2.tm text with
 |none=>
  rw[ha]at happ;subst happ;have xa:=ah ha;clear ha;refine hK.out _ _ (fun _=>⟨k0,k1,k2,k3,k4,k5⟩) ?_;clear hK K;refine az ?_;refine sU ⟨k0,k1,k2,k3,k4,k5⟩ ?_;clear k0 k1 k2 k3 k4 k5;have x:=fk (HV.facts);refine oY 23 fun K hK=>?_;go_simp;refine hK.out _ _ (fun h=>by cases h) ?_;clear hK K;refine az ?_;refine oY 24 fun K hK=>?_;go_simp;refine hK.out _ _ (fun h=>by cases h) ?_;clear hK K;refine az ?_;refine yi ?_;refine zh ?_;have HZ:=aT (ah ((((HV.put 3 3 (.int .u64 0)).put 3 4 aO).put 1 0 (.int .i64 160)).put 1 0 (.int .i64 160)));go_wp2_with fail;refine oB (fun _=>True) HZ trivial (fun V9 H9 _=>?_);clear x HZ;refine bl5 (f:=90) (args:=#[.pointer (some (aE w)),bF w,jO w]) (by simp) (by simp[go_sem]) ?_;refine(qi _ _ _ g 160 c _ _ _ _ _ _ _ _ _ _ _ _ _ _ _ _ _ _ .returning V9 H9).mono ?_;rintro e u' w9⟨rfl,rfl,hH,Up⟩;have hq:=fk (hH.at_ 1);refine⟨.int .i64 160,by simp[results,Tryz.results68,go_sem,hq],?_⟩;exact rb.no (H_ (iP.2 HN) (congrArg Except.ok HR) xa) (by decide) HL HP hH.out (hH.blk _ (ac 3)).2
 |some bl=>
  obtain⟨b,l⟩:=bl;rw[ha]at happ;obtain⟨A9,c9,rfl,hown⟩:=happ;have xa:=ah ha;have HOWN:=ah hown;clear ha hown;refine hK.out _ _ (fun _=>⟨k0,k1,k2,k3,k4,k5⟩) ?_;clear hK K;refine az ?_;refine sU ⟨k0,k1,k2,k3,k4,k5⟩ ?_;clear k0 k1 k2 k3 k4 k5;have x:=fk (HV.facts);refine oY 23 fun K hK=>?_;go_simp;refine hK.out _ _ (fun h=>by cases h) ?_;clear hK K;refine az ?_;refine oY 24 fun K hK=>?_;go_simp;refine hK.out _ _ (fun h=>by cases h) ?_;clear hK K;refine az ?_;refine yi ?_;refine zh ?_;have HZ:=aT (ah ((((HV.put 3 3 (.int .u64 b)).put 3 4 (.slice A9 l.length c9)).put 1 0 (.int .i64 0)).put 1 0 (.int .i64 0)));go_wp2_with fail;refine oB (fun V=>Out (fun b=>b=g∨(w.heap.size≤b∧b<w.heap.size+3)) w6 V) HZ (((((Out.refl _ w6).setCell (p:=⟨g,3,none⟩) (.inl (.inl rfl)) _).setCell (p:=⟨g,4,none⟩) (.inl (.inl rfl)) _).setCell (p:=(aE w)) (.inl (.inr (by simp))) _).setCell (p:=(aE w)) (.inl (.inr (by simp))) _) (fun V9 H9 mB=>?_);clear x HZ;refine bl5 (f:=90) (args:=#[.pointer (some (aE w)),bF w,jO w]) (by simp) (by simp[go_sem]) ?_;refine(qi _ _ _ g 0 c _ _ _ _ _ _ _ _ _ _ _ _ _ _ _ _ _ _ .returning V9 H9).mono ?_;rintro e u' w9⟨rfl,rfl,hH,Up⟩;have hq:=fk (hH.at_ 1);refine⟨.int .i64 0,by simp[results,Tryz.results68,go_sem,hq],?_⟩;obtain rfl:=Up rfl;exact rb.yes (R0 (iP.2 HN) (congrArg Except.ok HR) xa) HK hH.out ((Td.mono fun b _ e=>.inr (by omega)).trans mB) mB Lu HP hgw HOWN AQ (hH.blk _ (ac 3)).2
variable{q:Nat→Prop}
theorem mM.no{W':jC}(h:r=.error er)(ho:Out (fun b=>b=g∨C b) W W')(h0:er≠0)(hb:rv W' g c):mM C K q g c r W (.returned (.int .i64 er)) W':=⟨ho,by rw[h];exact⟨rfl,h0,hb⟩⟩
theorem mM.yes{W':jC}(h:r=.ok T2)(ho:Out (fun b=>b=g∨C b) W W')(hb:kB W' q g c T2)(hK:K W'):mM C K q g c r W (.returned (.int .i64 0)) W':=⟨ho,by rw[h];exact⟨rfl,hb,hK⟩⟩
theorem qP.VX{w2 V9:jC}{A2:Option jG}{cap gc lc c2 B:Nat}(h:qP w p T A cap ms GA gc LA lc)(hp:∀b,p b→¬X b)(ho:Out X w V9)(ho2:Out X w2 V9)
 (htb:T2.tb=T.tb) (hll:T2.ll=T.ll) (hgb:Gb w2 w2 A2 T2.gl) (hlo:∀ad,A2=some ad→B≤ad.block) (hX:∀b,X b→b<B) (hpq:∀b,p b→q b) (hq:∀b,B≤b→q b):qP V9 q T2 A cap ms A2 c2 LA lc:=by
 have h9:=h.out ho hp
 refine⟨by rw[htb];exact h9.map,h9.tab,h9.OZ.mono hpq,h9.cap,ho2.rd hgb fun _ ad e hx=>?_,fun _ ad e=>hq _ (hlo ad e),?_,?_,?_⟩
 ·have:=hlo ad e;have:=hX _ hx;omega
 ·rw[hll];exact h9.eb
 ·rw[hll];exact fun x a e=>hpq _ (h.UG x a e)
 rw[hll];exact h.GJ
variable{l:List Gr}
theorem JE{id:Int}(h:lr l id=.error er):er≠0:=by
 unfold lr at h;split at h<;>first|(cases h;done)|(cases h;decide)|(split at h<;>cases h<;>decide)
theorem PV(q:Nat→Prop)(g:Nat)(c:lO)(T:kM)(tb ib:Nat)(id:Int)(hG:GG T.gn T.gl)(h4:4≤g)(w:jC)(hT:Tb w)(ht:w.cell? ⟨tb,0,none⟩=some (.pointer (aC g)))(hi:(bI w ib id))(h:kB w q g c T)(hq:∀b,q b→b≠g):
 jE Tryz.prog 82 #[jO tb,jO ib] w (mM (fun _=>False) (fun _=>True) (fun b=>q b∨w.heap.size≤b) g c ((lr T.gl id).map fun l=>{T with gl:=l}) w):=by
 obtain⟨A,cap,ms,GA,gc,LA,lc,h⟩:=h
 have hgw:=h.blk.lt
 have HL:=ah h.l
 have HP:=ah hq
 have Q:Hid (∀W,Out (fun b=>b=g∨(fun _=>False) b) w W→jE Tryz.prog 83 #[.agg #[jK T.gn,jN GA T.gl gc],jK id] W (ue W T.gn (lr T.gl id))):=fun W ho=>
  Hb T.gn GA T.gl gc id hG W (hT.rH ho fun b e=>e.elim (fun e=>jS) False.elim) (h.l.out ho fun b hb e=>e.elim (hq b hb) fun e=>e).gb
 have htw:=b8 w _ ht
 have hiw:=b8 w _ hi
 have H0:=ah (kj.one (fun b=>b=g∨(fun _=>False) b) (w:=w) (.inl rfl) h.blk)
 simp only[xj]at H0 htw hiw
 obtain⟨-,c1,c2,-⟩:=h.cells
 clear h hq hT hG
 go_in
 go_wp2_with fail
 refine oO (fun V=>V=w) H0 rfl (fun V HV hV=>?_)
 subst hV
 have k0:V.drew.cell? ⟨tb,0,none⟩=some (.pointer (aC g)):=ht
 have k1:V.drew.cell? ⟨ib,0,none⟩=some (.int .u64 id):=hi
 have k2:V.drew.cell? ⟨g,1,none⟩=some (.int .u64 T.gn):=c1
 have k3:V.drew.cell? ⟨g,2,none⟩=some (.slice GA T.gl.length gc):=c2
 replace HV:=ah HV.drew
 have h0V:tb<V.drew.heap.size:=htw
 have h1V:ib<V.drew.heap.size:=hiw
 have h2V:g<V.drew.heap.size:=hgw
 have h3V:g<V.drew.heap.size:=hgw
 clear ht hi c1 c2 H0
 refine kG (S:=(fun w'=>w'.cell? ⟨tb,0,none⟩=some (.pointer (aC g))∧(bI w' ib id)∧w'.cell? ⟨g,1,none⟩=some (.int .u64 T.gn)∧w'.cell? ⟨g,2,none⟩=some (.slice GA T.gl.length gc))) (s:=14) oo ?_
 refine sU ⟨k0,k1,k2,k3⟩ ?_
 generalize hV2:V.drew=V2 at*
 have Zb:V.heap.size≤V2.heap.size:=by rw[←hV2];exact ay _
 clear hV2
 refine oY 7 fun K hK=>?_
 go_simp
 refine(Q V2 HV.out.out).mono ?_
 rintro e w6⟨hb6,happ⟩
 have hs6:=hb6.size
 have Td:Hid (Out (fun b=>b=g∨(fun _=>False) b) V w6):=HV.out.out.call hb6
 replace HV:=ah (HV.call hb6)
 replace k0:=(hb6.cell (p:=⟨tb,0,none⟩) h0V).trans k0
 replace k1:=(hb6.cell (p:=⟨ib,0,none⟩) h1V).trans k1
 replace k2:=(hb6.cell (p:=⟨g,1,none⟩) h2V).trans k2
 replace k3:=(hb6.cell (p:=⟨g,2,none⟩) h3V).trans k3
 clear hb6
 cases hrr:lr T.gl id with
 |error er=>
  rw[hrr]at happ;subst happ;have HR:=ah hrr;clear hrr;refine hK.out _ _ (fun _=>⟨k0,k1,k2,k3⟩) ?_;clear hK K;refine az ?_;refine sU ⟨k0,k1,k2,k3⟩ ?_;clear k0 k1 k2 k3;have x:=fk (HV.facts);refine oY 14 fun K hK=>?_;go_simp;refine hK.out _ _ (fun h=>qch) ?_;clear hK K;refine az ?_;refine MZ ?_;refine yi ?_;have HZ:=aT (ah ((HV.put 0 1 (.int .u64 0)).put 0 2 aO));go_wp2_with fail;refine kh (fun _=>True) HZ trivial (fun V9 H9 _=>?_);clear x HZ HV;go_ret;exact mM.no (by rw[HR];rfl) H9.out.out (JE HR) ⟨_,_,_,_,_,_,(H9.blk _ ab).2⟩
 |ok l=>
  rw[hrr]at happ;obtain⟨A2,c2,rfl,hl2,hg2,ha2⟩:=happ;have HR:=ah hrr;have HG2:=ah hg2;have HA2:=ah ha2;clear hrr hg2 ha2;refine hK.out _ _ (fun _=>⟨k0,k1,k2,k3⟩) ?_;clear hK K;refine az ?_;refine sU ⟨k0,k1,k2,k3⟩ ?_;clear k0 k1 k2 k3;have x:=fk (HV.facts);refine oY 14 fun K hK=>?_;go_simp;refine hK.out _ _ (fun h=>qch) ?_;clear hK K;refine az ?_;refine MZ ?_;refine yi ?_;have HZ:=aT (ah ((HV.put 0 1 (.int .u64 T.gn)).put 0 2 (.slice A2 l.length c2)));go_wp2_with fail;refine kh (fun V=>Out (fun b=>b=g∨(fun _=>False) b) w6 V) HZ (((Out.refl _ w6).setCell (p:=⟨g,1,none⟩) (.inl (.inl rfl)) _).setCell (p:=⟨g,2,none⟩) (.inl (.inl rfl)) _) (fun V9 H9 mB=>?_);clear x HZ HV;go_ret;exact mM.yes (T2:={T with gl:=l}) (by rw[HR];rfl) H9.out.out ⟨A,cap,ms,A2,c2,LA,lc,(H9.blk _ ab).2,HL.VX (fun b hb e=>e.elim (HP b hb) False.elim) H9.out.out mB rfl rfl HG2 HA2 (fun b e=>e.elim (fun e=>jS) False.elim) (fun b=>.inl) (fun b e=>.inr jS)⟩ trivial
variable{sc:ByteArray}
theorem NO{n:Int}{to:Int}(h:lW n l to sc=.error er):er≠0:=by
 unfold lW at h;split at h<;>first|(cases h;done)|(cases h;decide)|(split at h<;>cases h<;>decide)
theorem kj.more{bs:List (Nat×jH×List jD)}{t:jH}{cs:List jD}(h:kj X w0 w bs)(hx:X g)(hb:jR w g t cs.toArray)(hne:∀b∈bs,g≠b.1):kj X w0 w ((g,t,cs)::bs):=
 ⟨h.out,fun b hm=>by rcases cw.1 hm with rfl|hm;exact⟨.inl hx,hb⟩;exact h.blk b hm,b6.2 ⟨hne,h.apart⟩⟩
theorem Kw(q:Nat→Prop)(g:Nat)(c:lO)(T:kM)(tb ob sb cb:Nat)(to v:Int)(sc:ByteArray)(hG:GG T.gn T.gl)(hs:sc.size≤1000)(h4:4≤g)(hc4:4≤cb)(w:jC)(hT:Tb w)(ht:w.cell? ⟨tb,0,none⟩=some (.pointer (aC g)))(hi:(bI w ob to))(hsc:w.cell? ⟨sb,0,none⟩=some (.string sc))(hcb:jR w cb 22 #[jK v])(h:kB w q g c T)(hq:∀b,q b→b≠g∧b≠cb)(hgc:cb≠g):
 jE Tryz.prog 80 #[jO tb,jO ob,jO sb,jO cb] w (mM (fun b=>b=cb) (fun W=>∀r,lW T.gn T.gl to sc=.ok r→W.cell? ⟨cb,0,none⟩=some (.int .u64 r.2.2)) (fun b=>q b∨w.heap.size≤b) g c ((lW T.gn T.gl to sc).map fun r=>{T with gn:=r.1,gl:=r.2.1}) w):=by
 obtain⟨A,cap,ms,GA,gc,LA,lc,h⟩:=h
 have hgw:=h.blk.lt
 have hcw:=hcb.lt
 have HL:=ah h.l
 have HP:=ah hq
 have Q:Hid (∀W,Out (fun b=>b=g∨b=cb) w W→jE Tryz.prog 81 #[.agg #[jK T.gn,jN GA T.gl gc],jK to,jL sc] W (rA W (lW T.gn T.gl to sc))):=fun W ho=>
  NP T.gn GA T.gl gc to sc hG hs W (hT.rH ho fun b e=>by rcases e with e|e<;>omega) (h.l.out ho fun b hb e=>e.elim (hq b hb).1 (hq b hb).2).gb
 have htw:=b8 w _ ht
 have hiw:=b8 w _ hi
 have hsw:=b8 w _ hsc
 have H0:=ah ((kj.one (fun b=>b=g∨b=cb) (w:=w) (.inl rfl) h.blk).more (.inr rfl) (cs:=[jK v]) hcb (fun b hb=>by simp at hb;rw[hb];exact hgc))
 simp only[xj]at H0 htw hiw hsw
 obtain⟨-,c1,c2,-⟩:=h.cells
 clear h hq hT hG hcb
 go_in
 go_wp2_with fail
 refine oO (fun V=>V=w) H0 rfl (fun V HV hV=>?_)
 subst hV
 have k0:V.drew.cell? ⟨tb,0,none⟩=some (.pointer (aC g)):=ht
 have k1:V.drew.cell? ⟨ob,0,none⟩=some (.int .u64 to):=hi
 have k2:V.drew.cell? ⟨sb,0,none⟩=some (.string sc):=hsc
 have k3:V.drew.cell? ⟨g,1,none⟩=some (.int .u64 T.gn):=c1
 have k4:V.drew.cell? ⟨g,2,none⟩=some (.slice GA T.gl.length gc):=c2
 replace HV:=ah HV.drew
 have h0V:tb<V.drew.heap.size:=htw
 have h1V:ob<V.drew.heap.size:=hiw
 have h2V:sb<V.drew.heap.size:=hsw
 have h3V:g<V.drew.heap.size:=hgw
 have h4V:g<V.drew.heap.size:=hgw
 clear ht hi hsc c1 c2 H0
 refine kG (S:=(fun w'=>w'.cell? ⟨tb,0,none⟩=some (.pointer (aC g))∧(bI w' ob to)∧w'.cell? ⟨sb,0,none⟩=some (.string sc)∧w'.cell? ⟨g,1,none⟩=some (.int .u64 T.gn)∧w'.cell? ⟨g,2,none⟩=some (.slice GA T.gl.length gc))) (s:=16) oo ?_
 refine sU ⟨k0,k1,k2,k3,k4⟩ ?_
 generalize hV2:V.drew=V2 at*
 have Zb:V.heap.size≤V2.heap.size:=by rw[←hV2];exact ay _
 clear hV2
 refine oY 8 fun K hK=>?_
 go_simp
 refine(Q V2 HV.out.out).mono ?_
 rintro e w6⟨hb6,happ⟩
 have hs6:=hb6.size
 have Td:Hid (Out (fun b=>b=g∨b=cb) V w6):=HV.out.out.call hb6
 replace HV:=ah (HV.call hb6)
 replace k0:=(hb6.cell (p:=⟨tb,0,none⟩) h0V).trans k0
 replace k1:=(hb6.cell (p:=⟨ob,0,none⟩) h1V).trans k1
 replace k2:=(hb6.cell (p:=⟨sb,0,none⟩) h2V).trans k2
 replace k3:=(hb6.cell (p:=⟨g,1,none⟩) h3V).trans k3
 replace k4:=(hb6.cell (p:=⟨g,2,none⟩) h4V).trans k4
 clear hb6
 cases hrr:lW T.gn T.gl to sc with
 |error er=>
  rw[hrr]at happ;subst happ;have HR:=ah hrr;clear hrr;refine hK.out _ _ (fun _=>⟨k0,k1,k2,k3,k4⟩) ?_;clear hK K;refine az ?_;refine sU ⟨k0,k1,k2,k3,k4⟩ ?_;clear k0 k1 k2 k3 k4;have x:=fk (HV.facts);refine oY 16 fun K hK=>?_;go_simp;refine hK.out _ _ (fun h=>qch) ?_;clear hK K;refine az ?_;refine oY 17 fun K hK=>?_;go_simp;refine hK.out _ _ (fun h=>qch) ?_;clear hK K;refine az ?_;refine MZ ?_;refine yi ?_;have HZ:=aT (ah (((HV.put 1 1 (.int .u64 0)).put 1 2 aO).put 0 0 (.int .u64 0)));go_wp2_with fail;refine kh (fun _=>True) HZ trivial (fun V9 H9 _=>?_);clear x HZ HV;go_ret;exact mM.no (by rw[HR];rfl) H9.out.out (NO HR) ⟨_,_,_,_,_,_,(H9.blk _ (ac 1)).2⟩
 |ok r=>
  obtain⟨n,l,id⟩:=r;rw[hrr]at happ;obtain⟨A2,c2,rfl,hl2,hg2,ha2⟩:=happ;have HR:=ah hrr;have HG2:=ah hg2;have HA2:=ah ha2;clear hrr hg2 ha2;refine hK.out _ _ (fun _=>⟨k0,k1,k2,k3,k4⟩) ?_;clear hK K;refine az ?_;refine sU ⟨k0,k1,k2,k3,k4⟩ ?_;clear k0 k1 k2 k3 k4;have x:=fk (HV.facts);refine oY 16 fun K hK=>?_;go_simp;refine hK.out _ _ (fun h=>qch) ?_;clear hK K;refine az ?_;refine oY 17 fun K hK=>?_;go_simp;refine hK.out _ _ (fun h=>qch) ?_;clear hK K;refine az ?_;refine MZ ?_;refine yi ?_;have HZ:=aT (ah (((HV.put 1 1 (.int .u64 n)).put 1 2 (.slice A2 l.length c2)).put 0 0 (.int .u64 id)));go_wp2_with fail;refine kh (fun V=>Out (fun b=>b=g∨b=cb) w6 V) HZ ((((Out.refl _ w6).setCell (p:=⟨g,1,none⟩) (.inl (.inl rfl)) _).setCell (p:=⟨g,2,none⟩) (.inl (.inl rfl)) _).setCell (p:=⟨cb,0,none⟩) (.inl (.inr rfl)) _) (fun V9 H9 mB=>?_);clear x HZ HV;go_ret;exact mM.yes (T2:={T with gn:=n,gl:=l}) (by rw[HR];rfl) H9.out.out ⟨A,cap,ms,A2,c2,LA,lc,(H9.blk _ (ac 1)).2,HL.VX (fun b hb e=>e.elim (HP b hb).1 (HP b hb).2) H9.out.out mB rfl rfl HG2 HA2 (fun b e=>by rcases e with e|e<;>omega) (fun b=>.inl) (fun b e=>.inr jS)⟩ (fun r hr=>by
   rw[HR]at hr
   cases hr
   exact(H9.blk _ (ac 0)).2.cell 0)
structure ScB(x0:jC) where
def cB(x0:jC):ScB x0:=⟨⟩
instance(x0:jC):CoeOut (ScB x0) jG:=⟨fun _=>⟨x0.heap.size+3,0,none⟩⟩
variable{l:List kI}
theorem Q3(h:l≠[]):k_ l≠[]:=fun e=>by
 have:=sj l;rw[e]at this;exact h (da (by simp at this;omega))
theorem kB.lt(h:kB w p g c T):kB w (fun b=>p b∧b<w.heap.size) g c T:=by
 obtain⟨A,cap,ms,GA,gc,LA,lc,h⟩:=h;refine⟨A,cap,ms,GA,gc,LA,lc,h.blk,h.l.map,h.l.tab,⟨fun x ad e=>⟨h.l.OZ.a x ad e,uS h.l.tab.rd (by cases ms with|nil=>exact absurd rfl x|cons a r=>simp[lS,ng]) ad e⟩,fun m hm=>⟨fun x ad e=>⟨(h.l.OZ.all m hm).l x ad e,uS (h.l.tab.ok m hm).l (Q3 x) ad e⟩,?_⟩⟩,h.l.cap,h.l.gb,fun x ad e=>⟨h.l.XK x ad e,uS h.l.gb (by cases hg:T.gl with|nil=>exact absurd hg x|cons a r=>simp[uZ]) ad e⟩,h.l.eb,fun x ad e=>⟨h.l.UG x ad e,uS h.l.eb (by cases hg:T.ll with|nil=>exact absurd hg x|cons a r=>simp[nE]) ad e⟩,h.l.GJ⟩;have a:=(h.l.OZ.all m hm).k;have b:=(h.l.tab.ok m hm).k.inn;exact⟨fun x ad e=>⟨a.e x ad e,b.e x ad e⟩,fun x ad e=>⟨a.c x ad e,b.c x ad e⟩,fun x ad e=>⟨a.g x ad e,b.g x ad e⟩⟩
variable{α:Type}
def qJ(w:jC)(p:Nat→Prop)(g:Nat)(c:lO)(T:kM)(bad:Int→jD)(good:jC→α→jD→Prop)(r:Except Int (kM×α))(e:bi6)(w':jC):Prop:=
 Out (·=g) w w'∧match r with
 |.error er=>e=.returned (bad er)∧er≠0∧kB w' p g c T
 |.ok (T3,a)=>(∃v,e=.returned v∧good w' a v)∧kB w' (fun b=>p b∨w.heap.size≤b) g c T3
theorem UJ{step:kM→Except Int (kM×α)}(h:I2 c T now text ((step (ko c T now)).map (·.1))=.error er):EQ c T now text step=.error er:=by
 unfold I2 at h;unfold EQ;split
 ·rename_i h1;rw[if_pos h1]at h;cases h;rfl
 rename_i h1;rw[if_neg h1]at h
 cases hs:step (ko c T now)with
 |error e=>rw[hs]at h;cases h;rfl
 |ok x=>
  obtain⟨T2,a⟩:=x;rw[hs]at h;simp only[Except.map]at h⊢
  cases ha:ru c.ka c.kb T2.lb T2.ll T2.tm text with
  |none=>rw[ha]at h;simp only at h⊢;cases h;rfl
  |some x=>rw[ha]at h;cases h
variable{T3:kM}
theorem XR{step:kM→Except Int (kM×α)}(h:I2 c T now text ((step (ko c T now)).map (·.1))=.ok T3):∃T2 a,step (ko c T now)=.ok (T2,a)∧EQ c T now text step=.ok (T3,a):=by
 unfold I2 at h;unfold EQ;split at h
 ·cases h
 rename_i h1;rw[if_neg h1]
 cases hs:step (ko c T now)with
 |error e=>rw[hs]at h;cases h
 |ok x=>
  obtain⟨T2,a⟩:=x;rw[hs]at h;simp only[Except.map]at h⊢
  cases ha:ru c.ka c.kb T2.lb T2.ll T2.tm text with
  |none=>rw[ha]at h;cases h
  |some x=>rw[ha]at h;simp only at h⊢;cases h;exact⟨T2,a,rfl,rfl⟩
theorem qJ.of{V w9:jC}{step:kM→Except Int (kM×α)}{e:bi6}(hr:r=(step (ko c T now)).map (·.1))(hV:(cF w V))(hC:∀b,C b→w.heap.size≤b)
 (h:rb V C K (fun b=>p b∧b<w.heap.size) g c T (I2 c T now text r) e w9):
 Out (·=g) w w9∧((∃er,EQ c T now text step=.error er∧e=.returned (.int .i64 er)∧er≠0∧kB w9 p g c T)∨
  (∃T2 T3 a,step (ko c T now)=.ok (T2,a)∧EQ c T now text step=.ok (T3,a)∧e=.returned (.int .i64 0)∧kB w9 (fun b=>p b∨w.heap.size≤b) g c T3∧∃W2,K W2∧Out (fun b=>b=g∨(V.heap.size≤b∧b<V.heap.size+3)) W2 w9)):=by
 subst hr
 obtain⟨ho,hm⟩:=h
 refine⟨(hV.mono fun _ _ h=>h.elim).then_ ho fun b hb=>hb.imp id (hC b),?_⟩
 have hs:=hV.size
 cases hd:I2 c T now text ((step (ko c T now)).map (·.1))with
 |error er=>rw[hd]at hm;exact .inl ⟨er,UJ hd,hm.1,hm.2.1,hm.2.2.mono fun b hb=>hb.1⟩
 |ok T3=>
  rw[hd]at hm;obtain⟨T2,a,h1,h2⟩:=XR hd;exact .inr ⟨T2,T3,a,h1,h2,hm.1,hm.2.1.mono fun b hb=>hb.imp (·.1) fun h=>jS,hm.2.2⟩
theorem yl: "revoke".toByteArray=⟨#[114,101,118,111,107,101]⟩:=TO
theorem zP: "grant".toByteArray=⟨#[103,114,97,110,116]⟩:=TO
theorem Fv(p:Nat→Prop)(g:Nat)(c:lO)(T:kM)(now id:Int)(hc:GC c)(hG:nH c T)(hu:U now)(h4:4≤g)(w:jC)(hw:4≤w.heap.size)(hT:Tb w)(h:kB w p g c T)(hp:∀b,p b→b≠g):
 jE Tryz.prog 62 #[jO g,jK now,jK id] w (qJ w p g c T (fun er=>.int .i64 er) (fun _ _ v=>v=.int .i64 0) (D4 c T now id)):=by
 have hgw:g<w.heap.size:=by obtain⟨_,_,_,_,_,_,_,h⟩:=h;exact h.blk.lt
 have HT:=ah hT
 have ov:=ah h.lt
 have HP:=ah hp
 have oX:=ah hG
 have HH:=ah ((((kj.nil (fun _=>False) w).alloc w 82 [jO g]).alloc (w.heap.size+1) 22 [jK id]).alloc (w.heap.size+2) 156 [.func (.func 82) #[] #[jO w,.pointer (some (aE w))]])
 clear hT h hp hG
 have hmf:∀(fn:Fn)(first cap:Array jD)(w:jC),(gF fn first cap).run Tryz.prog w=.ok (.func fn first cap) w:=fun _ _ _ _=>rfl
 go_in
 go_wp2_with fail
 refine kq (fun _=>True) HH trivial (fun V HV _=>?_)
 clear HH
 have hV:w.heap.size+2<V.heap.size:=(HV.blk _ ab).2.lt
 have hb:(bJ w V):=HV.out.out.below aa fun _ h=>h.elim
 have Rv:=HT.later hb
 refine(zt (fun _=>False) (fun _=>True) (fun b=>p b∧b<w.heap.size) g c T now _ (some (aG w)) 1 82 #[jO w,.pointer (some (aE w))] ((lr (ko c T now).gl id).map fun l=>{ko c T now with gl:=l}) (fun W=>rfl) hc oX.tb
  (by have:=oX.lg.len;omega) (fun x hx=>⟨(oX.lg.fit x hx).1,by have:=(oX.lg.fit x hx).2;omega⟩) oX.lg.bU hu B8 h4 (fun T2 h2=>?_) V Rv (ov.later hb) (fun b hb=>⟨HP b hb.1,not_false,jS⟩) (fun _ h=>h.elim)
  (fun _=>⟨w.heap.size+1+1,0,rfl,jS,fun j v hj=>?_⟩) (fun ad e=>by cases e;simp;omega) (fun W ho hs mo=>?_)).mono ?_
 ·cases O2:lr (ko c T now).gl id with
  |error e=>rw[O2]at h2;cases h2
  |ok l=>rw[O2]at h2;cases h2;exact⟨rfl,rfl,rfl⟩
 ·rw[au];exact((HV.blk _ ab).2.cell j).trans (by rw[bh];exact hj)
 ·have k0:V.cell? ⟨w,0,none⟩=some (.pointer (aC g)):=(HV.blk _ (ac 2)).2.cell 0;have k1:V.cell? (aE w)=some (.int .u64 id):=(HV.blk _ (ac 1)).2.cell 0;refine(PV (fun b=>(p b∧b<w.heap.size)∨V.heap.size+3≤b) g c (ko c T now) w (w.heap.size+1) id oX.gg h4 W (Rv.rH ho fun b e=>jS) ((ho.cell (p:=⟨w,0,none⟩) (by show w.heap.size<_;omega) (by show¬w.heap.size=g;omega)).trans k0) ((ho.cell (p:=(aE w)) (by show w.heap.size+1<_;omega) (by show¬w.heap.size+1=g;omega)).trans k1) mo (fun b hb=>by rcases hb with hb|hb;exact HP b hb.1;omega)).mono ?_;rintro e W'⟨ho',hm⟩;refine⟨ho',?_⟩
  cases hr:((lr (ko c T now).gl id).map fun l=>{ko c T now with gl:=l}:Except Int kM)with
  |error er=>rw[hr]at hm;exact hm
  |ok T2=>rw[hr]at hm;exact⟨hm.1,hm.2.1.mono fun b hb=>by rcases hb with hb|hb;exact hb;exact .inr jS,hm.2.2⟩
 rintro e w9 h9
 obtain⟨mB,⟨er,hd,rfl,h0,ED⟩|⟨T2,T3,a,hst,hd,rfl,ED,-⟩⟩:=qJ.of (step:=fun T=>(lr T.gl id).map fun l=>({T with gl:=l},())) (by cases lr (ko c T now).gl id<;>rfl) HV.out.out (fun _ h=>h.elim) h9
 ·have HD:=ah hd;have H0:=ah h0;clear hd h0 h9;go_wp2;go_ret;exact⟨mB,by rw[D4,yl,HD];exact⟨rfl,H0,ED⟩⟩
 have HD:=ah hd
 clear hd h9 hst
 go_wp2
 go_ret
 exact⟨mB,by rw[D4,yl,HD];exact⟨⟨_,rfl,rfl⟩,ED⟩⟩
theorem M2(p:Nat→Prop)(g:Nat)(c:lO)(T:kM)(now:Int)(text:ByteArray)(hc:GC c)(hG:nH c T)(hu:U now)(ht:text.size≤1000)(h4:4≤g)(w:jC)(hT:Tb w)(h:kB w p g c T)(hp:∀b,p b→b≠g):
 jE Tryz.prog 58 #[jO g,jK now,jL text] w (qJ w p g c T (fun er=>.int .i64 er) (fun _ _ v=>v=.int .i64 0) (CV c T now text)):=by
 have Q:=ah (UK (fun b=>p b∧b<w.heap.size) g c T now text none 0 hc hG.tb (by have:=hG.lg.len;omega) (fun x hx=>⟨(hG.lg.fit x hx).1,by have:=(hG.lg.fit x hx).2;omega⟩) hG.lg.bU hu ht h4 w hT h.lt (fun b hb=>⟨hp b hb.1,hb.2⟩))
 clear h hp hT hG
 go_in
 go_wp2_with fail
 refine Q.mono ?_
 rintro e w9 h9
 obtain⟨mB,⟨er,hd,rfl,h0,ED⟩|⟨T2,T3,a,hst,hd,rfl,ED,-⟩⟩:=qJ.of (step:=fun T=>.ok (T,())) rfl (Out.refl _ w) (fun _ h=>h.elim) h9
 ·have HD:=ah hd;have H0:=ah h0;clear hd h0 h9 Q;go_wp2;go_ret;exact⟨mB,by rw[CV,HD];exact⟨rfl,H0,ED⟩⟩
 have HD:=ah hd
 clear hd h9 hst Q
 go_wp2
 go_ret
 exact⟨mB,by rw[CV,HD];exact⟨⟨_,rfl,rfl⟩,ED⟩⟩
theorem Jg(p:Nat→Prop)(g:Nat)(c:lO)(T:kM)(now to:Int)(sc:ByteArray)(hc:GC c)(hG:nH c T)(hu:U now)(hsc:sc.size≤1000)(h4:4≤g)(w:jC)(hw:4≤w.heap.size)(hT:Tb w)(h:kB w p g c T)(hp:∀b,p b→b≠g):
 jE Tryz.prog 61 #[jO g,jK now,jK to,jL sc] w (qJ w p g c T (fun er=>.tuple #[jK 0,jJ er]) (fun _ a v=>v=.tuple #[jK a,jJ 0]) (sy c T now to sc)):=by
 have hgw:g<w.heap.size:=by obtain⟨_,_,_,_,_,_,_,h⟩:=h;exact h.blk.lt
 have HT:=ah hT
 have ov:=ah h.lt
 have HP:=ah hp
 have oX:=ah hG
 have HH:=ah ((((((kj.nil (fun _=>False) w).alloc w 82 [jO g]).alloc (w.heap.size+1) 22 [jK to]).alloc (w.heap.size+2) 9 [jL sc]).alloc (w.heap.size+3) 22 [jK 0]).alloc (w.heap.size+4) 156 [.func (.func 80) #[] #[jO w,.pointer (some (aE w)),bF w,.pointer (some (cB w))]])
 clear hT h hp hG
 have hmf:∀(fn:Fn)(first cap:Array jD)(w:jC),(gF fn first cap).run Tryz.prog w=.ok (.func fn first cap) w:=fun _ _ _ _=>rfl
 go_in
 go_wp2_with fail
 refine kq (fun _=>True) HH trivial (fun V HV _=>?_)
 clear HH
 have hV:w.heap.size+4<V.heap.size:=(HV.blk _ ab).2.lt
 have hb:(bJ w V):=HV.out.out.below aa fun _ h=>h.elim
 have Rv:=HT.later hb
 refine(zt (fun b=>b=w.heap.size+3) (fun W=>∀r,lW T.gn T.gl to sc=.ok r→W.cell? (cB w)=some (.int .u64 r.2.2)) (fun b=>p b∧b<w.heap.size) g c T now _ (some (lz 46 w)) 1 80 #[jO w,.pointer (some (aE w)),bF w,.pointer (some (cB w))] ((lW T.gn T.gl to sc).map fun r=>{ko c T now with gn:=r.1,gl:=r.2.1}) (fun W=>rfl) hc oX.tb
  (by have:=oX.lg.len;omega) (fun x hx=>⟨(oX.lg.fit x hx).1,by have:=(oX.lg.fit x hx).2;omega⟩) oX.lg.bU hu B8 h4 (fun T2 h2=>?_) V Rv (ov.later hb) (fun b hb=>⟨HP b hb.1,qhc,jS⟩) (fun b e=>jS)
  (fun _=>⟨w.heap.size+1+1+1+1,0,rfl,jS,fun j v hj=>?_⟩) (fun ad e=>by cases e;simp;omega) (fun W ho hs mo=>?_)).mono ?_
 ·cases O2:lW T.gn T.gl to sc with
  |error e=>rw[O2]at h2;cases h2
  |ok l=>rw[O2]at h2;cases h2;exact⟨rfl,rfl,rfl⟩
 ·rw[au];exact((HV.blk _ ab).2.cell j).trans (by rw[bh];exact hj)
 ·have k0:V.cell? ⟨w,0,none⟩=some (.pointer (aC g)):=(HV.blk _ (ac 4)).2.cell 0;have k1:V.cell? (aE w)=some (.int .u64 to):=(HV.blk _ (ac 3)).2.cell 0;have k2:V.cell? ⟨w.heap.size+2,0,none⟩=some (.string sc):=(HV.blk _ (ac 2)).2.cell 0;refine(Kw (fun b=>(p b∧b<w.heap.size)∨V.heap.size+3≤b) g c (ko c T now) w (w.heap.size+1) (w.heap.size+2) (w.heap.size+3) to 0 sc oX.gg hsc h4 jS W (Rv.rH ho fun b e=>jS) ((ho.cell (p:=⟨w,0,none⟩) (by show w.heap.size<_;omega) (by show¬w.heap.size=g;omega)).trans k0) ((ho.cell (p:=(aE w)) (by show w.heap.size+1<_;omega) (by show¬w.heap.size+1=g;omega)).trans k1) ((ho.cell (p:=⟨w.heap.size+2,0,none⟩) (by show w.heap.size+2<_;omega) (by show¬w.heap.size+2=g;omega)).trans k2) (ho.blk (HV.blk _ (ac 1)).2 (by show¬w.heap.size+3=g;omega)) mo (fun b hb=>by rcases hb with hb|hb;exact⟨HP b hb.1,qhc⟩;omega) jS).mono ?_;rintro e W'⟨ho',hm⟩;refine⟨ho',?_⟩;have hm2:match((lW T.gn T.gl to sc).map fun r=>{ko c T now with gn:=r.1,gl:=r.2.1}:Except Int kM)with
   |.error er=>e=.returned (.int .i64 er)∧er≠0∧rv W' g c
   |.ok T2=>e=.returned (.int .i64 0)∧kB W' (fun b=>((p b∧b<w.heap.size)∨V.heap.size+3≤b)∨W.heap.size≤b) g c T2∧∀r,lW T.gn T.gl to sc=.ok r→W'.cell? (cB w)=some (.int .u64 r.2.2):=hm
  clear hm
  cases hr:((lW T.gn T.gl to sc).map fun r=>{ko c T now with gn:=r.1,gl:=r.2.1}:Except Int kM)with
  |error er=>rw[hr]at hm2;exact hm2
  |ok T2=>rw[hr]at hm2;exact⟨hm2.1,hm2.2.1.mono fun b hb=>by rcases hb with hb|hb;exact hb;exact .inr jS,hm2.2.2⟩
 rintro e w9 h9
 obtain⟨mB,⟨er,hd,rfl,h0,ED⟩|⟨T2,T3,a,hst,hd,rfl,ED,W2,hK,ho2⟩⟩:=qJ.of (step:=fun T=>(lW T.gn T.gl to sc).map fun r=>({T with gn:=r.1,gl:=r.2.1},r.2.2)) (by show _=((lW T.gn T.gl to sc).map _).map _;cases lW T.gn T.gl to sc<;>rfl) HV.out.out (fun _ h=>jS) h9
 ·have HD:=ah hd;have H0:=ah h0;clear hd h9;replace h0:¬er=0:=h0;go_wp2;go_ret2;exact⟨mB,by rw[sy,zP,HD];exact⟨rfl,H0,ED⟩⟩
 have HD:=ah hd
 have hst2:((lW T.gn T.gl to sc).map fun r=>(({ko c T now with gn:=r.1,gl:=r.2.1}:kM),r.2.2))=.ok (T2,a):=hst
 have hcell:w9.cell? (cB w)=some (.int .u64 a):=by
  cases hi:lW T.gn T.gl to sc with
  |error e=>rw[hi]at hst2;cases hst2
  |ok r=>
   have hc2:=hK r hi;rw[hi]at hst2
   cases hst2
   exact(ho2.cell (p:=(cB w)) (b8 W2 _ hc2) (by show¬(w.heap.size+3=g∨(V.heap.size≤w.heap.size+3∧_));omega)).trans hc2
 replace hcell:w9.cell? ⟨cC w,0,none⟩=some (.int .u64 a):=hcell
 clear hd h9 hst hst2 hK
 go_wp2
 go_ret2
 exact⟨mB,by rw[sy,zP,HD];exact⟨⟨_,rfl,rfl⟩,ED⟩⟩
noncomputable def me(c:lO)(T:kM)(labels:ByteArray)(kind:Int)(items:List Item):Except Int (kM×List Nat):=
 if 50<items.length then .error 181 else
 match vt (tx labels)with
 |none=>.error 40
 |some l=>
  if 1≤kind∧kind≤3 then
   if(mf T.tb l kind).kind=kind then
    match we T.tb ⟨l,mF (mf T.tb l kind) items,T.tm⟩with
    |none=>.error 120
    |some t=>match pI c.budget 100 t []with
     |none=>.error 130
     |some (t,ps)=>.ok ({T with tb:=t},ps)
   else .error 101
  else .error 101
noncomputable def nl(c:lO)(T:kM)(now:Int)(labels:ByteArray)(kind:Int)(items:List Item):Except Int (kM×List Nat):=
 EQ c T now "ingest".toByteArray fun T=>me c T labels kind items
theorem t7:∀(l:List Item){s:Sk},GK s→(∀x∈l,U x.h∧U x.n)→GK (mF s l)∧(mF s l).kind=s.kind
 |[],s,h,_=>⟨h,rfl⟩
 |x::l,s,h,hu=>by
  have hx:=hu x ab;have a:=Wk h hx.1 hx.2;have b:=t7 l a.1 fun y hy=>hu y (dS _ hy);exact⟨b.1,b.2.trans a.2⟩
variable{t:List mq}{kind:Int}
theorem vM(h:GT t)(hk:1≤kind∧kind≤3):GK (mf t l kind):=by
 unfold mf;split
 ·cases e:t[o_ t l]? with
  |none=>exact(wj hk).1
  |some s=>exact(h.all s (cm e)).k
 exact(wj hk).1
variable{labels:ByteArray}{items:List Item}
theorem FC(h:me c T labels kind items=.error er):er≠0:=by
 unfold me at h;repeat' split at h
 all_goals first|(cases h;done)|(cases h;decide)
instance(x0:jC):CoeOut (sH 45 x0) jG:=⟨fun _=>⟨x0.heap.size+4,0,none⟩⟩
theorem An(h:kA t sc kind=.error er):er≠0:=by
 unfold kA at h;repeat' split at h
 all_goals first|(cases h;done)|(cases h;decide)
theorem kB.bad(h:kB w q g c T):rv w g c:=by
 obtain⟨A,cap,ms,GA,gc,LA,lc,h⟩:=h;exact⟨_,_,_,_,_,_,h.blk⟩
theorem JL(q:Nat→Prop)(g:Nat)(c:lO)(T:kM)(tb sb kb hb cb:Nat)(sc:ByteArray)(kind h v:Int)(hG:GT T.tb)(hs:sc.size≤1000)(hh:U h)(h4:4≤g)(hc4:4≤cb)(w:jC)(hT:Tb w)(hE:Er w)(ht:w.cell? ⟨tb,0,none⟩=some (.pointer (aC g)))(hsc:w.cell? ⟨sb,0,none⟩=some (.string sc))(hk:w.cell? ⟨kb,0,none⟩=some (.int .i64 kind))(hhc:(bI w hb h))(hcb:jR w cb 22 #[jK v])(nD:kB w q g c T)(hq:∀b,q b→b≠g∧b≠cb)(hgc:cb≠g):
 jE Tryz.prog 73 #[jO tb,jO sb,jO kb,jO hb,jO cb] w (mM (fun b=>b=cb) (fun W=>∀s,kA T.tb sc kind=.ok s→W.cell? ⟨cb,0,none⟩=some (.int .u64 (rt s h))) (fun b=>q b∨w.heap.size≤b) g c ((kA T.tb sc kind).map fun _=>T) w):=by
 have Q:=ah (Fw q g c T sc kind hG hs w hT hE nD)
 have ov:=ah nD
 have HP:=ah hq
 have H0:=ah (kj.one (fun b=>b=cb) (w:=w) (cs:=[jK v]) rfl hcb)
 have OU:Hid (∀s,kA T.tb sc kind=.ok s→GK s):=fun s e=>(Gp hG e).1
 have IV:Hid (∀er,kA T.tb sc kind=.error er→er≠0):=fun er e=>An e
 have htw:=b8 w _ ht
 have hhw:=b8 w _ hhc
 simp only at htw hhw
 generalize hmm:kA T.tb sc kind=r at*
 clear hmm nD hq hcb hT hE hG
 go_in
 go_wp2_with fail
 refine Q.mono ?_
 rintro e w1⟨hb1,h1⟩
 have hs1:=hb1.size
 have h2:(bI w1 hb h):=(hb1.cell (p:=⟨hb,0,none⟩) hhw).trans hhc
 have hh1:hb<w1.heap.size:=jS
 replace H0:=ah (H0.call hb1)
 have HB:=ah hb1
 clear Q hb1
 have x:=fk (H0.facts)
 cases r with
 |error er=>
  simp only at h1;subst h1;have h0:¬er=0:=IV er rfl;have hH:=ah h0;simp only[xl];have HA:=ah (H0.alloc w1 136 [jJ 0,jJ 0,jM,jJ 0,aF,jJ 0,jJ 0,jM,jJ 0,jM]);go_wp2_with fail;refine kh (fun _=>True) HA trivial (fun V9 H9 _=>?_);clear x HA H0;go_ret;exact mM.no rfl (H9.out.out.mono fun b _ e=>.inr e) hH.out (ov.out.out H9.out.out (fun b hb e=>(HP b hb).2 e) (fun e=>hgc e.symm)).bad
 |ok s=>
  obtain⟨m,rfl,rfl,hok,hin⟩:=h1;have yZ:=ah (OU m.s rfl);have oH:=ah hok;clear hok hin;unfold nT;have HA:=ah (H0.alloc w1 136 (aA m));go_wp2_with fail;refine kq (fun V=>jY V V m) HA (oH.later ((Below.refl _ w1).alloc aa _)) (fun V HV hV=>?_);clear x HA H0;refine(GO m yZ h hh V hV).mono ?_;rintro e w3⟨rfl,hb3⟩;replace HV:=ah (HV.call hb3);clear hb3 hV;have x:=fk (HV.facts);have HZ:=aT (ah (HV.put 1 0 (.int .u64 (rt m.s h))));go_wp2_with fail;refine kh (fun _=>True) HZ trivial (fun V9 H9 _=>?_);clear x HZ HV;go_ret;exact mM.yes rfl (H9.out.out.mono fun b _ e=>.inr e) ((ov.out.out H9.out.out (fun b hb e=>(HP b hb).2 e) (fun e=>hgc e.symm)).mono fun b=>.inl) (fun s hs=>by
   cases hs
   exact(H9.blk _ (ac 1)).2.cell 0)
theorem zO: "query".toByteArray=⟨#[113,117,101,114,121]⟩:=TO
theorem Jc(p:Nat→Prop)(g:Nat)(c:lO)(T:kM)(now:Int)(sc:ByteArray)(kind h:Int)(hc:GC c)(hG:nH c T)(hu:U now)(hsc:sc.size≤1000)(hh:U h)(h4:4≤g)(w:jC)(hw:4≤w.heap.size)(hT:Tb w)(hE:Er w)(nD:kB w p g c T)(hp:∀b,p b→b≠g):
 jE Tryz.prog 55 #[jO g,jK now,jL sc,jJ kind,jK h] w (qJ w p g c T (fun er=>.tuple #[jK 0,jJ er]) (fun _ a v=>v=.tuple #[jK a,jJ 0]) (pM c T now sc kind h)):=by
 have hgw:g<w.heap.size:=by obtain⟨_,_,_,_,_,_,_,h⟩:=nD;exact h.blk.lt
 have HT:=ah hT
 have HE:=ah hE
 have ov:=ah nD.lt
 have HP:=ah hp
 have oX:=ah hG
 have HGC:Hid (GT (ko c T now).tb):=hG.tb.filter _
 have HH:=ah (((((((kj.nil (fun _=>False) w).alloc w 82 [jO g]).alloc (w.heap.size+1) 9 [jL sc]).alloc (w.heap.size+2) 3 [jJ kind]).alloc (w.heap.size+3) 22 [jK h]).alloc (w.heap.size+4) 22 [jK 0]).alloc (w.heap.size+5) 156 [.func (.func 73) #[] #[jO w,.pointer (some (aE w)),bF w,.pointer (some (cB w)),.pointer (some (lz 45 w))]])
 clear hT nD hp hG hE
 have hmf:∀(fn:Fn)(first cap:Array jD)(w:jC),(gF fn first cap).run Tryz.prog w=.ok (.func fn first cap) w:=fun _ _ _ _=>rfl
 go_in
 go_wp2_with fail
 refine kq (fun _=>True) HH trivial (fun V HV _=>?_)
 clear HH
 have hV:w.heap.size+5<V.heap.size:=(HV.blk _ ab).2.lt
 have hb:(bJ w V):=HV.out.out.below aa fun _ h=>h.elim
 have Rv:=HT.later hb
 have hEV:=HE.later hb
 refine(zt (fun b=>b=w.heap.size+4) (fun W=>∀s,kA (ko c T now).tb sc kind=.ok s→W.cell? (lz 45 w)=some (.int .u64 (rt s h))) (fun b=>p b∧b<w.heap.size) g c T now _ (some ⟨w.heap.size+1+1+1+1+1,0,none⟩) 1 73 #[jO w,.pointer (some (aE w)),bF w,.pointer (some (cB w)),.pointer (some (lz 45 w))] ((kA (ko c T now).tb sc kind).map fun _=>ko c T now) (fun W=>rfl) hc oX.tb
  (by have:=oX.lg.len;omega) (fun x hx=>⟨(oX.lg.fit x hx).1,by have:=(oX.lg.fit x hx).2;omega⟩) oX.lg.bU hu B8 h4 (fun T2 h2=>?_) V Rv (ov.later hb) (fun b hb=>⟨HP b hb.1,qhc,jS⟩) (fun b e=>jS)
  (fun _=>⟨w.heap.size+1+1+1+1+1,0,rfl,jS,fun j v hj=>?_⟩) (fun ad e=>by cases e;simp;omega) (fun W ho hs mo=>?_)).mono ?_
 ·cases O2:kA (ko c T now).tb sc kind with
  |error e=>rw[O2]at h2;cases h2
  |ok l=>rw[O2]at h2;cases h2;exact⟨rfl,rfl,rfl⟩
 ·rw[au];exact((HV.blk _ ab).2.cell j).trans (by rw[bh];exact hj)
 ·have k0:V.cell? ⟨w,0,none⟩=some (.pointer (aC g)):=(HV.blk _ (ac 5)).2.cell 0;have k1:V.cell? (aE w)=some (.string sc):=(HV.blk _ (ac 4)).2.cell 0;have k2:V.cell? ⟨w.heap.size+2,0,none⟩=some (.int .i64 kind):=(HV.blk _ (ac 3)).2.cell 0;have k3:V.cell? (cB w)=some (.int .u64 h):=(HV.blk _ (ac 2)).2.cell 0;refine(JL (fun b=>(p b∧b<w.heap.size)∨V.heap.size+3≤b) g c (ko c T now) w (w.heap.size+1) (w.heap.size+2) (w.heap.size+3) (w.heap.size+4) sc kind h 0 HGC hsc hh h4 jS W (Rv.rH ho fun b e=>jS) (hEV.rH ho fun b e=>jS) ((ho.cell (p:=⟨w,0,none⟩) (by show w.heap.size<_;omega) (by show¬w.heap.size=g;omega)).trans k0) ((ho.cell (p:=(aE w)) (by show w.heap.size+1<_;omega) (by show¬w.heap.size+1=g;omega)).trans k1) ((ho.cell (p:=⟨w.heap.size+2,0,none⟩) (by show w.heap.size+2<_;omega) (by show¬w.heap.size+2=g;omega)).trans k2) ((ho.cell (p:=(cB w)) (by show w.heap.size+3<_;omega) (by show¬w.heap.size+3=g;omega)).trans k3) (ho.blk (HV.blk _ (ac 1)).2 (by show¬w.heap.size+4=g;omega)) mo (fun b hb=>by rcases hb with hb|hb;exact⟨HP b hb.1,qhc⟩;omega) jS).mono ?_;rintro e W'⟨ho',hm⟩;refine⟨ho',?_⟩
  cases hr:((kA (ko c T now).tb sc kind).map fun _=>ko c T now:Except Int kM)with
  |error er=>rw[hr]at hm;exact hm
  |ok T2=>rw[hr]at hm;exact⟨hm.1,hm.2.1.mono fun b hb=>by rcases hb with hb|hb;exact hb;exact .inr jS,hm.2.2⟩
 rintro e w9 h9
 obtain⟨mB,⟨er,hd,rfl,h0,ED⟩|⟨T2,T3,a,hst,hd,rfl,ED,W2,hK,ho2⟩⟩:=qJ.of (step:=fun T=>(kA T.tb sc kind).map fun s=>(T,rt s h)) (by show _=((kA (ko c T now).tb sc kind).map _).map _;cases kA (ko c T now).tb sc kind<;>rfl) HV.out.out (fun _ h=>jS) h9
 ·have HD:=ah hd;have H0:=ah h0;clear hd h9;replace h0:¬er=0:=h0;go_wp2;go_ret2;exact⟨mB,by rw[pM,zO,HD];exact⟨rfl,H0,ED⟩⟩
 have HD:=ah hd
 have hst2:((kA (ko c T now).tb sc kind).map fun s=>(ko c T now,rt s h))=.ok (T2,a):=hst
 have hcell:w9.cell? (lz 45 w)=some (.int .u64 a):=by
  cases hi:kA (ko c T now).tb sc kind with
  |error e=>rw[hi]at hst2;cases hst2
  |ok r=>
   have hc2:=hK r hi;rw[hi]at hst2
   cases hst2
   exact(ho2.cell (p:=(lz 45 w)) (b8 W2 _ hc2) (by show¬(w.heap.size+4=g∨(V.heap.size≤w.heap.size+4∧_));omega)).trans hc2
 replace hcell:w9.cell? (lz 46 w)=some (.int .u64 a):=hcell
 clear hd h9 hst hst2 hK
 go_wp2
 go_ret2
 exact⟨mB,by rw[pM,zO,HD];exact⟨⟨_,rfl,rfl⟩,ED⟩⟩
structure Cu where
 oK:Int
 role:Int
 YR:Int
structure s9 where
 op:Int
 now:Int
 labels:ByteArray
 scope:ByteArray
 kind:Int
 items:List Item
 h:Int
 to:Int
 id:Int
 jV:List Int
structure Rep where
 e:Int
 n:Int
 notices:List Nat
 entries:List mV
def uJ(e:Int):Rep:=⟨e,0,[],[]⟩
structure lN(r:s9):Prop where
 now:U r.now
 labels:r.labels.size≤300
 scope:r.scope.size≤300
 items:r.items.length≤52
 iu:∀x∈r.items,U x.h∧U x.n
 h:U r.h
 to:U r.to
 id:U r.id
 jV:r.jV.length≤10
 tu:∀x∈r.jV,U x
abbrev Col:=List (lO×kM)
def m6(C:Col)(id:Int):Option Nat:=C.findIdx? fun x=>x.1.id==id
variable{C:Col}{k:Nat}
theorem EL{id:Int}(h:m6 C id=some k):∃hk:k<C.length,C[k].1.id=id:=by
 unfold m6 at h;rw[eP]at h;obtain⟨hk,he,_⟩:=h;exact⟨hk,by simpa using he⟩
noncomputable def uV(C:Col)(own:Int)(scope:ByteArray)(kind:Int)(id:Int):Except Int Sk:=
 match m6 C id with
 |none=>.error 170
 |some k=>match C[k]? with
  |none=>.error 170
  |some (_,T)=>if id=own then kA T.tb scope kind else qT T.gl own T.tb scope kind
noncomputable def ln(C:Col)(own:Int)(scope:ByteArray)(kind:Int)(s:Sk)(id:Int):Sk:=
 match uV C own scope kind id with
 |.error _=>s
 |.ok p=>mZ s p
noncomputable def vm(C:Col)(own:Int)(scope:ByteArray)(kind:Int)(ids:List Int):Sk:=ids.foldl (ln C own scope kind) (nC kind)
noncomputable def p6(c:lO)(T:kM)(r:s9):Except Int (kM×Rep):=
 if r.op=1 then(nl c T r.now r.labels r.kind r.items).map fun x=>(x.1,⟨0,kJ x.1.tb,x.2,[]⟩)
 else if r.op=2 then(pM c T r.now r.scope r.kind r.h).map fun x=>(x.1,⟨0,x.2,[],[]⟩)
 else if r.op=4 then(sy c T r.now r.to r.scope).map fun x=>(x.1,⟨0,x.2,[],[]⟩)
 else if r.op=5 then(D4 c T r.now r.id).map fun x=>(x.1,⟨0,0,[],[]⟩)
 else if r.op=6 then .ok (T,⟨0,0,[],lA T.ll r.id⟩)
 else .ok (T,⟨0,kJ T.tb,[],[]⟩)
noncomputable def qt(c:lO)(T:kM)(r:s9):Except Int (kM×Unit):=
 if 8<r.jV.length then .error 181
 else if mw r.scope=true then(if 1≤r.kind∧r.kind≤3 then CV c T r.now "rollup".toByteArray else .error 101)
 else .error 50
noncomputable def Hz(C:Col)(k:Nat)(c:lO)(T:kM)(r:s9):Col×Rep:=
 if r.op=3 then
  match qt c T r with
  |.error e=>(C,uJ e)
  |.ok (T',_)=>(C.set k (c,T'),⟨0,rt (vm (C.set k (c,T')) c.id r.scope r.kind r.jV) r.h,[],[]⟩)
 else match p6 c T r with
  |.error e=>(C,uJ e)
  |.ok (T',y)=>(C.set k (c,T'),y)
noncomputable def tW(C:Col)(x:Cu)(r:s9):Col×Rep:=
 match m6 C x.oK with
 |none=>(C,uJ 170)
 |some k=>match C[k]? with
  |none=>(C,uJ 170)
  |some (c,T)=>
   if¬(1≤r.op∧r.op≤7)then(C,uJ 191)
   else if zZ x.role r.op=false then(C,uJ 190)
   else Hz C k c T r
structure nR(C:Col):Prop where
 cfg:∀x∈C,GC x.1
 ten:∀x∈C,nH x.1 x.2
 ids:C.Pairwise fun a b=>a.1.id≠b.1.id
theorem Yc{ka kb at_:Int}{l:List mV}(h:GL ka kb b l)(ha:U at_){b':Int}{l':List mV}(e:ru ka kb b l at_ text=some (b',l')):GL ka kb b' l'∧late l' at_=false∧kO l'=kO l+1∧l'.getLast?=some (newE ka kb b l at_ text):=by
 have h1:(qN ka kb b l&&decide (text.size≤200)&&(kO l !=18446744073709551615)&& !late l at_)=true:=by
  unfold ru at e;split at e
  ·assumption
  cases e
 simp only[ba,decide_eq_true_eq,jp,bne_iff_ne]at h1;have hl:U (kO l):=Es fun x hx=>⟨(h.fit x hx).1,by have:=(h.fit x hx).2;omega⟩;obtain⟨b2,l2,e2,r⟩:=Wj h ha h1.1.1.2 h1.2 (by have h9:=hl.2;have h8:=h1.1.2;replace h9:kO l≤18446744073709551615:=h9;omega);rw[e]at e2
 cases e2
 exact r
structure SC(c:lO)(T T2:kM):Prop where
 tb:GT T2.tb
 gg:GG T2.gn T2.gl
 lb:T2.lb=T.lb
 ll:T2.ll=T.ll
 tm:T2.tm=T.tm
theorem ax4{step:kM→Except Int (kM×α)}{a:α}(h:nH c T)(hu:U now)(hs:∀T2 a,step (ko c T now)=.ok (T2,a)→SC c (ko c T now) T2)(e:EQ c T now text step=.ok (T3,a)):
 nH c T3∧¬now<T.tm∧T3.tm=now∧kO T3.ll=kO T.ll+1∧(∃x,T3.ll.getLast?=some x∧x.text=text∧x.tm=now)∧∃T2,step (ko c T now)=.ok (T2,a)∧T3.tb=T2.tb∧T3.gn=T2.gn∧T3.gl=T2.gl:=by
 unfold EQ at e
 split at e
 ·cases e
 rename_i h1
 split at e
 ·cases e
 rename_i T2 b hst
 split at e
 ·cases e
 rename_i bb ll ha
 cases e
 have g:=hs _ _ hst
 have e1:T2.lb=T.lb:=g.lb
 have e2:T2.ll=T.ll:=g.ll
 have e3:T2.tm=now:=g.tm
 rw[e1,e2,e3]at ha
 obtain⟨k1,k2,k3,k4⟩:=Yc h.lg hu ha
 exact⟨⟨g.tb,g.gg,k1,by show U T2.tm;rw[e3];exact hu,by show late ll T2.tm=false;rw[e3];exact k2⟩,h1,e3,k3,⟨_,k4,rfl,rfl⟩,T2,hst,rfl,rfl,rfl⟩
def Q8(x:Item):List jD:=[jK x.h,jK x.n]
theorem Out.lp{X:Nat→Prop}{w:jC}{g:Nat}(hg:X g∨w.heap.size≤g):∀(vs:List jD){w':jC}(i:Nat),Out X w w'→Out X w (lp w' g i vs)
 |[],_,_,h=>h
 |v::vs,_,i,h=>Out.lp hg vs (i+1) (h.setCell (p:=⟨g,i,none⟩) hg v)
theorem Below.lp{B:Nat}{w:jC}{g:Nat}(hg:B≤g):∀(vs:List jD){w':jC}(i:Nat),Below B w w'→Below B w (lp w' g i vs)
 |[],_,_,h=>h
 |v::vs,_,i,h=>Below.lp hg vs (i+1) (h.setCell (p:=⟨g,i,none⟩) hg v)
def U6(w:jC)(q:Nat→Prop)(g:Nat)(c:lO)(r:Except Int (kM×List Nat))(e:bi6)(w':jC):Prop:=
 Out (·=g) w w'∧match r with
 |.error er=>e=.returned (.tuple #[jM,jJ er])∧rv w' g c
 |.ok (T2,ps)=>∃A k,e=.returned (.tuple #[jN A ps k,jJ 0])∧kB w' (fun b=>q b∨w.heap.size≤b) g c T2∧Rd w' w' A (lC ps)∧(aX A w)
theorem take_any(q:Nat→Prop)(g:Nat)(c:lO)(T:kM)(labels:ByteArray)(kind:Int)(IA:Option jG)(ic:Nat)(items:List Item)(hc:GC c)(hG:GT T.tb)(hu:U T.tm)(hl:labels.size≤1000)(hil:items.length≤1000)(hi:∀x∈items,U x.h∧U x.n)(h4:4≤g)(w:jC)(hT:Tb w)(hE:Er w)(h:kB w q g c T)(hq:∀b,q b→b≠g)(hI:Rd w w IA (items.flatMap Q8)):
 jE Tryz.prog 70 #[jO g,jL labels,jJ kind,jN IA items ic] w (U6 w q g c (me c T labels kind items)):=by
 have QP:=ah (parse_any labels w (by omega) hT)
 have HT:=ah hT
 have HE:=ah hE
 have ov:=ah h
 have HP:=ah hq
 have oX:=ah hG
 have HI:=ah hI
 obtain⟨A,cap,ms,GA,gc,LA,lc,h⟩:=h
 have HL:=ah h.l
 have H0:=ah (kj.one (·=g) (w:=w) rfl h.blk)
 simp only[xj]at H0
 clear hT hE hq hG hI h
 by_cases h50:50<items.length
 ·have HR:Hid (me c T labels kind items=.error 181):=by show _=_;unfold me;rw[if_pos h50]
  generalize me c T labels kind items=r at*
  go_in;go_wp2_with fail;refine kh (fun _=>True) H0 trivial (fun V9 H9 _=>?_);clear H0;go_ret2;exact⟨H9.out.out,by rw[HR.out];exact⟨rfl,_,_,_,_,_,_,(H9.out.blk _ (di ..)).2⟩⟩
 have x:=fk (H0.facts)
 generalize hrr:me c T labels kind items=r
 have HR:=ah hrr
 have ZC:=ah h50
 clear hrr
 go_in
 go_wp2_with fail
 refine QP.mono ?_
 rintro e w1⟨hb1,pr,hpr,hm⟩
 have DF:=ah (Gk hpr)
 replace H0:=ah (H0.call hb1)
 cases pr with
 |none=>
  simp only at hm;subst hm;have HR2:Hid (r=.error 40):=by show _=_;rw[←HR];unfold me;rw[if_neg (by omega),DF]
  clear HR DF;go_wp2_with fail;refine kh (fun _=>True) H0 trivial (fun V9 H9 _=>?_);clear H0 x;go_ret2;exact⟨H9.out.out,by rw[HR2.out];exact⟨rfl,_,_,_,_,_,_,(H9.out.blk _ (di ..)).2⟩⟩
 |some l=>
  obtain⟨BA,bc,rfl,hbc,hbc2,hLb⟩:=hm;have Wu:=ah hLb;have HST:=ah (CP hpr);have HB1:=ah hb1;have hs1:=hb1.size;clear hLb hpr hb1;go_wp2_with fail;by_cases hk:1≤kind∧kind≤3
  ·have HK:=ah hk;refine(AE kind hk w1).mono ?_;rintro e w2⟨m,hm,rfl,hok,hfr,hb2⟩;have HM:=ah hm;have oH:=ah hok;have HFR:=ah hfr;have aC8:=ah hok.inn;have HB2:=ah hb2;have hs2:=hb2.size;replace H0:=ah (H0.call hb2);clear x hm hok hfr hb2 hk;have x:=fk (H0.facts);unfold nT;have HA:=ah (H0.alloc w2 136 (aA m));go_wp2_with fail;have hs0:w.heap.size≤w2.heap.size:=by omega
   have aS9:g<w2.heap.size:=by have:=x.1;omega
   refine kq (fun V=>(cF w V)∧Below w1 w1 V∧jY V V m) HA ⟨((Out.of HB1).call HB2).alloc _,(HB2).alloc hs2 _,oH.later ((Below.refl _ w2).alloc aa _)⟩ (fun V HV hV=>?_);obtain⟨hV1,hV2,AQ⟩:=hV;clear H0 x HA oH;refine(RQ A ms cap BA l bc (by have:=(mt HST).1;omega) V (HT.later (hV1.below aa fun _ h=>h.elim)) ((HL.later (hV1.below aa fun _ h=>h.elim)).Ku oX) (Wu.later hV2)).mono ?_;rintro e w3⟨rfl,hb3⟩;have hs3:=hb3.size;have Zb:=hV2.size;have OS:=ah (AQ.later hb3);have w_:=ah (hV1.call hb3);have HB3:=ah (hV2.trans (hb3.mono Zb));replace HV:=ah (HV.call hb3);clear hb3 hV1 hV2 AQ;have x:=fk (HV.facts)
   cases hth:mQ (ms.map (·.s)) l with
   |false=>
    have HTH:=ah hth;have Wv:Hid (m.s.kind=kind):=by show _=_;rw[HM];exact(wj HK).2.1
    have ZA:Hid (m.s=mf T.tb l kind):=by show _=_;rw[←HL.map,mf,if_neg (by rw[HTH];decide),HM]
    have OX:Hid ((mf T.tb l kind).kind=kind):=by show _=_;rw[←ZA];exact Wv
    have n1:(m.s.kind !=kind)=false:=by rw[Wv];simp
    have I4:Hid (lY (fun b=>b≠w2.heap.size) m):=aC8.mono fun b hb=>Nat.ne_of_lt hb;clear hth;go_wp2_with fail;clear x n1;go_loopw[64] (fun i wr=>∃(k:Nat)(m:SkM),i=(aJ k)∧k≤items.length∧Hid (m.s=mF (mf T.tb l kind) (items.take k))∧Hid (kj (·=g) w wr [(w2,136,aA m),(g,117,[jN A ms cap,jK T.gn,jN GA T.gl gc,jK T.lb,jN LA T.ll lc,jK T.tm,jK c.id,jJ c.budget,jK c.life,jK c.ka,jK c.kb])])∧Hid (jY wr wr m)∧Hid (lY (fun b=>b≠w2.heap.size) m)∧Hid (cF w wr)∧(bB w1 wr)) (fun i _=>items.length-(av i).toNat)
    case atStart=>exact⟨0,m,rfl,be _,by show _=_;rw[ZA];rfl,HV,OS,I4,w_,HB3⟩
    clear HV OS I4 w_ HB3 ZA;obtain⟨k,m',rfl,hkk,uL,H,oH,I4,HO,HB⟩:=hrel;have Rr:w1.heap.size≤w2.heap.size∧w.heap.size≤w2.heap.size:=⟨hs2,hs0⟩;generalize hbs:w2.heap.size=bs at*
    by_cases h1:k<items.length
    ·have d1:decide ((k:Int)<items.length)=true:=ae;obtain⟨b,off,rfl,hb,hc⟩:=oP (n:=2) (fun _=>rfl) (by decide) HI (by omega);have i0:wr.cell? (cP b off k)=some (.int .u64 items[k].h):=((HO.below aa fun _ h=>h.elim).cell (p:=⟨b,off+k*2+0,none⟩) hb).trans (hc k h1 0 _ (by decide) rfl);have i1:wr.cell? (cE b off k)=some (.int .u64 items[k].n):=((HO.below aa fun _ h=>h.elim).cell (p:=(cE b off k)) hb).trans (hc k h1 1 _ (by decide) rfl);have xO:(0:Int)≤k:=by omega
     have xN:(k:Int)<items.length:=by omega
     have hbw:b<wr.heap.size:=by have:=HO.size;omega
     clear hc;have x:=fk (H.facts);have OU:=ah (t7 (items.take k) (vM oX (l:=l) HK) fun y hy=>hi y (dy hy));have OV:Hid (GK m'.s):=by show GK _;rw[uL];exact OU.1
     have E_:Hid (wQ m'.s items[k].h items[k].n=mF (mf T.tb l kind) (items.take (k+1))):=by show _=_;rw[uL,aj h1];unfold mF;rw[fE];rfl
     have HU:=ah (hi items[k] (ar h1));clear OU;go_wp2_with fail;refine kq (fun V=>jY V V m'∧(cF w V)∧Below w1 w1 V) (H.al (.cells #[jK items[k].h,jK items[k].n] 39)) ⟨oH.later ((Below.refl _ wr).alloc aa _),HO.alloc _,HB.alloc HB.size _⟩ (fun V HV hV=>?_);obtain⟨hV1,hV2,AQ⟩:=hV;clear x H oH HO HB;refine(GP m' OV items[k].h items[k].n HU.1 HU.2 V (HE.later (hV2.below aa fun _ h=>h.elim)) hV1).mono ?_;rintro e w8⟨m8,Mh,rfl,tQ,wC,hb8⟩;have Vv:Hid (m8.s=mF (mf T.tb l kind) (items.take (k+1))):=by show _=_;rw[Mh,E_]
     have av2:bs<V.heap.size:=(HV.blk _ ab).2.lt;have hs8:=hb8.size;replace HV:=ah (HV.call hb8);have HRR:=aS (HV.all 0 (aA m8));have qO:lY (fun b=>b≠bs) m8:=wC.inn.mono fun b(hb:V.heap.size≤b)=>by omega
     have wX:Hid (jY (lp w8 bs 0 (aA m8)) (lp w8 bs 0 (aA m8)).heap.size m8∧Out (fun _=>False) w (lp w8 bs 0 (aA m8))∧Below w1 w1 (lp w8 bs 0 (aA m8))):=
      ⟨jY.lp (g:=bs) qO _ 0 tQ,Out.lp (.inr Rr.2) _ 0 (hV2.call hb8),Below.lp Rr.1 _ 0 (AQ.trans (hb8.mono AQ.size))⟩
     simp only[lp,au,ao,ak,am]at wX;have lH:=ah HRR;have YE:=ah qO;have x:=fk (HV.facts);clear HRR hV1 hV2 AQ Mh tQ wC hb8 qO i0 i1 E_ OV HU;unfold nT;go_wp2_with fail;clear x HV;go_roundw
     case rel=>exact⟨k+1,m8,by go_num,by omega,Vv,lH,wX.1,YE,wX.2.1,wX.2.2⟩
     simp[av];omega
    have hkn:k=items.length:=by omega
    subst hkn;have d1:decide ((items.length:Int)<items.length)=false:=by simp
    have OU:=ah (t7 items (vM oX (l:=l) HK) hi);have HE2:Hid (m'.s=mF (mf T.tb l kind) items):=by show _=_;rw[uL,dP]
    have OV:Hid (GK m'.s):=by show GK _;rw[HE2];exact OU.1
    clear OU uL;go_wp2_with fail;refine oO (fun V=>jY V V m'∧(cF w V)∧Below w1 w1 V) H ⟨oH,HO,HB⟩ (fun V HV hV=>?_);clear H oH HO HB d1;have Fc:Hid (Below w w V.drew):=(hV.2.1.below aa fun _ h=>h.elim).drew;have S2:Hid (Below w1 w1 V.drew):=hV.2.2.drew;have SL:Hid (jY V.drew V.drew.heap.size m'):=⟨hV.1.e,hV.1.c,hV.1.g⟩;replace HV:=ah HV.drew;have EG:g<V.drew.heap.size:=(HV.blk _ (ac 1)).2.lt;have QS:Hid (jE Tryz.prog 96 #[jN A ms cap,.agg #[jN BA l bc,jJ m'.s.kind,jJ m'.s.level,jN m'.ea m'.s.e m'.ec,jJ m'.s.bits,jL m'.s.regs,jJ m'.s.rows,jJ m'.s.cols,jN m'.ca m'.s.c m'.cc,jJ m'.s.fine,jN m'.ga m'.s.g m'.gc,jK T.tm]] V.drew (rz V.drew (we T.tb ⟨l,mF (mf T.tb l kind) items,T.tm⟩))):=by
     have:=FL A ms cap HL.cap ⟨⟨l,m'.s,T.tm⟩,m',BA,bc,rfl⟩ ⟨HST,OV,hu⟩ V.drew (HT.later Fc) ((HL.later Fc).Ku oX) ⟨Wu.later S2,SL⟩;have e2:({l:=l,k:=m'.s,seen:=T.tm}:mq)=⟨l,mF (mf T.tb l kind) items,T.tm⟩:=by rw[HE2]
     rw[HL.map]at this;show jE _ _ _ _ _;rw[←e2];exact this
    have q0:=fk (HV.at_ 0);have q1:=fk (HV.at_ 1);obtain⟨y0,y1,y2,y3,y4,y5,y6,y7,y8,y9⟩:=q0;obtain⟨k0,-,-,-,-,k5,-⟩:=q1;clear hV SL S2 Wu OV HE2;refine bi1 (S:=(fun w'=>w'.cell? ⟨g,0,none⟩=some (cU A ms cap)∧w'.cell? ⟨g,5,none⟩=some (.int .u64 T.tm)∧(oZ 10 w' bs m'))) (by kernel_rfl) ⟨k0,k5,y0,y1,y2,y3,y4,y5,y6,y7,y8,y9⟩ (fun hHeld=>?_);refine re hHeld ?_;generalize V.drew=V2 at*
    refine pL 13 fun K hK=>?_;go_simp;refine QS.mono ?_;rintro e w8⟨hb8,h8⟩;have hs8:=hb8.size;have hs9:=Fc.size;have HB8:(bB w w8):=Fc.trans (hb8.mono hs9);replace HV:=ah (HV.call hb8);clear QS hb8 y0 y1 y2 y3 y4 y5 y6 y7 y8 y9 k0 k5;have q0:=fk (HV.at_ 0);have q1:=fk (HV.at_ 1);obtain⟨y0,y1,y2,y3,y4,y5,y6,y7,y8,y9⟩:=q0;obtain⟨k0,-,-,-,-,k5,-⟩:=q1
    cases hpo:we T.tb ⟨l,mF (mf T.tb l kind) items,T.tm⟩with
    |none=>
     rw[hpo]at h8;simp only at h8;subst h8;have HR2:Hid (r=.error 120):=by show _=_;rw[←HR.out];unfold me;rw[if_neg (by have:=ZC.out;omega),DF.out];simp only;rw[if_pos HK.out,if_pos OX.out,hpo]
     clear HR DF hpo;refine hK.out _ _ ⟨k0,k5,y0,y1,y2,y3,y4,y5,y6,y7,y8,y9⟩ (fun hHeld=>?_);clear hK K;refine az ?_;refine re hHeld ?_;refine hdn ?_;clear hHeld;clear y0 y1 y2 y3 y4 y5 y6 y7 y8 y9 k0 k5;have x:=fk (HV.facts);go_wp2_with fail;refine kh (fun _=>True) HV trivial (fun V9 H9 _=>?_);clear HV x;go_ret2;exact⟨H9.out.out,by rw[HR2.out];exact⟨rfl,_,_,_,_,_,_,(H9.out.blk _ (cm (i:=1) rfl)).2⟩⟩
    |some t=>
     rw[hpo]at h8;obtain⟨A2,c2,cs,rfl,hcs,hot,hlo⟩:=h8;have HR1:Hid (r=match pI c.budget 100 t []with
      |none=>.error 130
      |some (t,ps)=>.ok ({T with tb:=t},ps)):=by show _=_;rw[←HR.out];unfold me;rw[if_neg (by have:=ZC.out;omega),DF.out];simp only;rw[if_pos HK.out,if_pos OX.out,hpo];try rfl
     have Vx:Hid (GT t):=by
      have hgs:GS ⟨l,mF (mf T.tb l kind) items,T.tm⟩:=⟨HST,(t7 items (vM oX (l:=l) HK) hi).1,hu⟩;unfold we at hpo;split at hpo
      ·cases hpo
      rename_i hf
      cases hpo
      exact P7 oX hgs (by simpa using hf)
     have QF:Hid (jE Tryz.prog 97 #[jN A2 cs c2,jJ c.budget] w8 (sJ w8 (pI c.budget 100 t []))):=by
      have:=Gg A2 cs c2 c.budget hc.b0 hc.b1 w8 (HT.later HB8) ⟨hot.tab,by rw[hcs];exact Vx⟩;rw[hcs]at this;exact this
     clear HR DF hpo hot hlo hcs Vx;refine hK.out _ _ ⟨k0,k5,y0,y1,y2,y3,y4,y5,y6,y7,y8,y9⟩ (fun hHeld=>?_);clear hK K;refine az ?_;refine re hHeld ?_;refine hdn ?_;clear hHeld;clear y0 y1 y2 y3 y4 y5 y6 y7 y8 y9 k0 k5;have x:=fk (HV.facts);go_wp2_with fail;refine QF.mono ?_;rintro e w9⟨nu,h9⟩;have hs10:=nu.size;replace HV:=ah (HV.call nu);have hg8:g<w8.heap.size:=by omega
     clear x nu QF;have x:=fk (HV.facts)
     cases Dg:pI c.budget 100 t []with
     |none=>
      rw[Dg]at h9;simp only at h9;subst h9;have HR2:Hid (r=.error 130):=by show _=_;rw[HR1,Dg]
      have HZ:=aT (ah (HV.put 1 0 aO));clear HR1 Dg;go_wp2_with fail;refine kh (fun _=>True) HZ trivial (fun V9 H9 _=>?_);clear HV x HZ;go_ret2;exact⟨H9.out.out,by rw[HR2.out];exact⟨rfl,_,_,_,_,_,_,(H9.out.blk _ (cm (i:=1) rfl)).2⟩⟩
     |some tp=>
      obtain⟨t3,ps⟩:=tp;rw[Dg]at h9;obtain⟨A3,c3,XV,A4,c4,rfl,hcs3,EE,hlo3,Rh,Rj⟩:=h9;have HR2:Hid (r=.ok ({T with tb:=t3},ps)):=by show _=_;rw[HR1,Dg]
      have Lw:=ah hcs3;have HT3:=ah EE;have SS:=ah hlo3;have HR4:=ah Rh;have Lu:=ah Rj;have HZ:=aT (ah (HV.put 1 0 (cU A3 XV c3)));clear HR1 Dg hcs3 EE hlo3 Rh Rj;go_wp2_with fail;refine kh (fun V=>Out (·=g) w9 V) HZ ((Out.refl (fun b=>b=g) w9).setCell (p:=⟨g,0,none⟩) (.inl rfl) _) (fun V9 H9 mB=>?_);clear HV x HZ;go_ret2;exact⟨H9.out.out,by rw[HR2.out];exact⟨_,_,rfl,⟨A3,c3,XV,GA,gc,LA,lc,(H9.out.blk _ (cm (i:=1) rfl)).2,HL.out.JY (T2:={T with tb:=t3}) (X:=fun b=>b=g) HP.out H9.out.out mB Lw.out rfl rfl HT3.out SS.out (fun b e=>by omega) (fun b=>.inl) (fun b hb=>.inr (by omega))⟩,mB.rd HR4.out (fun _ ad e e2=>by have:=Lu.out ad e;omega),fun ad e=>by have:=Lu.out ad e;omega⟩⟩
   |true=>
    have HTH:=ah hth;obtain⟨hk1,hk2⟩:=zN hth;have ha:o_ (ms.map (·.s)) l<ms.length:=by rwa[ax]at hk1
    have S3:Hid (mf T.tb l kind=ms[o_ (ms.map (·.s)) l].m.s):=by
     show _=_;rw[←HL.out.map,mf,if_pos HTH.out,eD,an ha,ms[o_ (ms.map (·.s)) l].hk];rfl
    have HMA:=ah (ar ha);obtain⟨b0,T6,rfl,hb,hc⟩:=HL.tab.at_ (by omega);have Yq:=ah (hc _ ha);have ha1:(0:Int)≤((o_ (ms.map (·.s)) l:Nat):Int):=by omega
    have ha2:((o_ (ms.map (·.s)) l:Nat):Int)<(ms.length:Int):=by omega
    have Yt:(bB w w3):=w_.below aa fun _ h=>h.elim;obtain⟨-,j1,j2,j3,j4,j5,j6,j7,j8,j9,j10,-⟩:=Yq.below Yt hb;have hbw:b0<w3.heap.size:=by have:=Yt.size;omega
    clear hth hk2 hk1 Yq hc OS;generalize hae:o_ (ms.map (·.s)) l=at' at*
    have HQO:Hid (jY w w ms[at'].m):=(HL.tab.ok _ HMA).k;generalize ms[at']=q0 at*
    generalize q0.m=q at*
    have HRR:=aS (HV.all 0 (aA q));have Uu:lY (fun b=>b≠w2.heap.size) q:=HQO.inn.mono fun b hb=>by omega
    have wX:Hid (jY (lp w3 w2 0 (aA q)) (lp w3 w2 0 (aA q)).heap.size q∧Out (fun _=>False) w (lp w3 w2 0 (aA q))∧Below w1 w1 (lp w3 w2 0 (aA q))):=
     ⟨jY.lp (g:=w2.heap.size) Uu _ 0 (HQO.later Yt),Out.lp (.inr (by omega)) _ 0 w_,Below.lp (by omega) _ 0 HB3⟩
    simp only[lp,au,ao,ak,am]at wX;have lH:=ah HRR;clear HRR;by_cases hkq:q.s.kind=kind
    ·have n1:(q.s.kind !=kind)=false:=by simp[hkq]
     have n2:(q.s.kind==kind)=true:=by simp[hkq]
     have n3:decide (q.s.kind=kind)=true:=by simp[hkq]
     have OX:Hid ((mf T.tb l kind).kind=kind):=by show _=_;rw[S3];exact hkq
     have ZA:Hid (q.s=mf T.tb l kind):=S3.symm;have I4:Hid (lY (fun b=>b≠w2.heap.size) q):=Uu;clear Uu S3 hkq;go_wp2_with fail;clear x n1 n2 n3 j1 j2 j3 j4 j5 j6 j7 j8 j9 j10;refine oO (fun V=>jY V V q∧(cF w V)∧Below w1 w1 V) lH wX (fun V HV hV=>?_);clear lH wX;have OS:=ah hV.1;have w_:=ah hV.2.1;have HB3:=ah hV.2.2;clear hV;go_loopw[64] (fun i wr=>∃(k:Nat)(m:SkM),i=(aJ k)∧k≤items.length∧Hid (m.s=mF (mf T.tb l kind) (items.take k))∧Hid (kj (·=g) w wr [(w2,136,aA m),(g,117,[.slice (bH b0 T6) ms.length cap,jK T.gn,jN GA T.gl gc,jK T.lb,jN LA T.ll lc,jK T.tm,jK c.id,jJ c.budget,jK c.life,jK c.ka,jK c.kb])])∧Hid (jY wr wr m)∧Hid (lY (fun b=>b≠w2.heap.size) m)∧Hid (cF w wr)∧(bB w1 wr)) (fun i _=>items.length-(av i).toNat)
     case atStart=>exact⟨0,q,rfl,be _,by show _=_;rw[ZA];rfl,HV,OS,I4,w_,HB3⟩
     clear HV OS I4 w_ HB3 ZA;obtain⟨k,m',rfl,hkk,uL,H,oH,I4,HO,HB⟩:=hrel;have Rr:w1.heap.size≤w2.heap.size∧w.heap.size≤w2.heap.size:=⟨hs2,hs0⟩;generalize hbs:w2.heap.size=bs at*
     by_cases h1:k<items.length
     ·have d1:decide ((k:Int)<items.length)=true:=ae;obtain⟨b,off,rfl,hb,hc⟩:=oP (n:=2) (fun _=>rfl) (by decide) HI (by omega);have i0:wr.cell? (cP b off k)=some (.int .u64 items[k].h):=((HO.below aa fun _ h=>h.elim).cell (p:=⟨b,off+k*2+0,none⟩) hb).trans (hc k h1 0 _ (by decide) rfl);have i1:wr.cell? (cE b off k)=some (.int .u64 items[k].n):=((HO.below aa fun _ h=>h.elim).cell (p:=(cE b off k)) hb).trans (hc k h1 1 _ (by decide) rfl);have xO:(0:Int)≤k:=by omega
      have xN:(k:Int)<items.length:=by omega
      have hbw:b<wr.heap.size:=by have:=HO.size;omega
      clear hc;have x:=fk (H.facts);have OU:=ah (t7 (items.take k) (vM oX (l:=l) HK) fun y hy=>hi y (dy hy));have OV:Hid (GK m'.s):=by show GK _;rw[uL];exact OU.1
      have E_:Hid (wQ m'.s items[k].h items[k].n=mF (mf T.tb l kind) (items.take (k+1))):=by show _=_;rw[uL,aj h1];unfold mF;rw[fE];rfl
      have HU:=ah (hi items[k] (ar h1));clear OU;go_wp2_with fail;refine kq (fun V=>jY V V m'∧(cF w V)∧Below w1 w1 V) (H.al (.cells #[jK items[k].h,jK items[k].n] 39)) ⟨oH.later ((Below.refl _ wr).alloc aa _),HO.alloc _,HB.alloc HB.size _⟩ (fun V HV hV=>?_);obtain⟨hV1,hV2,AQ⟩:=hV;clear x H oH HO HB;refine(GP m' OV items[k].h items[k].n HU.1 HU.2 V (HE.later (hV2.below aa fun _ h=>h.elim)) hV1).mono ?_;rintro e w8⟨m8,Mh,rfl,tQ,wC,hb8⟩;have Vv:Hid (m8.s=mF (mf T.tb l kind) (items.take (k+1))):=by show _=_;rw[Mh,E_]
      have av2:bs<V.heap.size:=(HV.blk _ ab).2.lt;have hs8:=hb8.size;replace HV:=ah (HV.call hb8);have HRR:=aS (HV.all 0 (aA m8));have qO:lY (fun b=>b≠bs) m8:=wC.inn.mono fun b(hb:V.heap.size≤b)=>by omega
      have wX:Hid (jY (lp w8 bs 0 (aA m8)) (lp w8 bs 0 (aA m8)).heap.size m8∧Out (fun _=>False) w (lp w8 bs 0 (aA m8))∧Below w1 w1 (lp w8 bs 0 (aA m8))):=
       ⟨jY.lp (g:=bs) qO _ 0 tQ,Out.lp (.inr Rr.2) _ 0 (hV2.call hb8),Below.lp Rr.1 _ 0 (AQ.trans (hb8.mono AQ.size))⟩
      simp only[lp,au,ao,ak,am]at wX;have lH:=ah HRR;have YE:=ah qO;have x:=fk (HV.facts);clear HRR hV1 hV2 AQ Mh tQ wC hb8 qO i0 i1 E_ OV HU;unfold nT;go_wp2_with fail;clear x HV;go_roundw
      case rel=>exact⟨k+1,m8,by go_num,by omega,Vv,lH,wX.1,YE,wX.2.1,wX.2.2⟩
      simp[av];omega
     have hkn:k=items.length:=by omega
     subst hkn;have d1:decide ((items.length:Int)<items.length)=false:=by simp
     have OU:=ah (t7 items (vM oX (l:=l) HK) hi);have HE2:Hid (m'.s=mF (mf T.tb l kind) items):=by show _=_;rw[uL,dP]
     have OV:Hid (GK m'.s):=by show GK _;rw[HE2];exact OU.1
     clear OU uL;go_wp2_with fail;refine oO (fun V=>jY V V m'∧(cF w V)∧Below w1 w1 V) H ⟨oH,HO,HB⟩ (fun V HV hV=>?_);have Fc:=ah ((hV.2.1.below aa fun _ h=>h.elim).drew);have S2:=ah hV.2.2.drew;have SL:Hid (jY V.drew V.drew.heap.size m'):=⟨hV.1.e,hV.1.c,hV.1.g⟩;replace HV:=ah HV.drew;have EG:=(HV.blk _ (ac 1)).2.lt;have QS:Hid (jE Tryz.prog 96 #[.slice (bH b0 T6) ms.length cap,.agg #[jN BA l bc,jJ m'.s.kind,jJ m'.s.level,jN m'.ea m'.s.e m'.ec,jJ m'.s.bits,jL m'.s.regs,jJ m'.s.rows,jJ m'.s.cols,jN m'.ca m'.s.c m'.cc,jJ m'.s.fine,jN m'.ga m'.s.g m'.gc,jK T.tm]] V.drew (rz V.drew (we T.tb ⟨l,mF (mf T.tb l kind) items,T.tm⟩))):=by
      have:=FL (bH b0 T6) ms cap HL.cap ⟨⟨l,m'.s,T.tm⟩,m',BA,bc,rfl⟩ ⟨HST,OV,hu⟩ V.drew (HT.later Fc) ((HL.later Fc).Ku oX) ⟨Wu.later S2,SL⟩;have e2:({l:=l,k:=m'.s,seen:=T.tm}:mq)=⟨l,mF (mf T.tb l kind) items,T.tm⟩:=by rw[HE2]
      rw[HL.map]at this;show jE _ _ _ _ _;rw[←e2];exact this
     have q0:=fk (HV.at_ 0);have q1:=fk (HV.at_ 1);obtain⟨y0,y1,y2,y3,y4,y5,y6,y7,y8,y9⟩:=q0;obtain⟨k0,-,-,-,-,k5,-⟩:=q1;clear hV SL S2 Wu OV HE2;refine bi1 (S:=(fun w'=>w'.cell? ⟨g,0,none⟩=some (.slice (bH b0 T6) ms.length cap)∧w'.cell? ⟨g,5,none⟩=some (.int .u64 T.tm)∧(oZ 10 w' bs m'))) (by kernel_rfl) ⟨k0,k5,y0,y1,y2,y3,y4,y5,y6,y7,y8,y9⟩ (fun hHeld=>?_);refine re hHeld ?_;generalize V.drew=V2 at*
     refine pL 13 fun K hK=>?_;go_simp;refine QS.mono ?_;rintro e w8⟨hb8,h8⟩;have hs8:=hb8.size;have hs9:=Fc.size;have HB8:(bB w w8):=Fc.trans (hb8.mono hs9);replace HV:=ah (HV.call hb8);clear QS hb8 y0 y1 y2 y3 y4 y5 y6 y7 y8 y9 k0 k5;have q0:=fk (HV.at_ 0);have q1:=fk (HV.at_ 1);obtain⟨y0,y1,y2,y3,y4,y5,y6,y7,y8,y9⟩:=q0;obtain⟨k0,-,-,-,-,k5,-⟩:=q1
     cases hpo:we T.tb ⟨l,mF (mf T.tb l kind) items,T.tm⟩with
     |none=>
      rw[hpo]at h8;simp only at h8;subst h8;have HR2:Hid (r=.error 120):=by show _=_;rw[←HR.out];unfold me;rw[if_neg (by have:=ZC.out;omega),DF.out];simp only;rw[if_pos HK.out,if_pos OX.out,hpo]
      refine hK.out _ _ ⟨k0,k5,y0,y1,y2,y3,y4,y5,y6,y7,y8,y9⟩ (fun hHeld=>?_);refine az ?_;refine re hHeld ?_;refine hdn ?_;clear hHeld;clear y0 y1 y2 y3 y4 y5 y6 y7 y8 y9 k0 k5;have x:=fk (HV.facts);go_wp2_with fail;refine kh (fun _=>True) HV trivial (fun V9 H9 _=>?_);clear HV x;go_ret2;exact⟨H9.out.out,by rw[HR2.out];exact⟨rfl,_,_,_,_,_,_,(H9.out.blk _ (cm (i:=1) rfl)).2⟩⟩
     |some t=>
      rw[hpo]at h8;obtain⟨A2,c2,cs,rfl,hcs,hot,hlo⟩:=h8;have HR1:Hid (r=match pI c.budget 100 t []with
       |none=>.error 130
       |some (t,ps)=>.ok ({T with tb:=t},ps)):=by show _=_;rw[←HR.out];unfold me;rw[if_neg (by have:=ZC.out;omega),DF.out];simp only;rw[if_pos HK.out,if_pos OX.out,hpo];try rfl
      have Vx:Hid (GT t):=by
       have hgs:GS ⟨l,mF (mf T.tb l kind) items,T.tm⟩:=⟨HST,(t7 items (vM oX (l:=l) HK) hi).1,hu⟩;unfold we at hpo;split at hpo
       ·cases hpo
       rename_i hf
       cases hpo
       exact P7 oX hgs (by simpa using hf)
      have QF:Hid (jE Tryz.prog 97 #[jN A2 cs c2,jJ c.budget] w8 (sJ w8 (pI c.budget 100 t []))):=by
       have:=Gg A2 cs c2 c.budget hc.b0 hc.b1 w8 (HT.later HB8) ⟨hot.tab,by rw[hcs];exact Vx⟩;rw[hcs]at this;exact this
      refine hK.out _ _ ⟨k0,k5,y0,y1,y2,y3,y4,y5,y6,y7,y8,y9⟩ (fun hHeld=>?_);refine az ?_;refine re hHeld ?_;refine hdn ?_;have x:=fk (HV.facts);go_wp2_with fail;refine QF.mono ?_;rintro e w9⟨nu,h9⟩;have hs10:=nu.size;replace HV:=ah (HV.call nu);have hg8:g<w8.heap.size:=jS;have x:=fk (HV.facts)
      cases Dg:pI c.budget 100 t []with
      |none=>
       rw[Dg]at h9;simp only at h9;subst h9;have HR2:Hid (r=.error 130):=by show _=_;rw[HR1,Dg]
       have HZ:=aT (ah (HV.put 1 0 aO));go_wp2_with fail;refine kh (fun _=>True) HZ trivial (fun V9 H9 _=>?_);go_ret2;exact⟨H9.out.out,by rw[HR2.out];exact⟨rfl,_,_,_,_,_,_,(H9.out.blk _ (cm (i:=1) rfl)).2⟩⟩
      |some tp=>
       obtain⟨t3,ps⟩:=tp;rw[Dg]at h9;obtain⟨A3,c3,XV,A4,c4,rfl,hcs3,EE,hlo3,Rh,Rj⟩:=h9;have HR2:Hid (r=.ok ({T with tb:=t3},ps)):=by show _=_;rw[HR1,Dg]
       have Lw:=ah hcs3;have HT3:=ah EE;have SS:=ah hlo3;have HR4:=ah Rh;have Lu:=ah Rj;have HZ:=aT (ah (HV.put 1 0 (cU A3 XV c3)));clear HR1 Dg hcs3 EE hlo3 Rh Rj;go_wp2_with fail;refine kh (fun V=>Out (·=g) w9 V) HZ ((Out.refl (fun b=>b=g) w9).setCell (p:=⟨g,0,none⟩) (.inl rfl) _) (fun V9 H9 mB=>?_);clear HV x HZ;go_ret2;exact⟨H9.out.out,by rw[HR2.out];exact⟨_,_,rfl,⟨A3,c3,XV,GA,gc,LA,lc,(H9.out.blk _ (cm (i:=1) rfl)).2,HL.out.JY (T2:={T with tb:=t3}) (X:=fun b=>b=g) HP.out H9.out.out mB Lw.out rfl rfl HT3.out SS.out (fun b e=>jS) (fun b=>.inl) (fun b hb=>.inr jS)⟩,mB.rd HR4.out (fun _ ad e e2=>by have:=Lu.out ad e;omega),fun ad e=>by have:=Lu.out ad e;omega⟩⟩
    have n1:(q.s.kind !=kind)=true:=by simp[hkq]
    have n2:(q.s.kind==kind)=false:=by simp[hkq]
    have n3:decide (q.s.kind=kind)=false:=by simp[hkq]
    have OX:Hid (¬(mf T.tb l kind).kind=kind):=by show¬_;rw[S3];exact hkq
    have HR2:Hid (r=.error 101):=by show _=_;rw[←HR.out];unfold me;rw[if_neg (by have:=ZC.out;omega),DF.out];simp only;rw[if_pos HK.out,if_neg OX.out]
    go_wp2_with fail;refine kh (fun _=>True) lH trivial (fun V9 H9 _=>?_);go_ret2;exact⟨H9.out.out,by rw[HR2];exact⟨rfl,_,_,_,_,_,_,(H9.blk _ (ac 1)).2⟩⟩
  have HK:=ah hk;refine(JX kind hk w1).mono ?_;rintro e w2⟨rfl,hb2⟩;replace H0:=ah (H0.call hb2);have x:=fk (H0.facts);have HR2:Hid (r=.error 101):=by show _=_;rw[←HR];unfold me;rw[if_neg (by have:=ZC;omega),DF];simp only;rw[if_neg HK]
  simp only[xl];have HA:=ah (H0.alloc w2 136 [jJ 0,jJ 0,jM,jJ 0,aF,jJ 0,jJ 0,jM,jJ 0,jM]);go_wp2_with fail;refine kh (fun _=>True) HA trivial (fun V9 H9 _=>?_);go_ret2;exact⟨H9.out.out,by rw[HR2];exact⟨rfl,_,_,_,_,_,_,(H9.blk _ (ac 1)).2⟩⟩
structure ReqM where
 r:s9
 ia:Option jG
 ic:Nat
 ta:Option jG
 tc:Nat
def qM(l:List Int):List jD:=l.map (br .u64)
def uD(m:ReqM):List jD:=[jJ m.r.op,jK m.r.now,jL m.r.labels,jL m.r.scope,jJ m.r.kind,jN m.ia m.r.items m.ic,jK m.r.h,jK m.r.to,jK m.r.id,jN m.ta m.r.jV m.tc]
def Ij(x:Cu):List jD:=[jK x.oK,jJ x.role,jK x.YR]
structure ReqOk(w:jC)(B:Nat)(m:ReqM):Prop where
 i:Rd w B m.ia (m.r.items.flatMap Q8)
 t:Rd w B m.ta (qM m.r.jV)
 ic:m.r.items.length≤m.ic
 tc:m.r.jV.length≤m.tc
structure ActM where
 x:Cu
 m:ReqM
def xY(a:ActM):List jD:=Ij a.x++uD a.m
theorem Bt(a:ActM):(xY a).length=13:=rfl
structure Act where
 x:Cu
 r:s9
structure Acts(w:jC)(B:Nat)(A:Option jG)(l:List ActM):Prop where
 rd:Rd w B A (l.flatMap xY)
 ok:∀a∈l,ReqOk w B a.m
structure ReqRaw(m:ReqM):Prop where
 now:U m.r.now
 labels:m.r.labels.size≤maxLen
 scope:m.r.scope.size≤maxLen
 items:m.ic≤maxLen
 iu:∀x∈m.r.items,U x.h∧U x.n
 h:U m.r.h
 to:U m.r.to
 id:U m.r.id
 jV:m.tc≤maxLen
 tu:∀x∈m.r.jV,U x
def rp(s:ByteArray)(n:Nat):ByteArray:=s.extract 0 (min s.size n)
def lu(r:s9):s9:={r with labels:=rp r.labels 300,scope:=rp r.scope 300,items:=r.items.take 52,jV:=r.jV.take 10}
theorem Dq(s:ByteArray)(n:Nat):(rp s n).size≤n:=by
 unfold rp;rw[fI];omega
theorem Hq{m:ReqM}(h:ReqRaw m):lN (lu m.r):=
 ⟨h.now,Dq _ _,Dq _ _,by show(List.take _ _).length≤_;rw[cv];omega,fun x hx=>h.iu x (dy hx),h.h,h.to,h.id,by show(List.take _ _).length≤_;rw[cv];omega,fun x hx=>h.tu x (dy hx)⟩
section
variable{w w':jC}{m:ReqM}{A:Option jG}{l:List ActM}
theorem ReqOk.later(h:ReqOk w w m)(hb:Below w w w'):ReqOk w' w' m:=⟨(Rd.below h.i hb).more hb.size,(Rd.below h.t hb).more hb.size,h.ic,h.tc⟩
theorem Acts.later(h:Acts w w A l)(hb:Below w w w'):Acts w' w' A l:=⟨(Rd.below h.rd hb).more hb.size,fun a ha=>(h.ok a ha).later hb⟩
end
structure pO(X:Nat→Prop)(w:jC)(A:Option jG)(xs:List jD):Prop where
 rd:Rd w w A xs
 x:xs≠[]→∀ad,A=some ad→¬X ad.block
section
variable{X Y:Nat→Prop}{w w':jC}{A:Option jG}{xs:List jD}
theorem pO.out(h:pO X w A xs)(ho:Out X w w'):pO X w' A xs:=⟨ho.rd h.rd h.x,h.x⟩
theorem pO.later(h:pO X w A xs)(hb:(bJ w w')):pO X w' A xs:=h.out (Out.of hb)
theorem pO.lt(h:pO X w A xs)(hx:xs≠[]):∀ad,A=some ad→ad.block<w.heap.size:=uS h.rd hx
theorem pO.wide(h:pO X w A xs)(hy:∀b,Y b→X b∨w.heap.size≤b):pO Y w A xs:=⟨h.rd,fun e ad ea hb=>(hy _ hb).elim (h.x e ad ea) fun q=>by have:=h.lt e ad ea;omega⟩
theorem pO.of(h:Rd w w A xs)(hy:∀b,X b→w.heap.size≤b):pO X w A xs:=⟨h,fun e ad ea hb=>by have:=uS h e ad ea;have:=hy _ hb;omega⟩
end
def NX(C:Col):List jD:=C.map fun x=>.int .u64 x.1.id
def wh(G:List Nat):List jD:=G.map fun g=>.pointer (aC g)
def ae9(ka kb:Int)(IA:Option jG)(n ic:Nat)(TA:Option jG)(tc:Nat):List jD:=[jK ka,jK kb,.slice IA n ic,.slice TA n tc]
structure kE(X:Nat→Prop)(w:jC)(cb:Nat)(G:List Nat)(ka kb:Int)(C:Col):Prop where
 blk:∃IA ic TA tc,jR w cb 81 (ae9 ka kb IA C.length ic TA tc).toArray∧pO X w IA (NX C)∧pO X w TA (wh G)
 cx:¬X cb
 len:G.length=C.length
 nd:G.Nodup
 gx:∀g∈G,X g
 g4:∀g∈G,4≤g
 ten:∀(k:Nat)(hk:k<C.length)(hg:k<G.length),kB w (fun b=>¬X b) G[k] C[k].1 C[k].2
section
variable{X Y:Nat→Prop}{w w':jC}{cb:Nat}{G:List Nat}{ka kb:Int}{C:Col}
theorem kE.out(h:kE X w cb G ka kb C)(ho:Out Y w w')(hy:∀b,Y b→X b∧b∉G):kE X w' cb G ka kb C:=by
 obtain⟨IA,ic,TA,tc,h1,h2,h3⟩:=h.blk;have ho':Out X w w':=ho.mono fun b _ hb=>(hy b hb).1;exact⟨⟨IA,ic,TA,tc,ho'.blk h1 h.cx,h2.out ho',h3.out ho'⟩,h.cx,h.len,h.nd,h.gx,h.g4,fun k hk hg=>(h.ten k hk hg).out ho (fun b hb e=>hb (hy b e).1) fun e=>(hy _ e).2 (ar hg)⟩
theorem kE.later(h:kE X w cb G ka kb C)(hb:(bJ w w')):kE X w' cb G ka kb C:=h.out (Y:=fun _=>False) (Out.of hb) fun _ e=>e.elim
theorem kE.wide(h:kE X w cb G ka kb C)(hy:∀b,Y b→X b∨w.heap.size≤b)(hx:∀g∈G,Y g):kE Y w cb G ka kb C:=by
 obtain⟨IA,ic,TA,tc,h1,h2,h3⟩:=h.blk;refine⟨⟨IA,ic,TA,tc,h1,h2.wide hy,h3.wide hy⟩,fun e=>(hy _ e).elim h.cx fun q=>by have:=h1.lt;omega,h.len,h.nd,hx,h.g4,fun k hk hg=>(h.ten k hk hg).lt.mono fun b hb e=>(hy _ e).elim hb.1 fun q=>qhc⟩
theorem kE.XJ(h:kE X w cb G ka kb C)(hg:g∈G):g<w.heap.size:=by
 obtain⟨k,hk,rfl⟩:=dR hg;obtain⟨_,_,_,_,_,_,_,ht⟩:=h.ten k (by rw[←h.len];exact hk) hk;exact ht.blk.lt
theorem kE.set(h:kE X w cb G ka kb C){k:Nat}(hk:k<C.length)(hg:k<G.length){T:kM}(ho:Out (·=G[k]) w w')(hT:kB w' (fun b=>¬X b∨w.heap.size≤b) G[k] C[k].1 T)(hX:∀b,X b→b<w.heap.size):kE X w' cb G ka kb (C.set k (C[k].1,T)):=by
 obtain⟨IA,ic,TA,tc,h1,h2,h3⟩:=h.blk;have ho':Out X w w':=ho.mono fun b _ hb=>by rw[hb];exact h.gx _ (ar hg)
 have e1:NX (C.set k (C[k].1,T))=NX C:=by
  unfold NX;rw[iJ];refine iO lV fun i hi hj=>?_;rw[eW];split
  ·subst_vars;simp
  rfl
 refine⟨⟨IA,ic,TA,tc,by rw[eq];exact ho'.blk h1 h.cx,by rw[e1];exact h2.out ho',h3.out ho'⟩,h.cx,by rw[eq];exact h.len,h.nd,h.gx,h.g4,fun j hj hgj=>?_⟩;by_cases e:k=j
 ·subst e;rw[fP];exact hT.mono fun b hb=>hb.elim id fun q e=>by have:=hX b e;omega
 rw[List.getElem_set_ne e];refine(h.ten j (by simpa using hj) hgj).out ho (fun b hb e2=>hb (by rw[e2];exact h.gx _ (ar hg))) fun e2=>?_;rcases iD e with hl|hl
 ·exact cj.1 h.nd k j hg hgj hl e2.symm
 exact cj.1 h.nd j k hgj hg hl e2
theorem kE.same(h:kE X w cb G ka kb C)(hk:k<C.length)(hg:k<G.length)(ho:Out (·=G[k]) w w')(hT:kB w' (fun b=>¬X b) G[k] C[k].1 C[k].2)(hX:∀b,X b→b<w.heap.size):kE X w' cb G ka kb C:=by
 have:=h.set hk hg (T:=C[k].2) ho (hT.mono fun b=>.inl) hX;rwa[show(C[k].1,C[k].2)=C[k]from rfl,ie]at this
end
def IR(w:jC)(B:Nat)(v:jD)(r:Rep):Prop:=∃A k E k2,v=.agg #[jJ r.e,jK r.n,jN A r.notices k,jN E r.entries k2]∧(Rd w w A (lC r.notices)∧∀ad,A=some ad→B≤ad.block)∧Rd w w E (r.entries.flatMap nE)∧∀ad,E=some ad→B≤ad.block
def sK(X:Nat→Prop)(w:jC)(cb:Nat)(G:List Nat)(ka kb:Int)(r:Col×Rep)(e:bi6)(w':jC):Prop:=
 Out (·∈G) w w'∧kE X w' cb G ka kb r.1∧∃v,e=.returned v∧IR w' w v r.2
def vP(l:List Int)(x:Int):Int:=match l.findIdx? (·==x)with|none=> -1|some k=>(k:Int)
theorem MY{l:List Int}{x:Int}(h:∀j(hj:j<l.length),l[j]≠x):vP l x= -1:=by
 have:l.findIdx? (·==x)=none:=by
  rw[fU];intro y hy;obtain⟨j,hj,rfl⟩:=dR hy;simpa using h j hj
 unfold vP;rw[this]
theorem MX{l:List Int}{x:Int}(hk:k<l.length)(e:l[k]=x)(h:∀j(hj:j<l.length),j<k→l[j]≠x):vP l x=k:=by
 have:l.findIdx? (·==x)=some k:=by
  rw[eP];exact⟨hk,by simpa using e,fun j hj=>by simpa using h j jS hj⟩
 unfold vP;rw[this]
theorem Ja(A:Option jG)(l:List Int)(cap:Nat)(x:Int)(hl:l.length≤1000)(w:jC)(h:Rd w w A (qM l)):
 jE Tryz.prog 49 #[jN A l cap,jK x] w fun e w'=>e=.returned (.int .i64 (vP l x))∧w'=w:=by
 have HS:=ah h
 clear h
 go_in
 go_wp2_with fail
 go_loopw[8] (fun i wr=>∃k:Nat,i=(aJ k)∧k≤l.length∧Hid (∀j(hj:j<l.length),j<k→l[j]≠x)∧wr=w) (fun i _=>l.length-(av i).toNat)
 case atStart=>exact⟨0,rfl,be _,fun j _ h=>jS,rfl⟩
 obtain⟨k,rfl,hk,HE,rfl⟩:=hrel
 by_cases h1:k<l.length
 ·have d1:decide ((k:Int)<l.length)=true:=ae;obtain⟨b,off,rfl,hb,hc⟩:=HS (fun e=>by have h9:=congrArg ez e;unfold qM at h9;rw[ax,dp]at h9;omega);have i0:wr.cell? ⟨b,off+k,none⟩=some (.int .u64 l[k]):=hc k _ (by unfold qM;rw[eD,an h1];rfl);have xO:(0:Int)≤k:=jS;have xN:(k:Int)<l.length:=jS;clear hc;by_cases e:l[k]=x
  ·have HR:Hid (vP l x=k):=MX h1 e HE;have b1:(x==l[k])=true:=by simp[e]
   have b2:decide (x=l[k])=true:=by simp[e]
   generalize l[k]=y at*
   clear e;go_wp2;go_ret;exact⟨by rw[HR];rfl,rfl⟩
  have b1:(x==l[k])=false:=by simp;exact fun h=>e h.symm
  have b2:decide (x=l[k])=false:=by simp;exact fun h=>e h.symm
  have HN:Hid (∀j(hj:j<l.length),j<k+1→l[j]≠x):=fun j hj hjk=>by
   by_cases e2:j=k
   ·subst e2;exact e
   exact HE j hj jS
  generalize l[k]=y at*
  clear e;go_wp2;go_roundw
  case rel=>exact⟨k+1,CJ,jS,HN,trivial⟩
  exact No
 have hkk:k=l.length:=jS
 subst hkk
 have d1:decide ((l.length:Int)<l.length)=false:=lV
 have HR:Hid (vP l x= -1):=MY fun j hj=>HE j hj hj
 go_wp2
 go_ret
 exact⟨by rw[HR];rfl,rfl⟩
theorem Ih(p:jG)(w:jC):jE Tryz.prog 29 #[bT p] w fun e w'=>e=.returned (.bool false)∧w'=w:=by
 go_in;go_wp2;go_ret;exact⟨rfl,rfl⟩
def Ad(G:List Nat)(k:Option Nat):jD:=match k with|none=>.pointer none|some k=>match G[k]? with|none=>.pointer none|some g=>.pointer (aC g)
theorem RR(C:Col)(id:Int):vP (C.map (·.1.id)) id=match m6 C id with|none=> -1|some k=>(k:Int):=by
 unfold vP m6;rw[List.findIdx?_map];rfl
theorem EB(C:Col):NX C=qM (C.map (·.1.id)):=by unfold NX qM;rw[fY];rfl
theorem uA(X:Nat→Prop)(cb:Nat)(G:List Nat)(ka kb:Int)(C:Col)(id:Int)(hC:C.length≤100)(w:jC)(h:kE X w cb G ka kb C):
 jE Tryz.prog 26 #[jO cb,jK id] w fun e w'=>e=.returned (Ad G (m6 C id))∧w'=w:=by
 obtain⟨IA,ic,TA,tc,h1,h2,h3⟩:=h.blk
 have c2:=h1.cell 2
 have c3:=h1.cell 3
 simp only[ae9,bh,bm,bo]at c2 c3
 have hcw:=h1.lt
 have hr:=h2.rd
 rw[EB]at hr
 have Q:=Ja IA (C.map (·.1.id)) ic id qlm w hr
 rw[RR,ax]at Q
 have HQ:=ah Q
 have HG:=ah h.len
 have HT:=ah h3.rd
 clear Q hr h h1 h2 h3
 cases hf:m6 C id with
 |none=>
  rw[hf]at HQ;go_in;go_wp2_with fail;refine HQ.mono ?_;rintro e w1⟨rfl,rfl⟩;go_wp2;go_ret;exact⟨rfl,rfl⟩
 |some k=>
  rw[hf]at HQ;obtain⟨hk,-⟩:=EL hf;have hg:k<G.length:=by rw[HG];exact hk
  obtain⟨b,off,rfl,hb,hc⟩:=HT (fun e=>by have h9:=congrArg ez e;unfold wh at h9;rw[ax,dp]at h9;omega);have i0:w.cell? ⟨b,off+k,none⟩=some (.pointer (some ⟨G[k],0,none⟩)):=hc k _ (by unfold wh;rw[eD,an hg];rfl);have hp:Ad G (some k)=.pointer (some ⟨G[k],0,none⟩):=by simp only[Ad,an hg]
  rw[hp];have xO:(0:Int)≤k:=jS;have xN:(k:Int)<C.length:=jS;have d1:decide ((k:Int)<0)=false:=lV;generalize G[k]=g at*
  clear hc hp hf;go_in;go_wp2_with fail;refine HQ.mono ?_;rintro e w1⟨rfl,rfl⟩;go_wp2;go_ret;exact⟨rfl,rfl⟩
theorem Bg(h:GT t):0≤kJ t∧kJ t≤2000000:=by
 have key:∀l:List mq,(∀s∈l,GS s)→0≤kJ l∧kJ l≤100000*(l.length:Int):=fun l=>by
  induction l with
  |nil=>intro _;simp[kJ]
  |cons x l ih=>
   intro hl;have h1:=Ie (hl x lV);have h2:=ih fun s hs=>hl s (by simp[hs]);simp only[kJ,df,List.sum_cons,c_]at h2⊢;omega
 have:=key t h.all;have:=h.len;omega
theorem JN{t:List UInt8}(h:vt t=some l):setB l=true:=by
 unfold vt at h;split at h
 ·rename_i e
  cases h
  exact CP e.choose_spec
 cases h
variable{ps:List Nat}
theorem WK(h:GT T.tb)(hg:GG T.gn T.gl)(hu:U T.tm)(hi:∀x∈items,U x.h∧U x.n)(e:me c T labels kind items=.ok (T2,ps)):SC c T T2:=by
 unfold me at e;split at e
 ·cases e
 split at e
 ·cases e
 rename_i l hl;split at e
 ·rename_i hk;split at e
  ·split at e
   ·cases e
   rename_i t ht;split at e
   ·cases e
   rename_i t2 ps2 hf
   cases e
   have hgs:GS ⟨l,mF (mf T.tb l kind) items,T.tm⟩:=⟨JN hl,(t7 items (vM h (l:=l) hk) hi).1,hu⟩;have hgt:GT t:=by
    unfold we at ht;split at ht
    ·cases ht
    rename_i Dg
    cases ht
    exact P7 h hgs (by simpa using Dg)
   exact⟨(Wf _ _ _ _ hgt hf).1,hg,rfl,rfl,rfl⟩
  cases e
 cases e
theorem zQ(h:me c T labels kind items=.ok (T2,ps)):T2.ll=T.ll∧T2.lb=T.lb∧T2.tm=T.tm∧T2.gn=T.gn∧T2.gl=T.gl:=by
 unfold me at h;repeat' split at h
 all_goals first|(cases h;done)|(cases h;exact⟨rfl,rfl,rfl,rfl,rfl⟩)
structure vN(c:lO)(T T':kM)(now:Int)(text:ByteArray):Prop where
 g:nH c T'
 tm:T'.tm=now
 le:T.tm≤now
 last:kO T'.ll=kO T.ll+1
 ent:∃x,T'.ll.getLast?=some x∧x.text=text∧x.tm=now
theorem rP{step:kM→Except Int (kM×α)}{a:α}(h:nH c T)(hu:U now)(hs:∀T2 a,step (ko c T now)=.ok (T2,a)→SC c (ko c T now) T2)(e:EQ c T now text step=.ok (T3,a)):
 vN c T T3 now text∧∃T2,step (ko c T now)=.ok (T2,a)∧T3.tb=T2.tb∧T3.gn=T2.gn∧T3.gl=T2.gl:=by
 obtain⟨h1,h2,h3,h4,h5,h6⟩:=ax4 h hu hs e
 exact⟨⟨h1,h3,jS,h4,h5⟩,h6⟩
theorem wN(h:nH c T):GT (ko c T now).tb:=h.tb.filter _
theorem wy(hG:nH c T)(hu:U now)(hi:∀x∈items,U x.h∧U x.n)(e:nl c T now labels kind items=.ok (T2,ps)):
 vN c T T2 now "ingest".toByteArray∧T2.gn=T.gn∧T2.gl=T.gl∧∃T3,me c (ko c T now) labels kind items=.ok (T3,ps)∧T2.tb=T3.tb:=by
 obtain⟨h1,T3,h2,h3,h4,h5⟩:=rP hG hu (fun T2 a e=>WK (wN hG) hG.gg hu hi e) e
 obtain⟨_,_,_,a4,a5⟩:=zQ h2
 exact⟨h1,h4.trans a4,h5.trans a5,T3,h2,h3⟩
theorem TN{h a:Int}(hG:nH c T)(hu:U now)(e:pM c T now sc kind h=.ok (T2,a)):
 vN c T T2 now "query".toByteArray∧T2.gn=T.gn∧T2.gl=T.gl∧T2.tb=(ko c T now).tb∧∃s,kA (ko c T now).tb sc kind=.ok s∧a=rt s h:=by
 have key:∀T2 a,(kA (ko c T now).tb sc kind).map (fun s=>(ko c T now,rt s h))=.ok (T2,a)→T2=ko c T now∧∃s,kA (ko c T now).tb sc kind=.ok s∧a=rt s h:=fun T2 a e=>by
  cases hm:kA (ko c T now).tb sc kind with
  |error er=>rw[hm]at e;cases e
  |ok s=>rw[hm]at e;cases e;exact⟨rfl,s,rfl,rfl⟩
 obtain⟨h1,T3,h2,h3,h4,h5⟩:=rP hG hu (fun T2 a e=>by
  obtain⟨rfl,_⟩:=key T2 a e;exact⟨wN hG,hG.gg,rfl,rfl,rfl⟩) e
 obtain⟨rfl,h6⟩:=key _ _ h2
 exact⟨h1,h4,h5,h3,h6⟩
theorem Ux{to a:Int}(hG:nH c T)(hu:U now)(ht:U to)(hs:sc.size≤1000)(e:sy c T now to sc=.ok (T2,a)):
 vN c T T2 now "grant".toByteArray∧T2.tb=(ko c T now).tb∧lW T.gn T.gl to sc=.ok (T2.gn,T2.gl,a):=by
 have key:∀T2 a,(lW T.gn T.gl to sc).map (fun r=>(({ko c T now with gn:=r.1,gl:=r.2.1}:kM),r.2.2))=.ok (T2,a)→∃r,lW T.gn T.gl to sc=.ok r∧T2={ko c T now with gn:=r.1,gl:=r.2.1}∧a=r.2.2:=fun T2 a e=>by
  cases hm:lW T.gn T.gl to sc with
  |error er=>rw[hm]at e;cases e
  |ok s=>rw[hm]at e;cases e;exact⟨s,rfl,rfl,rfl⟩
 obtain⟨h1,T3,h2,h3,h4,h5⟩:=rP hG hu (fun T2 a e=>by
  obtain⟨r,hr,rfl,_⟩:=key T2 a e;exact⟨wN hG,(Ul hG.gg ht hs hr).1,rfl,rfl,rfl⟩) e
 obtain⟨r,hr,rfl,rfl⟩:=key _ _ h2
 exact⟨h1,h3,by rw[h4,h5];exact hr⟩
variable{a:Unit}
theorem ZN{id:Int}(hG:nH c T)(hu:U now)(e:D4 c T now id=.ok (T2,a)):
 vN c T T2 now "revoke".toByteArray∧T2.tb=(ko c T now).tb∧T2.gn=T.gn∧lr T.gl id=.ok T2.gl:=by
 have key:∀T2(a:Unit),(lr T.gl id).map (fun l=>(({ko c T now with gl:=l}:kM),()))=.ok (T2,a)→∃l,lr T.gl id=.ok l∧T2={ko c T now with gl:=l}:=fun T2 a e=>by
  cases hm:lr T.gl id with
  |error er=>rw[hm]at e;cases e
  |ok s=>rw[hm]at e;cases e;exact⟨s,rfl,rfl⟩
 obtain⟨h1,T3,h2,h3,h4,h5⟩:=rP hG hu (fun T2 a e=>by
  obtain⟨r,hr,rfl⟩:=key T2 a e;exact⟨wN hG,PU hG.gg hr,rfl,rfl,rfl⟩) e
 obtain⟨r,hr,rfl⟩:=key _ _ h2
 exact⟨h1,h3,h4,by rw[h5];exact hr⟩
theorem Qk(hG:nH c T)(hu:U now)(e:CV c T now text=.ok (T2,a)):
 vN c T T2 now text∧T2.tb=(ko c T now).tb∧T2.gn=T.gn∧T2.gl=T.gl:=by
 obtain⟨h1,T3,h2,h3,h4,h5⟩:=rP hG hu (fun T2 a e=>by cases e;exact⟨wN hG,hG.gg,rfl,rfl,rfl⟩) e
 cases h2
 exact⟨h1,h3,h4,h5⟩
theorem ZT{r:s9}{y:Rep}(hG:nH c T)(hf:lN r)(e:p6 c T r=.ok (T2,y)):
 nH c T2∧y.e=0∧((T2=T∧r.op≠1∧r.op≠2∧r.op≠4∧r.op≠5)∨((r.op=1∨r.op=2∨r.op=4∨r.op=5)∧T2.tm=r.now∧T.tm≤r.now∧kO T2.ll=kO T.ll+1))∧(r.op≠4→r.op≠5→T2.gn=T.gn∧T2.gl=T.gl):=by
 unfold p6 at e
 split at e
 ·rename_i ho
  cases hi:nl c T r.now r.labels r.kind r.items with
  |error er=>rw[hi]at e;cases e
  |ok x=>
   rw[hi]at e
   cases e
   obtain⟨h1,h2,h3,_⟩:=wy hG hf.now hf.iu (show nl c T r.now r.labels r.kind r.items=.ok (x.1,x.2)from hi);exact⟨h1.g,rfl,.inr ⟨.inl ho,h1.tm,h1.le,h1.last⟩,fun _ _=>⟨h2,h3⟩⟩
 rename_i n1
 split at e
 ·rename_i ho
  cases hi:pM c T r.now r.scope r.kind r.h with
  |error er=>rw[hi]at e;cases e
  |ok x=>
   rw[hi]at e
   cases e
   obtain⟨h1,h2,h3,_⟩:=TN hG hf.now (show pM c T r.now r.scope r.kind r.h=.ok (x.1,x.2)from hi);exact⟨h1.g,rfl,.inr ⟨.inr (.inl ho),h1.tm,h1.le,h1.last⟩,fun _ _=>⟨h2,h3⟩⟩
 rename_i n2
 split at e
 ·rename_i ho
  cases hi:sy c T r.now r.to r.scope with
  |error er=>rw[hi]at e;cases e
  |ok x=>
   rw[hi]at e
   cases e
   obtain⟨h1,h2,h3⟩:=Ux hG hf.now hf.to (by have:=hf.scope;omega) (show sy c T r.now r.to r.scope=.ok (x.1,x.2)from hi);exact⟨h1.g,rfl,.inr ⟨.inr (.inr (.inl ho)),h1.tm,h1.le,h1.last⟩,fun k=>absurd ho k⟩
 rename_i n4
 split at e
 ·rename_i ho
  cases hi:D4 c T r.now r.id with
  |error er=>rw[hi]at e;cases e
  |ok x=>
   rw[hi]at e
   cases e
   obtain⟨h1,h2,h3,_⟩:=ZN hG hf.now (show D4 c T r.now r.id=.ok (x.1,x.2)from hi);exact⟨h1.g,rfl,.inr ⟨.inr (.inr (.inr ho)),h1.tm,h1.le,h1.last⟩,fun _ k=>absurd ho k⟩
 rename_i n5
 split at e<;>(cases e;exact⟨hG,rfl,.inl ⟨rfl,n1,n2,n4,n5⟩,fun _ _=>⟨rfl,rfl⟩⟩)
theorem T_{r:s9}(hG:nH c T)(hf:lN r)(e:qt c T r=.ok (T2,a)):
 vN c T T2 r.now "rollup".toByteArray∧T2.tb=(ko c T r.now).tb∧T2.gn=T.gn∧T2.gl=T.gl∧mw r.scope=true∧1≤r.kind∧r.kind≤3∧¬8<r.jV.length:=by
 unfold qt at e
 split at e
 ·cases e
 rename_i h8
 split at e
 ·rename_i hs;split at e
  ·rename_i hk;obtain⟨h1,h2,h3,h4⟩:=Qk hG hf.now e;exact⟨h1,h2,h3,h4,hs,hk.1,hk.2,h8⟩
  cases e
 cases e
theorem nR.set{C:Col}(h:nR C){k:Nat}(hk:k<C.length){T:kM}(hT:nH C[k].1 T):nR (C.set k (C[k].1,T)):=by
 refine⟨fun x hx=>?_,fun x hx=>?_,?_⟩
 ·rcases dO hx with hx|hx
  ·exact h.cfg x hx
  rw[hx];exact h.cfg C[k] (ar hk)
 ·rcases dO hx with hx|hx
  ·exact h.ten x hx
  rw[hx];exact hT
 refine cj.2 fun i j hi hj hij=>?_;have e:∀(i:Nat)(hi:i<C.length),((C.set k (C[k].1,T))[i]'(by simpa using hi)).1=C[i].1:=fun i hi=>by
  rw[eW];split
  ·subst_vars;rfl
  rfl
 have hi':i<C.length:=by simpa using hi
 have hj':j<C.length:=by simpa using hj
 rw[e i hi',e j hj'];exact cj.1 h.ids i j hi' hj' hij
theorem nR.at_(h:nR C)(e:C[k]? =some (c,T)):GC c∧nH c T:=⟨h.cfg _ (cm e),h.ten _ (cm e)⟩
variable{scope:ByteArray}
theorem Qf(h:nR C){own id:Int}{s:Sk}(e:uV C own scope kind id=.ok s):GK s∧s.kind=kind:=by
 unfold uV at e;split at e
 ·cases e
 split at e
 ·cases e
 rename_i T he;obtain⟨-,g⟩:=h.at_ he;split at e
 ·exact Gp g.tb e
 exact WX g.tb e
theorem M9(h:nR C){own id:Int}{s:Sk}(hs:GK s)(hk:s.kind=kind):GK (ln C own scope kind s id)∧(ln C own scope kind s id).kind=kind:=by
 unfold ln;split
 ·exact⟨hs,hk⟩
 rename_i p hp;obtain⟨g1,g2⟩:=Qf h hp;have:=Ei hs g1 (by rw[hk,g2]);exact⟨this.1,this.2.trans hk⟩
theorem Px(h:nR C){own:Int}(hk:1≤kind∧kind≤3):∀ids:List Int,GK (vm C own scope kind ids)∧(vm C own scope kind ids).kind=kind:=fun ids=>by
 unfold vm;have key:∀(ids:List Int)(s:Sk),GK s→s.kind=kind→GK (ids.foldl (ln C own scope kind) s)∧(ids.foldl (ln C own scope kind) s).kind=kind:=fun ids=>by
  induction ids with
  |nil=>exact fun s a b=>⟨a,b⟩
  |cons x ids ih=>
   intro s a b;have:=M9 h (own:=own) (scope:=scope) (id:=x) a b;exact ih _ this.1 this.2
 exact key ids _ (wj hk).1 (wj hk).2.1
theorem M6(p:Nat→Prop)(g:Nat)(c:lO)(T:kM)(to:Int)(sc:ByteArray)(kind:Int)(hG:GT T.tb)(hGG:GG T.gn T.gl)(hs:sc.size≤1000)(w:jC)(hT:Tb w)(hE:Er w)(h:kB w p g c T):
 jE Tryz.prog 77 #[jO g,jK to,jL sc,jJ kind] w (mU w (qT T.gl to T.tb sc kind)):=by
 obtain⟨A,cap,ms,GA,gc,LA,lc,h⟩:=h
 have Q:Hid (∀w',(bJ w w')→jE Tryz.prog 108 #[.agg #[jK T.gn,jN GA T.gl gc],jK to,cU A ms cap,jL sc,jJ kind] w' (mU w' (qT T.gl to T.tb sc kind))):=fun w' hb=>by
  have:=N8 T.gn GA T.gl gc to hGG A ms cap sc kind jS w' (hT.later hb) (hE.later hb) (h.l.gb.later hb) ((h.l.Ku hG).later hb);rwa[h.l.map]at this
 obtain⟨c0,c1,c2,-⟩:=h.cells
 have hgw:=h.blk.lt
 generalize qT T.gl to T.tb sc kind=rr at*
 clear h hT hG hE hGG
 go_in
 go_wp2_with fail
 refine kf (fun V=>V.cell? ⟨g,0,none⟩=some (cU A ms cap)∧V.cell? ⟨g,1,none⟩=some (.int .u64 T.gn)∧V.cell? ⟨g,2,none⟩=some (.slice GA T.gl.length gc)) ((Hold.nil w).alloc w 136 [jJ 0,jJ 0,jM,jJ 0,aF,jJ 0,jJ 0,jM,jJ 0,jM]) ⟨by rw[dt w _ _ hgw];exact c0,by rw[dt w _ _ hgw];exact c1,by rw[dt w _ _ hgw];exact c2⟩ (fun V HV hcV=>?_)
 have hz:w.heap.size<V.heap.size:=(HV.blk _ ab).2.lt
 have EG:g<V.heap.size:=jS
 have HC:=ah hcV
 clear c0 c1 c2 hcV
 refine(qc _ _).mono ?_
 rintro e w1⟨rfl,rfl⟩
 go_wp2_with fail
 obtain⟨k0,k1,k2⟩:w1.drew.cell? ⟨g,0,none⟩=some (cU A ms cap)∧w1.drew.cell? ⟨g,1,none⟩=some (.int .u64 T.gn)∧w1.drew.cell? ⟨g,2,none⟩=some (.slice GA T.gl.length gc):=HC.out
 replace HV:=ai HV.out.drew
 replace EG:g<w1.drew.heap.size:=EG
 replace hz:w.heap.size<w1.drew.heap.size:=hz
 clear HC
 refine kG (S:=(fun w'=>w'.cell? ⟨g,0,none⟩=some (cU A ms cap)∧w'.cell? ⟨g,1,none⟩=some (.int .u64 T.gn)∧w'.cell? ⟨g,2,none⟩=some (.slice GA T.gl.length gc))) (s:=13) oo ?_
 refine sU ⟨k0,k1,k2⟩ ?_
 generalize w1.drew=V2 at*
 refine oY 13 fun K hK=>?_
 go_simp
 refine(Q V2 HV.below).mono ?_
 rintro e w2⟨hb2,h⟩
 have hs2:=hb2.size
 replace HV:=ah (HV.call hb2)
 clear hb2 Q k0 k1 k2
 cases hrr:rr with
 |error er=>
  rw[hrr]at h;subst h;have HR:=ah hrr;clear hrr;have HRR:=aS (HV.all 0 [jJ 0,jJ 0,jM,jJ 0,aF,jJ 0,jJ 0,jM,jJ 0,jM]);simp only[xl];refine hK.out _ _ (fun h=>qch) ?_;clear hK K;refine az ?_;refine MZ ?_;have x:=fk (HV.facts);refine oY 16 fun K hK=>?_;go_simp;refine hK.out _ _ (fun h=>qch) ?_;clear hK K;refine az ?_;refine MZ ?_;refine yi ?_;go_wp2_with fail;refine kw (fun _=>True) HRR trivial (fun V9 H9 _=>?_);have hq:=fk (H9.at_ 0);clear x HRR;refine jF (v:=.tuple #[cL,jJ er]) (by simp[results,Tryz.results77,go_sem,hq]) rfl ?_;exact mU.no HR H9.below
 |ok s=>
  rw[hrr]at h;obtain⟨m,hm,rfl,hok,hin⟩:=h;have HR:Hid (rr=.ok m.s):=by show _=_;rw[hrr,hm]
  clear hm hrr;have HRR:=aS (HV.all 0 (aA m));have hok2:=aS (jY.lp (g:=w.heap.size) (hin.mono fun b hb=>jS) (aA m) 0 hok);unfold nT;refine hK.out _ _ (fun h=>qch) ?_;clear hK K;refine az ?_;refine MZ ?_;have x:=fk (HV.facts);refine oY 16 fun K hK=>?_;go_simp;refine hK.out _ _ (fun h=>qch) ?_;clear hK K;refine az ?_;refine MZ ?_;refine yi ?_;go_wp2_with fail;refine kw (fun V=>jY V V m) HRR hok2 (fun V9 H9 nZ=>?_);have hq:=fk (H9.at_ 0);clear x HRR hok2;refine jF (v:=.tuple #[.agg (aB m),jJ 0]) (by simp[results,Tryz.results77,go_sem,hq]) rfl ?_;exact mU.yes HR H9.below nZ (hin.mono fun b hb=>jS)
end Go.Proofs.YtfcnedcahoifoaaGreatDoor

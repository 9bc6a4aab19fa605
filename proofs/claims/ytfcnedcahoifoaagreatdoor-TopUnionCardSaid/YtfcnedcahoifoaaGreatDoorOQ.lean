import Derived.Test.YtfcnedcahoifoaaGreatDoorOH
namespace Go.Proofs.YtfcnedcahoifoaaGreatDoor
open Go.RowKit
open _root_.Array renaming getElem?_eq_some_iff→aw
open _root_.Go renaming Addr→jG,CallsIn→bj2,Calls→jE,Code→bk9,Ending→bi6,Exit→bk7,KeepsOthers→bj4,Oper→bk0,Program→bi3,TypeId→jH,Value→jD,World→jC,bodyPost_ret→jF,callsIn_of_wp_marks→bi7,callsIn_wide→jI,grownBy_putObj'→bj5,method→gz,rounds_succ→bi9,run_takeDeferred→bi2,wpIn_wide→bi4,wp_loop_rounds→bj8,wp_region_held_drew→bi1
open _root_.Go.CallsIn renaming inRound→d_
open _root_.Go.Code renaming wp_mono→jg
open _root_.Go.Exit renaming noGoto_ret→cf
open _root_.Go.Fence renaming wide→cz
open _root_.Go.IntWalk renaming i64_in→dv
open _root_.Go.KeepsOthers renaming refl→gq,setCell→b7
open _root_.Go.Oper renaming semAt_some→db
open _root_.Go.Region renaming Mode→fD
open _root_.Go.World renaming block_lt_of_cell?→b8,cell?_of_block→co
open _root_.List renaming length_replicate→ey,replicate→de,set_cons_succ→am,set_cons_zero→ak
open _root_.Nat renaming eq_zero_or_pos→fM,lt_of_lt_of_le→cn,reduceAdd→ao,reduceSub→dk,zero_add→au,zero_le→be
set_option maxRecDepth 100000
set_option maxHeartbeats 16000000
set_option linter.unusedVariables false
set_option linter.unusedSimpArgs false
structure lY(p:Nat→Prop)(m:SkM):Prop where
 e:m.s.e≠[]→∀ad,m.ea=some ad→p ad.block
 c:m.s.c≠[]→∀ad,m.ca=some ad→p ad.block
 g:m.s.g≠[]→∀ad,m.ga=some ad→p ad.block
section
variable{p q:Nat→Prop}{m:SkM}{w w':jC}{B g i:Nat}{v:jD}
theorem lY.mono(h:lY p m)(hq:∀b,p b→q b):lY q m:=⟨fun x a e=>hq _ (h.e x a e),fun x a e=>hq _ (h.c x a e),fun x a e=>hq _ (h.g x a e)⟩
variable{A:Option jG}{xs:List jD}
theorem uS(h:Rd w B A xs)(hx:xs≠[]):∀ad,A=some ad→ad.block<B:=fun ad e=>by
 obtain⟨b,off,e2,hb,_⟩:=h hx;rw[e2]at e;cases e;exact hb
theorem jY.inn(h:jY w B m):lY (·<B) m:=⟨fun x=>uS h.e (by simpa using x),fun x=>uS h.c (by simpa using x),fun x=>uS h.g (by cases hg:m.s.g with|nil=>exact absurd hg x|cons y r=>simp[Hi.mD])⟩
theorem Fr.inn(h:Fr B m):lY (B≤ ·) m:=⟨fun _=>h.e,fun _=>h.c,fun _=>h.g⟩
theorem D8(h:Rd w w A xs)(hne:xs≠[]→∀ad,A=some ad→ad.block≠g):Rd (w.setCell ⟨g,i,none⟩ v) (w.setCell ⟨g,i,none⟩ v).heap.size A xs:=fun hx=>mi h (hne hx) hx
theorem jY.put(h:jY w w m)(ha:lY (·≠g) m):jY (w.setCell ⟨g,i,none⟩ v) (w.setCell ⟨g,i,none⟩ v).heap.size m:=
 ⟨D8 h.e fun x=>ha.e fun e=>x (by rw[e];rfl),D8 h.c fun x=>ha.c fun e=>x (by rw[e];rfl),D8 h.g fun x=>ha.g fun e=>x (by rw[e];rfl)⟩
theorem jY.lp(ha:lY (·≠g) m):∀(vs:List jD){w:jC}(i:Nat),jY w w m→jY (lp w g i vs) (lp w g i vs).heap.size m
 |[],_,_,h=>h
 |v::vs,_,i,h=>jY.lp ha vs (i+1) (h.put ha)
end
def pJ(lo:Nat)(w:jC)(s:Sk)(e:bi6)(w':jC):Prop:=∃m:SkM,m.s=s∧e=.returned (.tuple #[jT m,.nilIface])∧jY w' w' m∧lY (fun b=>b<lo∨w.heap.size≤b) m∧Below w w w'
theorem ut(lo:Nat)(T:jH)(v:jD)(fn:Nat)(kd lv:Int)(s':Sk)(hl0:0≤lv)(hl1:lv<kn kd)(hp:(T=294∧fn=286)∨(T=297∧fn=315)∨(T=298∧fn=325)∨(T=300∧fn=344))(h1:s'.kind=kd)(h2:s'.level=lv+1)(w:jC)
 (hcall:∀w',Below w w w'→jE Tryz.prog fn #[v] w' (oW w' s')):jE Tryz.prog 182 #[.agg #[.iface T v,jJ kd,jJ lv]] w (pJ lo w s'):=by
 have HC:=ah hcall
 have l4:kn kd≤4:=by unfold kn;split;omega;split<;>omega
 have hw:IntKind.i64.wrap (lv+1)=lv+1:=dv _ jS
 have hd:decide (kn kd≤lv)=false:=ag
 have HE:Hid (s'.kind=kd∧s'.level=lv+1):=⟨h1,h2⟩
 clear hcall h1 h2 l4
 go_in
 go_wp2_with fail
 refine oN (fun _=>True) (((Hold.nil w).alloc w 169 [.iface T v,jJ kd,jJ lv]).alloc (w.heap.size+1) 169 cT) trivial (fun V HV _=>?_)
 have x:=fk (HV.at_ 1)
 replace HV:=ah HV.drew
 go_region_held(fun w'=>w'.cell? ⟨w,1,none⟩=some (.int .i64 kd)∧w'.cell? ⟨w,2,none⟩=some (.int .i64 lv)) (first|assumption|exact x.2|go_keep) ((go_at_call 112;refine(qI _ _).mono ?_;rintro r _⟨rfl,rfl⟩))
 generalize V.drew=V2 at*
 clear x
 have x:=fk (HV.facts)
 rcases hp with⟨rfl,rfl⟩|⟨rfl,rfl⟩|⟨rfl,rfl⟩|⟨rfl,rfl⟩
 all_goals
  go_wp2_with fail;refine(HC V2 HV.below).mono ?_;rintro r w3⟨m,hm,rfl,hok,hfr,hb3⟩;have hz:w.heap.size+1<V2.heap.size:=x.1;replace HV:=ah (HV.call hb3);obtain⟨T',v',hbv⟩:=kv m;rw[hbv];clear hb3 x;have x:=fk (HV.facts);go_wp2_with fail;have HR:=aS (HV.all 0 [.iface T' v',jJ kd,jJ (lv+1)]);have hin:=hfr.inn;have hok2:=aS (jY.lp (g:=w.heap.size+1) (hin.mono fun b(hb:V2.heap.size≤b)=>jS) [.iface T' v',jJ kd,jJ (lv+1)] 0 hok);refine kw (fun V=>jY V V m) HR hok2 (fun V H9 hok=>?_);have hin2:=hin.mono (q:=fun b=>b<lo∨w.heap.size≤b) fun b(hb:V2.heap.size≤b)=>.inr jS;clear x HV HR hok2 hin;have hq:=fk (H9.at_ 0);refine jF (v:=.tuple #[.agg #[.iface T' v',jJ kd,jJ (lv+1)],.nilIface]) (by simp[results,Tryz.results182,go_sem,hq]) rfl ?_;exact⟨m,hm,by rw[jT,hbv,hm,HE.1,HE.2],hok,hin2,H9.below⟩
theorem Em(m:SkM)(hG:GK m.s)(hl:m.s.level<kn m.s.kind)(lo:Nat)(w:jC)(hm:jY w w m):jE Tryz.prog 182 #[jT m] w (pJ lo w (mG m.s)):=by
 obtain⟨_,h2,h3⟩:=uW hG hl;have hl0:=(sI hG).1;have hm2:∀w',Below w w w'→jY w' w' m:=fun w' h=>hm.later h;clear hm;obtain⟨s,ea,ec,ca,cc,ga,gc⟩:=m;simp only at hG hl hl0 h2 h3⊢
 cases hG with
 |num e hr hu=>
  refine ut lo 294 _ 286 1 0 _ hl0 hl (.inl ⟨rfl,rfl⟩) h2 h3 w fun w' hb=>?_;have e1:mG (bM e)={kN 1 1 with bits:=(Hl.JQ 7 e).b,regs:=Hl.bs (Hl.JQ 7 e).l}:=by simp[mG,kN]
  rw[e1];exact Eg ea e ec 1 B8 (Hl.JQ 7 e) hu (by have:=(Ex.mS.1 hr).1;omega) (by rw[T7]) w' (hm2 w' hb).e
 |reg b l h4 h7 hr=>
  have h0:¬((8:Int)-b=0):=jS;have h5:4≤b:=h4;obtain⟨e1,e2⟩:=CZ h5 hr;have hb':=sR l (Hl.kU hr);have ew:jT ⟨lI 14 b l,ea,ec,ca,cc,ga,gc⟩=.agg #[.iface 297 (.agg #[jJ b,jL (Hl.bs l)]),jJ 1,jJ (8-b)]:=by simp[jT,kK,hV,h0]
  rw[ew];refine ut lo 297 _ 315 1 (8-b) _ hl0 hl (.inr (.inl ⟨rfl,rfl⟩)) h2 h3 w fun w' hb=>?_;have e3:mG (lI 14 b l)={kN 1 (8-b+1)with bits:=(Hl.lR b (lQ (Hl.bs l))).b,regs:=Hl.bs (Hl.lR b (lQ (Hl.bs l))).l}:=by simp[mG,kN,h0]
  rw[e3];exact D7 b (Hl.bs l) (8-b+1) jS (Hl.lR b (lQ (Hl.bs l))) (by rw[hb',e1]) w'
 |cnt lv C c h3 hC hr hu=>
  refine ut lo 298 _ 325 2 lv _ hl0 hl (.inr (.inr (.inl ⟨rfl,rfl⟩))) h2 h3 w fun w' hb=>?_;have e3:mG (oZ 22 lv C c)={kN 2 (lv+1)with rows:=(Cm.mm ⟨2,C,c⟩).1.r,cols:=(Cm.mm ⟨2,C,c⟩).1.c,c:=(Cm.mm ⟨2,C,c⟩).1.l}:=by simp[mG,kN]
  rw[e3];have hc4:(C:Int)≠4:=by
   have:lv<3:=by simp[kn]at hl;omega
   rcases(by omega:lv=0∨lv=1∨lv=2)with rfl|rfl|rfl<;>simp at hC<;>subst hC<;>decide
  exact EV 2 C ca c cc (lv+1) (Cm.mm ⟨2,C,c⟩).1 hu (by rw[Cm.mm,if_pos ⟨hr,hc4⟩]) w' (hm2 w' hb).c
 |zB lv g h3 hr hu=>
  refine ut lo 300 _ 344 3 lv _ hl0 hl (.inr (.inr (.inr ⟨rfl,rfl⟩))) h2 h3 w fun w' hb=>?_;have e3:mG ⟨3,lv,[],0,⟨#[]⟩,0,0,[],3-lv,g⟩={kN 3 (lv+1)with fine:=(Hi.lR (3-lv) g).1,g:=(Hi.lR (3-lv) g).2.1}:=by simp[mG,kN]
  rw[e3];have hf:Hi.ld (3-(lv:Int)-1)=true:=by simp[kn]at hl;simp[Hi.ld];omega
  exact EX (3-lv) ga g gc (lv+1) ((Hi.lR (3-lv) g).1,(Hi.lR (3-lv) g).2.1) hu (Hi.zV (Hi.pS hr)) (by rw[Hi.lR,if_pos ⟨hr,hf⟩]) w' (hm2 w' hb).g
instance i5_(x0:List Int):CoeOut (sH 5 x0) Sk:=⟨fun _=>⟨1,1,[],((7:Nat):Int),Hl.bs (Hl.mx 7 (de (2^7) 0) x0),0,0,[],0,[]⟩⟩
theorem DK(lo:Nat)(T:jH)(v:jD)(fn:Nat)(kd lv h n:Int)(s':Sk)(hp:(T=294∧fn=283)∨(T=297∧fn=312)∨(T=298∧fn=322)∨(T=300∧fn=341))(h1:s'.kind=kd)(h2:s'.level=lv)(b:Nat)(w:jC)(hc:(bI w b h)∧w.cell? ⟨b,1,none⟩=some (.int .u64 n))
 (hcall:∀w',Below w w w'→jE Tryz.prog fn #[v,cI h n] w' (oW w' s')):jE Tryz.prog 137 #[.agg #[.iface T v,jJ kd,jJ lv],.slice (aC b) 1 1] w (pJ lo w s'):=by
 have HC:=ah hcall
 have HE:Hid (s'.kind=kd∧s'.level=lv):=⟨h1,h2⟩
 have hlt:b<w.heap.size:=b8 w _ hc.1
 have hmm:∀(x:jD)(w:jC),(gz 640 T x "aviary/ladder.add").run Tryz.prog w=.ok (fn,x) w:=by rcases hp with⟨rfl,rfl⟩|⟨rfl,rfl⟩|⟨rfl,rfl⟩|⟨rfl,rfl⟩<;>exact fun _ _=>oo
 clear hcall h1 h2
 go_in
 go_wp2_with fail
 refine oN (fun V=>(bI V b h)∧V.cell? ⟨b,1,none⟩=some (.int .u64 n)) (((Hold.nil w).alloc w 169 [.iface T v,jJ kd,jJ lv]).alloc (w.heap.size+1) 169 cT) (by
  have q:∀o u,w.cell? ⟨b,o,none⟩=some u→_:=fun o u e=>((jP (jP (jQ w) (.cells #[.iface T v,jJ kd,jJ lv] 169)) (.cells #[.nilIface,jJ 0,jJ 0] 169)).cell (p:=⟨b,o,none⟩) hlt).trans e;exact⟨q 0 _ hc.1,q 1 _ hc.2⟩) (fun V HV hV=>?_)
 clear hc
 have x:=fk (HV.facts)
 have hbV:b<V.heap.size:=by have:=HV.size;omega
 rcases hp with⟨rfl,rfl⟩|⟨rfl,rfl⟩|⟨rfl,rfl⟩|⟨rfl,rfl⟩
 all_goals
  refine bj8 2 ?_;rw[bi9];go_wp2_with fail;have H1:=ah (HV.al (.cells #[jK h,jK n] 39));refine(HC _ H1.below).mono ?_;rintro e w1⟨m,hm,rfl,hok,hfr,hb1⟩;have hz:w.heap.size+1<V.heap.size:=x.1;have hfr2:Fr (V.heap.size+1) m:=by simpa using hfr
  replace H1:=ah (H1.call hb1);obtain⟨T',v',hbv⟩:=kv m;rw[hbv];clear hb1 x hV HV;have x:=fk (H1.facts);go_wp2_with fail;refine(AI _).mono ?_;rintro e w2⟨rfl,hb2⟩;replace H1:=ah (H1.call hb2);replace hok:=hok.later hb2;clear hb2 x;have x:=fk (H1.facts);go_wp2_with fail;rw[bi9];go_wp2_with fail;have HR:=aS ((H1.put 1 0 (.iface T' v')).all 0 [.iface T' v',jJ kd,jJ lv]);have hin:=hfr2.inn;have hok2:=aS (jY.lp (g:=w.heap.size+1) (hin.mono fun b hb=>jS) [.iface T' v',jJ kd,jJ lv] 0 (hok.put (g:=w.heap.size) (i:=0) (v:=.iface T' v') (hin.mono fun b hb=>jS)));refine kw (fun V=>jY V V m) HR hok2 (fun V9 H9 nZ=>?_);have hin2:=hin.mono (q:=fun b=>b<lo∨w.heap.size≤b) fun b hb=>.inr jS;have hq:=fk (H9.at_ 0);clear x HR hok2 hin;refine jF (v:=.tuple #[.agg #[.iface T' v',jJ kd,jJ lv],.nilIface]) (by simp[results,Tryz.results137,go_sem,hq]) rfl ?_;exact⟨m,hm,by rw[jT,hbv,hm,HE.1,HE.2],nZ,hin2,H9.below⟩
theorem MW(lo:Nat)(v:jD)(h n:Int)(s1 s':Sk)(h1:s'.kind=1)(h2:s'.level=1)(b:Nat)(w:jC)(hE:Er w)(hc:(bI w b h)∧w.cell? ⟨b,1,none⟩=some (.int .u64 n))
 (hbad:∀w',Below w w w'→jE Tryz.prog 283 #[v,cI h n] w' (I0 w'))
 (hlow:∀w',Below w w w'→jE Tryz.prog 182 #[.agg #[.iface 294 v,jJ 1,jJ 0]] w' (pJ 0 w' s1))
 (hs1:∀m:SkM,m.s=s1→jT m=.agg #[.iface 297 (hV m),jJ 1,jJ 1])
 (hadd:∀(m:SkM) w',m.s=s1→jE Tryz.prog 312 #[hV m,cI h n] w' (oW w' s')):
 jE Tryz.prog 137 #[.agg #[.iface 294 v,jJ 1,jJ 0],.slice (aC b) 1 1] w (pJ lo w s'):=by
 have HC:=ah hbad
 have HL:=ah hlow
 have HA:=ah hadd
 have HS:=ah hs1
 have IV:=ah hE
 have HE:Hid (s'.kind=1∧s'.level=1):=⟨h1,h2⟩
 have hlt:b<w.heap.size:=b8 w _ hc.1
 have mm1:∀(x:jD)(w:jC),(gz 640 294 x "aviary/ladder.add").run Tryz.prog w=.ok (283,x) w:=fun _ _=>oo
 have mm2:∀(x:jD)(w:jC),(gz 640 297 x "aviary/ladder.add").run Tryz.prog w=.ok (312,x) w:=fun _ _=>oo
 clear hbad hlow hadd hs1 hE h1 h2
 go_in
 go_wp2_with fail
 refine oN (fun V=>(bI V b h)∧V.cell? ⟨b,1,none⟩=some (.int .u64 n)) (((Hold.nil w).alloc w 169 [.iface 294 v,jJ 1,jJ 0]).alloc (w.heap.size+1) 169 cT) (by
  have q:∀o u,w.cell? ⟨b,o,none⟩=some u→_:=fun o u e=>((jP (jP (jQ w) (.cells #[.iface 294 v,jJ 1,jJ 0] 169)) (.cells #[.nilIface,jJ 0,jJ 0] 169)).cell (p:=⟨b,o,none⟩) hlt).trans e;exact⟨q 0 _ hc.1,q 1 _ hc.2⟩) (fun V HV hV=>?_)
 clear hc
 have x:=fk (HV.facts)
 have hbV:b<V.heap.size:=by have:=HV.size;omega
 have hz:w.heap.size+1<V.heap.size:=x.1
 refine bj8 2 ?_
 rw[bi9]
 go_wp2_with fail
 refine kf (fun _=>True) (HV.alloc V 39 [jK h,jK n] rfl) trivial (fun V1 H1 _=>?_)
 clear x hV HV
 generalize V.heap.size=bi at*
 refine(HC _ H1.below).mono ?_
 rintro e w1⟨bf,rfl,hbf,hb1⟩
 replace H1:=ah (H1.call hb1)
 have uL:=ah (IV.later H1.below)
 clear hb1 HC
 have x:=fk (H1.facts)
 go_wp2_with fail
 refine(Db bf _ uL hbf).mono ?_
 rintro e w2⟨rfl,hb2⟩
 replace H1:=ah (H1.call hb2)
 clear hb2 x hbf
 have x:=fk (H1.facts)
 go_wp2_with fail
 refine(HL _ H1.below).mono ?_
 rintro e w3⟨m2,hm2,rfl,-,-,hb3⟩
 rw[HS m2 hm2]
 replace H1:=ah (H1.call hb3)
 clear hb3 x
 have x:=fk (H1.facts)
 have HA2:=ah (fun w'=>HA m2 w' hm2)
 clear HA HS
 generalize hV m2=v2 at*
 go_wp2_with fail
 have HR:=aS (H1.all 2 [.iface 297 v2,jJ 1,jJ 1])
 refine kf (fun _=>True) HR trivial (fun V4 H4 _=>?_)
 clear x HR H1
 refine(HA2 _).mono ?_
 rintro e w5⟨m,hm,rfl,hok,hfr,hb5⟩
 have hfr2:Fr bi m:=hfr.mono (by have:=(H4.blk _ ab).2.lt;simp only at this;omega)
 replace H4:=ah (H4.call hb5).tail
 obtain⟨T',v',hbv⟩:=kv m
 rw[hbv]
 clear hb5 HA2 hfr
 have x:=fk (H4.facts)
 go_wp2_with fail
 rw[bi9]
 go_wp2_with fail
 have HR:=aS ((H4.put 1 0 (.iface T' v')).all 0 [.iface T' v',jJ 1,jJ 1])
 have hin:=hfr2.inn
 have hok2:=aS (jY.lp (g:=w.heap.size+1) (hin.mono fun b hb=>jS) [.iface T' v',jJ 1,jJ 1] 0 (hok.put (g:=w.heap.size) (i:=0) (v:=.iface T' v') (hin.mono fun b hb=>jS)))
 refine kw (fun V=>jY V V m) HR hok2 (fun V9 H9 nZ=>?_)
 have hin2:=hin.mono (q:=fun b=>b<lo∨w.heap.size≤b) fun b hb=>.inr jS
 have hq:=fk (H9.at_ 0)
 clear x HR hok2 hin
 refine jF (v:=.tuple #[.agg #[.iface T' v',jJ 1,jJ 1],.nilIface]) (by simp[results,Tryz.results137,go_sem,hq]) rfl ?_
 exact⟨m,hm,by rw[jT,hbv,hm,HE.1,HE.2],nZ,hin2,H9.below⟩
theorem zG(lo:Nat)(m:SkM)(hG:GK m.s)(h n:Int)(hh:U h)(hn:U n)(b:Nat)(w:jC)(hE:Er w)(hm:jY w w m)(hc:(bI w b h)∧w.cell? ⟨b,1,none⟩=some (.int .u64 n)):
 jE Tryz.prog 137 #[jT m,.slice (aC b) 1 1] w (pJ lo w (wQ m.s h n)):=by
 have hm2:∀w',Below w w w'→jY w' w' m:=fun w' h=>hm.later h
 clear hm
 obtain⟨s,ea,ec,ca,cc,ga,gc⟩:=m
 simp only at hG⊢
 have Eh:∀{s:Sk},GK s→qY s h=false→wQ s h n=nQ s h n∧(nQ s h n).kind=s.kind∧(nQ s h n).level=s.level:=fun g f=>⟨by rw[wQ,f];rfl,(E6 g hh hn f).2⟩
 cases hG with
 |num e hr hu=>
  have hl:=(Ex.mS.1 hr).1
  cases hf:qY (bM e) h with
  |false=>
   obtain⟨q1,q2,q3⟩:=Eh (GK.num e hr hu) hf;rw[q1];have h64:(Ex.kp e [h]).length≤64:=by simp[qY]at hf;exact hf
   exact DK lo 294 _ 283 1 0 h n _ (.inl ⟨rfl,rfl⟩) q2 q3 b w hc fun w' hb=>JV ea e ec h n hr h64 w' (hm2 w' hb).e
  |true=>
   have h64:64<(Ex.kp e [h]).length:=by simp[qY]at hf;exact hf
   obtain⟨g1,g2,g3⟩:=uW (GK.num e hr hu) (show(0:Int)<kn 1 by decide);have ek:wQ (bM e) h n=nQ (mG (bM e)) h n:=by rw[wQ,hf];rfl
   rw[ek];obtain⟨_,q2,q3⟩:=E6 g1 (n:=n) hh hn (by simp[qY,g3]);have es:mG (bM e)=(lz 5 e):=by simp[mG,T7]
   refine MW lo _ h n (mG (bM e)) _ (q2.trans g2) (q3.trans (by rw[g3];rfl)) b w hE hc (fun w' hb=>JU ea e ec h n hr h64 w' (hm2 w' hb).e) (fun w' hb=>Em ⟨_,ea,ec,ca,cc,ga,gc⟩ (GK.num e hr hu) (show(0:Int)<kn 1 by decide) 0 w' (hm2 w' hb)) (fun m hm=>?_) fun m w' hm=>?_
   ·rw[es]at hm;simp[jT,kK,hm]
   rw[es]at hm⊢;have hrr:=pZ (B:=7) jS jS e;have hb':=sR _ (Hl.kU hrr);have e1:=E5 h.toNat hrr;have ev:hV m=.agg #[jJ ((7:Nat):Int),jL (Hl.bs (bC e))]:=by simp[hV,hm]
   rw[ev];have e3:nQ (lz 5 e) h n={kN 1 1 with bits:=(Hl.pc ((7:Nat):Int) (bC e) h.toNat).b,regs:=Hl.bs (Hl.pc ((7:Nat):Int) (bC e) h.toNat).l}:=by
    simp only[nQ,kN,hb',if_true,if_neg (show¬(1:Int)=0 by omega)]
   rw[e3];exact Ab _ _ 1 jS (Hl.pc ((7:Nat):Int) (bC e) h.toNat) h n hh (by rw[hb',e1.1]) w'
 |reg b' l h4 h7 hr=>
  have h0:¬((8:Int)-b'=0):=jS;obtain⟨q1,q2,q3⟩:=Eh (GK.reg b' l h4 h7 hr) (by simp[qY,h0]);rw[q1];have hb':=sR l (Hl.kU hr);have ew:jT ⟨lI 14 b' l,ea,ec,ca,cc,ga,gc⟩=.agg #[.iface 297 (.agg #[jJ b',jL (Hl.bs l)]),jJ 1,jJ (8-b')]:=by simp[jT,kK,hV,h0]
  rw[ew];refine DK lo 297 _ 312 1 (8-b') h n _ (.inr (.inl ⟨rfl,rfl⟩)) q2 q3 b w hc fun w' hb=>?_;have e3:nQ (lI 14 b' l) h n={kN 1 (8-b')with bits:=(Hl.pc b' l h.toNat).b,regs:=Hl.bs (Hl.pc b' l h.toNat).l}:=by simp only[nQ,kN,hb',if_true,if_neg h0]
  rw[e3];exact Ab b' (Hl.bs l) (8-b') jS (Hl.pc b' l h.toNat) h n hh (by rw[hb',(E5 _ hr).1]) w'
 |cnt lv C c h3 hC hr hu=>
  obtain⟨q1,q2,q3⟩:=Eh (GK.cnt lv C c h3 hC hr hu) (by simp[qY]);rw[q1];refine DK lo 298 _ 322 2 lv h n _ (.inr (.inr (.inl ⟨rfl,rfl⟩))) q2 q3 b w hc fun w' hb=>?_;obtain⟨c',e1,_⟩:=MK (h:=h) hr hu hn;have e3:nQ (oZ 22 lv C c) h n={kN 2 lv with rows:=(⟨2,C,c'⟩:Cm.Cm).r,cols:=(⟨2,C,c'⟩:Cm.Cm).c,c:=(⟨2,C,c'⟩:Cm.Cm).l}:=by simp[nQ,kN,e1]
  rw[e3];exact K8 2 C ca c cc lv ⟨2,C,c'⟩ h n hh hn hu e1 w' (hm2 w' hb).c
 |zB lv g h3 hr hu=>
  obtain⟨q1,q2,q3⟩:=Eh (GK.zB lv g h3 hr hu) (by simp[qY]);rw[q1];refine DK lo 300 _ 341 3 lv h n _ (.inr (.inr (.inr ⟨rfl,rfl⟩))) q2 q3 b w hc fun w' hb=>?_;obtain⟨e1,_⟩:=IJ (h:=h) (n:=n) hr hu hh hn;have e3:nQ ⟨3,lv,[],0,⟨#[]⟩,0,0,[],3-lv,g⟩ h n={kN 3 lv with fine:=((3-(lv:Int),Hi.qa g (Hi.lj (3-lv) h) n):Int×Hi.jX).1,g:=((3-(lv:Int),Hi.qa g (Hi.lj (3-lv) h) n):Int×Hi.jX).2}:=by simp[nQ,kN,e1]
  rw[e3];exact Lc (3-lv) ga g gc lv (3-(lv:Int),Hi.qa g (Hi.lj (3-lv) h) n) h n hh hn hu (Hi.zV (Hi.pS hr)) e1 w' (hm2 w' hb).g
structure SaA(x0:SkM) where
def aA(x0:SkM):SaA x0:=⟨⟩
instance aY7(x0:SkM):CoeOut (SaA x0) (List jD):=⟨fun _=>[jJ x0.s.kind,jJ x0.s.level,jN x0.ea x0.s.e x0.ec,jJ x0.s.bits,jL x0.s.regs,jJ x0.s.rows,jJ x0.s.cols,jN x0.ca x0.s.c x0.cc,jJ x0.s.fine,jN x0.ga x0.s.g x0.gc]⟩
structure SaB(x0:SkM) where
def aB(x0:SkM):SaB x0:=⟨⟩
instance aY6(x0:SkM):CoeOut (SaB x0) (Array jD):=⟨fun _=>#[jJ x0.s.kind,jJ x0.s.level,jN x0.ea x0.s.e x0.ec,jJ x0.s.bits,jL x0.s.regs,jJ x0.s.rows,jJ x0.s.cols,jN x0.ca x0.s.c x0.cc,jJ x0.s.fine,jN x0.ga x0.s.g x0.gc]⟩
instance i9_(x0:jC)(x1:SkM):CoeOut (wU 9 x0 x1) Prop:=⟨fun _=>Hid (∀w',Below x0 x0 w'→jE Tryz.prog 79 #[nT x1] w' fun e w''=>e=.returned (.tuple #[jT x1,.nilIface])∧Below w' w' w'')⟩
instance aY8(x0:jC)(x1:SkM):CoeSort (wU 9 x0 x1) Prop:=⟨fun _=>Hid (∀w',Below x0 x0 w'→jE Tryz.prog 79 #[nT x1] w' fun e w''=>e=.returned (.tuple #[jT x1,.nilIface])∧Below w' w' w'')⟩
def wW(w:jC)(s:Sk)(e:bi6)(w':jC):Prop:=∃m:SkM,m.s=s∧e=.returned (.tuple #[nT m,jJ 0])∧jY w' w' m∧Fr w m∧Below w w w'
theorem Jr(m:SkM)(hG:GK m.s)(w:jC)(hm:jY w w m):jE Tryz.prog 114 #[jT m] w (wT w m.s):=by
 obtain⟨s,ea,ec,ca,cc,ga,gc⟩:=m;simp only at hG⊢;have hf:=hG.fit
 cases hG with
 |num e hr hu=>exact yq ea e ec 1 0 hf.e w hm.e
 |reg b l h4 h7 hr=>
  have h0:¬((8:Int)-b=0):=jS;have ew:jT ⟨lI 14 b l,ea,ec,ca,cc,ga,gc⟩=.agg #[.iface 297 (.agg #[jJ b,jL (Hl.bs l)]),jJ 1,jJ (8-b)]:=by simp[jT,kK,hV,h0]
  rw[ew];exact yo b (Hl.bs l) 1 (8-b) w
 |cnt lv C c h3 hC hr hu=>exact yu 2 C ca c cc 2 lv hf.c w hm.c
 |zB lv g h3 hr hu=>exact yp (3-lv) ga g gc 3 lv hf.g w hm.g
theorem xg(m:SkM)(hG:GK m.s)(w:jC)(hm:jY w w m):jE Tryz.prog 109 #[jT m,.nilIface] w (wW w m.s):=by
 have HS:Hid (∀w',Below w w w'→jE Tryz.prog 114 #[jT m] w' (wT w' m.s)):=fun w' h=>Jr m hG w' (hm.later h);obtain⟨T,v,hb⟩:=kv m;unfold jT at HS⊢;rw[hb]at HS⊢;generalize m.s=s at*
 have HG:=ah hG;clear hm hb hG;go_in;go_wp2_with fail;refine kf (fun _=>True) (((Hold.nil w).alloc w 169 [.iface T v,jJ s.kind,jJ s.level]).alloc (w.heap.size+1) 136 (xl 0 0)) trivial (fun V HV _=>?_);refine(HS V HV.below).mono ?_;rintro e w1⟨m,rfl,rfl,hok,hfr,hb1⟩;have hz:w.heap.size+1<V.heap.size:=(HV.blk _ ab).2.lt;replace HV:=ah (HV.call hb1);have x:=fk (HV.facts);unfold nT;clear hb1 HS;go_wp2_with fail;have HR:=aS (HV.all 0 (aA m));have hin:lY (·≠w.heap.size+1) m:=hfr.inn.mono fun b(hb:V.heap.size≤b)=>jS;have hok2:=aS (jY.lp hin (aA m) 0 hok);refine kw (fun V=>jY V V m) HR hok2 (fun V9 H9 nZ=>?_);have hfr2:=hfr.mono (B':=w.heap.size) jS;have hq:=fk (H9.at_ 0);clear x HR hok2 hin hfr HV;refine jF (v:=.tuple #[.agg (aB m),jJ 0]) (by simp[results,Tryz.results109,go_sem,hq]) rfl ?_;exact⟨m,rfl,rfl,nZ,hfr2,H9.below⟩
theorem Ki(m:SkM)(hG:GK m.s)(hl:m.s.level<kn m.s.kind)(w:jC)(hm:jY w w m):jE Tryz.prog 143 #[nT m] w (wW w (mG m.s)):=by
 have HK:Hid (∀w',Below w w w'→jY w' w' m):=fun w' h=>hm.later h;have QO:(lI 9 w m):=fun w' h=>vu m hG.right w' (hm.later h) hG.fit;have QW:Hid (∀w',Below w w w'→jE Tryz.prog 182 #[jT m] w' (pJ w w' (mG m.s))):=fun w' h=>Em m hG hl w w' (hm.later h);obtain⟨T,v,hb⟩:=kv m;unfold jT at QW;rw[hb]at QW;clear hm;go_in;unfold nT at*
 go_wp2_with fail;refine kf (fun _=>True) (((Hold.nil w).alloc w 136 (aA m)).alloc (w.heap.size+1) 136 (xl 0 0)) trivial (fun V HV _=>?_);refine(QO V HV.below).mono ?_;rintro e w1⟨rfl,hb1⟩;replace HV:=ah (HV.call hb1);clear hb1 QO;have x:=fk (HV.facts);have ew:jT m=.agg #[.iface T v,jJ m.s.kind,jJ m.s.level]:=by rw[jT,hb]
 rw[ew];have hz:w.heap.size+1<w1.heap.size:=x.1;go_wp2_with fail;refine kf (fun _=>True) (HV.alloc w1 169 [.iface T v,jJ m.s.kind,jJ m.s.level] rfl) trivial (fun V2 H2 _=>?_);clear x HV ew;generalize w1.heap.size=bx at*
 refine(QW V2 H2.below).mono ?_;rintro e w3⟨m2,hm2,rfl,hok2,hin2,hb3⟩;have hg3:bx<V2.heap.size:=(H2.blk _ (ac 0)).2.lt;replace H2:=ah (H2.call hb3);have HG2:Hid (GK m2.s):=by rw[hm2];exact(uW hG hl).1
 obtain⟨T2,v2,hbv⟩:=kv m2;have ew:jT m2=.agg #[.iface T2 v2,jJ m2.s.kind,jJ m2.s.level]:=by rw[jT,hbv]
 rw[ew];have Yx:=ah hm2;clear hb3 QW hm2;have x:=fk (H2.facts);go_wp2_with fail;have HR:=aS (H2.all 0 [.iface T2 v2,jJ m2.s.kind,jJ m2.s.level]);have xM:=aS (jY.lp (g:=bx) (hin2.mono fun b hb=>jS) [.iface T2 v2,jJ m2.s.kind,jJ m2.s.level] 0 hok2);refine kf (fun V=>jY V V m2) HR xM (fun V4 H4 rm=>?_);have QT:=ah (xg m2 HG2 V4 rm);rw[ew]at QT;clear x HR xM H2 hok2 hin2 ew;refine QT.mono ?_;rintro e w5⟨m3,N1,rfl,uH,hfr,hb5⟩;have Rg:w.heap.size+1<V4.heap.size:=by have:=(H4.blk _ (ac 0)).2.lt;simp only at this;omega
 replace H4:=ah (H4.call hb5);have Fk:Hid (m3.s=mG m.s):=N1.trans Yx;clear hb5 QT N1;have x:=fk (H4.facts);unfold nT;go_wp2_with fail;have HR:=aS (H4.all 1 (aA m3));have hin:lY (·≠w.heap.size+1) m3:=hfr.inn.mono fun b(hb:V4.heap.size≤b)=>jS;have G6:=aS (jY.lp hin (aA m3) 0 uH);refine kw (fun V=>jY V V m3) HR G6 (fun V9 H9 nZ=>?_);have hfr2:=hfr.mono (B':=w.heap.size) jS;have hq:=fk (H9.at_ 1);clear x HR G6 hin hfr H4;refine jF (v:=.tuple #[.agg (aB m3),jJ 0]) (by simp[results,Tryz.results143,go_sem,hq]) rfl ?_;exact⟨m3,Fk,rfl,nZ,hfr2,H9.below⟩
theorem GP(m:SkM)(hG:GK m.s)(h n:Int)(hh:U h)(hn:U n)(w:jC)(hE:Er w)(hm:jY w w m):jE Tryz.prog 95 #[nT m,cI h n] w (wW w (wQ m.s h n)):=by
 have HK:Hid (∀w',Below w w w'→jY w' w' m):=fun w' h=>hm.later h;have QO:(lI 9 w m):=fun w' h=>vu m hG.right w' (hm.later h) hG.fit;have IV:=ah hE;have QW:Hid (∀w' b,Below w w w'→Er w'→((bI w' b h)∧w'.cell? ⟨b,1,none⟩=some (.int .u64 n))→jE Tryz.prog 137 #[jT m,.slice (aC b) 1 1] w' (pJ w w' (wQ m.s h n))):=fun w' b hb hE hc=>zG w m hG h n hh hn b w' hE (hm.later hb) hc;obtain⟨T,v,hb⟩:=kv m;unfold jT at QW;rw[hb]at QW;clear hm;go_in;unfold nT at*
 go_wp2_with fail;refine kf (fun _=>True) ((((Hold.nil w).alloc w 136 (aA m)).alloc (w.heap.size+1) 39 [jK h,jK n]).alloc (aN w) 136 (xl 0 0)) trivial (fun V HV _=>?_);refine(QO V HV.below).mono ?_;rintro e w1⟨rfl,hb1⟩;replace HV:=ah (HV.call hb1);clear hb1 QO;have x:=fk (HV.facts);have ew:jT m=.agg #[.iface T v,jJ m.s.kind,jJ m.s.level]:=by rw[jT,hb]
 rw[ew];have hz:w.heap.size+1+1<w1.heap.size:=x.1;go_wp2_with fail;refine kf (fun _=>True) ((HV.alloc w1 169 [.iface T v,jJ m.s.kind,jJ m.s.level] rfl).alloc (dE w1) 39 [jK h,jK n]) trivial (fun V2 H2 _=>?_);clear x HV ew;generalize w1.heap.size=bx at*
 have hq:=fk (H2.at_ 0);refine(QW V2 _ H2.below (IV.later H2.below) hq).mono ?_;rintro e w3⟨m2,hm2,rfl,hok2,hin2,hb3⟩;have hg3:bx<V2.heap.size:=(H2.blk _ (ac 1)).2.lt;replace H2:=ah (H2.call hb3);have HG2:Hid (GK m2.s):=by rw[hm2];exact(Wk hG hh hn).1
 obtain⟨T2,v2,hbv⟩:=kv m2;have ew:jT m2=.agg #[.iface T2 v2,jJ m2.s.kind,jJ m2.s.level]:=by rw[jT,hbv]
 rw[ew];have Yx:=ah hm2;clear hb3 QW hm2;have x:=fk (H2.facts);go_wp2_with fail;have HR:=aS (H2.all 1 [.iface T2 v2,jJ m2.s.kind,jJ m2.s.level]);have xM:=aS (jY.lp (g:=bx) (hin2.mono fun b hb=>jS) [.iface T2 v2,jJ m2.s.kind,jJ m2.s.level] 0 hok2);refine kf (fun V=>jY V V m2) HR xM (fun V4 H4 rm=>?_);have QT:=ah (xg m2 HG2 V4 rm);rw[ew]at QT;clear x HR xM H2 hok2 hin2 ew;refine QT.mono ?_;rintro e w5⟨m3,N1,rfl,uH,hfr,hb5⟩;have Rg:w.heap.size+1+1<V4.heap.size:=by have:=(H4.blk _ (ac 1)).2.lt;simp only at this;omega
 replace H4:=ah (H4.call hb5);have Fk:Hid (m3.s=wQ m.s h n):=N1.trans Yx;clear hb5 QT N1;have x:=fk (H4.facts);unfold nT;go_wp2_with fail;have HR:=aS (H4.all 2 (aA m3));have hin:lY (·≠w.heap.size+1+1) m3:=hfr.inn.mono fun b(hb:V4.heap.size≤b)=>jS;have G6:=aS (jY.lp hin (aA m3) 0 uH);refine kw (fun V=>jY V V m3) HR G6 (fun V9 H9 nZ=>?_);have hfr2:=hfr.mono (B':=w.heap.size) jS;have hq:=fk (H9.at_ 2);clear x HR G6 hin hfr H4;refine jF (v:=.tuple #[.agg (aB m3),jJ 0]) (by simp[results,Tryz.results95,go_sem,hq]) rfl ?_;exact⟨m3,Fk,rfl,nZ,hfr2,H9.below⟩
theorem ES(m:SkM)(hG:GK m.s)(T:jH)(v:jD)(fn:Nat)(c:Int)(hc:IntKind.i64.wrap (c+16)=c+16)(hp:(T=294∧fn=285)∨(T=297∧fn=314)∨(T=298∧fn=324)∨(T=300∧fn=343))(hb:kK m=.iface T v)(w:jC)(hm:jY w w m)(hcall:∀w',Below w w w'→jE Tryz.prog fn #[v] w' fun e w''=>e=.returned (.int .i64 c)∧Below w' w' w''):
 jE Tryz.prog 100 #[nT m] w fun e w'=>e=.returned (.int .i64 (c+16))∧Below w w w':=by
 have QO:(lI 9 w m):=fun w' h=>vu m hG.right w' (hm.later h) hG.fit
 have QC:=ah hcall
 have hmm:∀(x:jD)(w:jC),(gz 640 T x "aviary/ladder.cost").run Tryz.prog w=.ok (fn,x) w:=by rcases hp with⟨rfl,rfl⟩|⟨rfl,rfl⟩|⟨rfl,rfl⟩|⟨rfl,rfl⟩<;>exact fun _ _=>oo
 clear hm hcall
 go_in
 unfold nT at*
 go_wp2_with fail
 refine kf (fun _=>True) ((Hold.nil w).alloc w 136 (aA m)) trivial (fun V HV _=>?_)
 refine(QO V HV.below).mono ?_
 rintro e w1⟨rfl,hb1⟩
 replace HV:=ah (HV.call hb1)
 have ew:jT m=.agg #[.iface T v,jJ m.s.kind,jJ m.s.level]:=by rw[jT,hb]
 rw[ew]
 clear hb1 QO ew hb
 rcases hp with⟨rfl,rfl⟩|⟨rfl,rfl⟩|⟨rfl,rfl⟩|⟨rfl,rfl⟩
 all_goals
  go_wp2_with fail;refine(QC _ (HV.al _).below).mono ?_;rintro e w3⟨rfl,hb3⟩;have nu:=((HV.al _).call hb3).below;go_wp2;go_ret;exact⟨rfl,nu⟩
theorem MG(m:SkM)(hG:GK m.s)(T:jH)(v:jD)(fn:Nat)(c:Int)(h:Int)(hp:(T=294∧fn=284)∨(T=297∧fn=313)∨(T=298∧fn=323)∨(T=300∧fn=342))(hb:kK m=.iface T v)(w:jC)(hm:jY w w m)(hcall:∀w',Below w w w'→jE Tryz.prog fn #[v,jK h] w' fun e w''=>e=.returned (.int .u64 c)∧Below w' w' w''):
 jE Tryz.prog 60 #[nT m,jK h] w fun e w'=>e=.returned (.int .u64 c)∧Below w w w':=by
 have QO:(lI 9 w m):=fun w' h=>vu m hG.right w' (hm.later h) hG.fit
 have QC:=ah hcall
 have hmm:∀(x:jD)(w:jC),(gz 640 T x "aviary/ladder.ask").run Tryz.prog w=.ok (fn,x) w:=by rcases hp with⟨rfl,rfl⟩|⟨rfl,rfl⟩|⟨rfl,rfl⟩|⟨rfl,rfl⟩<;>exact fun _ _=>oo
 clear hm hcall
 go_in
 unfold nT at*
 go_wp2_with fail
 refine kf (fun _=>True) ((Hold.nil w).alloc w 136 (aA m)) trivial (fun V HV _=>?_)
 refine(QO V HV.below).mono ?_
 rintro e w1⟨rfl,hb1⟩
 replace HV:=ah (HV.call hb1)
 have ew:jT m=.agg #[.iface T v,jJ m.s.kind,jJ m.s.level]:=by rw[jT,hb]
 rw[ew]
 clear hb1 QO ew hb
 rcases hp with⟨rfl,rfl⟩|⟨rfl,rfl⟩|⟨rfl,rfl⟩|⟨rfl,rfl⟩
 all_goals
  go_wp2_with fail;refine(QC _ (HV.al _).below).mono ?_;rintro e w3⟨rfl,hb3⟩;have nu:=((HV.al _).call hb3).below;go_wp2;go_ret;exact⟨rfl,nu⟩
theorem NJ(m:SkM)(hG:GK m.s)(w:jC)(hm:jY w w m):jE Tryz.prog 100 #[nT m] w fun e w'=>e=.returned (.int .i64 (wM m.s+16))∧Below w w w':=by
 have hm2:=hm;have hf:=hG.fit;have hG2:=hG;obtain⟨s,ea,ec,ca,cc,ga,gc⟩:=m;simp only at hG hf
 cases hG with
 |num e hr hu=>
  have hl:=hf.e;exact ES _ hG2 294 _ 285 (8*(e.length:Int)) (dv _ (by simp only at hl;omega)) (.inl ⟨rfl,rfl⟩) rfl w hm2 fun w' _=>Gl ea e ec hl w'
 |reg b l h4 h7 hr=>
  have hl:=hf.regs;have h0:¬((8:Int)-b=0):=jS;have e1:wM (lI 14 b l)=((Hl.bs l).size:Int):=by simp[wM,h0]
  simp only[e1];exact ES _ hG2 297 _ 314 ((Hl.bs l).size:Int) (dv _ (by simp only at hl;omega)) (.inr (.inl ⟨rfl,rfl⟩)) (by simp[kK,hV,h0]) w hm2 fun w' _=>Gd b (Hl.bs l) hl w'
 |cnt lv C c h3 hC hr hu=>
  have hl:=hf.c;exact ES _ hG2 298 _ 324 (8*(c.length:Int)) (dv _ (by simp only at hl;omega)) (.inr (.inr (.inl ⟨rfl,rfl⟩))) rfl w hm2 fun w' _=>Ii 2 C ca c cc hl w'
 |zB lv g h3 hr hu=>
  have hl:=hf.g;exact ES _ hG2 300 _ 343 (16*(g.length:Int)) (dv _ (by simp only at hl;omega)) (.inr (.inr (.inr ⟨rfl,rfl⟩))) rfl w hm2 fun w' _=>Iq (3-lv) ga g gc hl w'
theorem GO(m:SkM)(hG:GK m.s)(h:Int)(hh:U h)(w:jC)(hm:jY w w m):jE Tryz.prog 60 #[nT m,jK h] w fun e w'=>e=.returned (.int .u64 (rt m.s h))∧Below w w w':=by
 have hm2:=hm;have hf:=hG.fit;have hG2:=hG;obtain⟨s,ea,ec,ca,cc,ga,gc⟩:=m;simp only at hG hf
 cases hG with
 |num e hr hu=>exact MG _ hG2 294 _ 284 _ h (.inl ⟨rfl,rfl⟩) rfl w hm2 fun w' hb=>JT ea e ec h hf.e w' (hm.later hb).e
 |reg b l h4 h7 hr=>
  have h0:¬((8:Int)-b=0):=jS;have e1:rt (lI 14 b l) h=((Hl.vH b (lQ (Hl.bs l)):Nat):Int):=by simp[rt,h0]
  simp only[e1];exact MG _ hG2 297 _ 313 _ h (.inr (.inl ⟨rfl,rfl⟩)) (by simp[kK,hV,h0]) w hm2 fun w' _=>JG b (Hl.bs l) h w'
 |cnt lv C c h3 hC hr hu=>exact MG _ hG2 298 _ 323 _ h (.inr (.inr (.inl ⟨rfl,rfl⟩))) rfl w hm2 fun w' hb=>K7 2 C ca c cc h hh hu w' (hm.later hb).c
 |zB lv g h3 hr hu=>exact MG _ hG2 300 _ 342 _ h (.inr (.inr (.inr ⟨rfl,rfl⟩))) rfl w hm2 fun w' hb=>La (3-lv) ga g gc h hh hu hf.g w' (hm.later hb).g
attribute [local go_sem] db
theorem Fy:∀(k:Nat)(s:Sk),sW (k+1) s=mG (sW k s)
 |0,_=>rfl
 |k+1,s=>Fy k (mG s)
variable{W:jC}
theorem Nt{b off:Nat}{v:jD}(h:W.cell? ⟨b,off,none⟩=some v){o:Obj}(ho:W.heap[b]? =some o)(hc:o.isCells=false):False:=by
 obtain⟨o',h1,h2⟩:=cells_of_cell h;simp only at h1;rw[ho]at h1;cases h1;rw[hc]at h2;cases h2
variable{W':jC}{A:Option jG}{xs:List jD}{row:Option Nat}
theorem D9(h:Rd W W A xs)(hg:W.grownBy W' row)(hr:∀r,row=some r→(aH W r)):Rd W' W' A xs:=fun hx=>by
 obtain⟨b,off,e,hb,hc⟩:=h hx;refine⟨b,off,e,cn hb hg.size,fun j v hj=>(co (hg.block b hb fun e2=>?_)).trans (hc j v hj)⟩;obtain⟨o,h1,h2⟩:=hr b e2.symm;exact Nt (hc j v hj) h1 h2
theorem jY.kept{m:SkM}(h:jY W W m)(hg:W.grownBy W' row)(hr:∀r,row=some r→(aH W r)):jY W' W' m:=
 ⟨D9 h.e hg hr,D9 h.c hg hr,D9 h.g hg hr⟩
theorem Hold.kept{w0 W W':jC}{bs:List (Nat×jH×List jD)}{row:Option Nat}(h:Hold w0 W bs)(hg:W.grownBy W' row)(hr:∀r,row=some r→w0.heap.size≤r∧(aH W r)):Hold w0 W' bs:=
 ⟨h.below.grown hg h.size fun r e=>(hr r e).1,fun b hm=>⟨(h.blk b hm).1,(h.blk b hm).2.kept hg fun r e=>(hr r e).2⟩,h.apart⟩
theorem GQ(h:Below W W W'):bj4 W W':=⟨h.size,fun k o hk _=>(h.block k (aw.1 hk).1).trans hk⟩
variable{P:bi3}{a:Act}
theorem NY{w0:jC}{bs:List (Nat×jH×List jD)}{F:Fence}{n:Nat}{fn:Func}{R:bi6→jC→Prop}{x:bk7}(G:jC→Prop)(H:Hold w0 W bs)(h:G W)(k:∀V,Hid (Hold w0 V bs)→G V→bodyPostM F n P fn R x a V):bodyPostM F n P fn R x a W:=k W (ah H) h
theorem yC{c:bk9}{K:Act→jC→Prop}{X:bk7→Act→jC→Prop}{w:jC}(h:c.wp P (Exit.then K fun _ _ _=>False) a w):c.wp P (Exit.then K X) a w:=jg (fun e a w h=>by cases e<;>first|exact h|exact h.elim) h
def Yg(w:jC)(lo B eb:Nat)(s:Sk)(kd L:Int)(lv:Int)(k:Nat)(W:jC):Prop:=
 ∃(m:SkM)(T:jH)(v:jD),m.s=sW k s∧kK m=.iface T v∧jY W W m∧lY (fun b=>b<lo∨B≤b) m∧Hold w W [(eb,171,[.nilIface]),(w.heap.size+1+1,169,cT),(w.heap.size+1,3,[jJ L]),(w,169,[.iface T v,jJ kd,jJ (lv+k)])]
theorem Yg.kept{w W W':jC}{lo B eb:Nat}{s:Sk}{kd L lv:Int}{k:Nat}{row:Option Nat}(h:Yg w lo B eb s kd L lv k W)(hg:W.grownBy W' row)(hr:∀r,row=some r→w.heap.size≤r∧(aH W r)):Yg w lo B eb s kd L lv k W':=by
 obtain⟨m,T,v,h1,h2,h3,h4,h5⟩:=h;exact⟨m,T,v,h1,h2,h3.kept hg (fun r e=>(hr r e).2),h4,h5.kept hg hr⟩
theorem ZG(lo:Nat)(s:Sk)(L:Int)(n:Nat)(hn:n=(L-s.level).toNat)(hl0:0≤s.level)(hl4:s.level≤4)(hL0:0≤L)(hL:L≤kn s.kind)(m:SkM)(T:jH)(v:jD)(hs:m.s=s)(hb:kK m=.iface T v)(w:jC)(hm:jY w w m)(hin:lY (·<lo) m)(hlo:lo≤w.heap.size)
 (hkl:∀k,k≤n→(sW k s).kind=s.kind∧(sW k s).level=s.level+k)
 (hlow:∀k(m:SkM) w',k<n→m.s=sW k s→jY w' w' m→jE Tryz.prog 182 #[jT m] w' (pJ lo w' (mG m.s))):
 bj2 cz 6 Tryz.prog 198 #[.agg #[.iface T v,jJ s.kind,jJ s.level],jJ L] w (pJ lo w (sW n s)):=by
 have HN:=ah hn
 have HL:=ah hlow
 have HKL:=ah hkl
 have hd:decide (kn s.kind<L)=false:=ag
 have l4:kn s.kind≤4:=by unfold kn;split;omega;split<;>omega
 have I4:=ah hin
 have HM:Hid (∀w',Below w w w'→jY w' w' m):=fun w' h=>hm.later h
 have HS:=ah hs
 have HB:=ah hb
 generalize s.kind=kd at*
 generalize s.level=lv at*
 clear hlow hkl hm hs hb hin hn
 refine bi7 Tryz.func198 rfl trivial ?_ rfl
 simp only[Tryz.ntmps198,xb,ao,dk]
 refine bi4.2 ?_
 go_wp2_with fail
 refine oN (fun _=>True) ((((Hold.nil w).alloc w 169 [.iface T v,jJ kd,jJ lv]).alloc (w.heap.size+1) 3 [jJ L]).alloc (aN w) 169 cT) trivial (fun V HV _=>?_)
 have x:=fk (HV.facts)
 replace HV:=ah HV.drew
 go_step3
 go_wp2_with fail
 refine yC ?_
 go_region_held(fun w'=>w'.cell? (aE w)=some (.int .i64 L)∧w'.cell? ⟨w,1,none⟩=some (.int .i64 kd)) (first|assumption|exact⟨x.2.2.2.2.2.1,x.2.2.2.2.2.2.2.2.1⟩|go_keep) ((go_at_call 112;refine(qI _ _).mono ?_;rintro r _⟨rfl,rfl⟩))
 generalize V.drew=V1 at*
 clear x
 go_wp2_with fail
 refine oN (fun _=>True) (HV.alloc V1 171 [.nilIface] rfl) trivial (fun V2 H2 _=>?_)
 have hz:w.heap.size+1+1<V1.heap.size:=(HV.blk _ ab).2.lt
 clear HV
 generalize V1.heap.size=eb at*
 have x:=fk (H2.facts)
 go_step3
 go_wp2_with fail
 refine(Kc lv _).mono ?_
 rintro e _⟨rfl,rfl⟩
 go_wp2_with fail
 refine oN (fun W=>jR W V2 3 #[jJ lv]) (H2.al (.cells #[jJ lv] 3)) (jR.new V2 _ _) (fun V3 H3 hB3=>?_)
 have hz2:eb<V2.heap.size:=x.1
 clear x H2
 generalize V2.heap.size=gb at*
 have hz3:=hB3.lt
 refine(bi4 (n:=6)).1 ?_
 have hI0:Yg w lo V3.heap.size eb s kd L lv 0 V3:=⟨m,T,v,HS.out,HB.out,HM.out _ H3.out.below,I4.out.mono fun b hb=>.inl hb,by simpa using H3.out⟩
 refine yA (α:=Int) (q:=fun _=>False) (N:=n+1) (Bd:=fun pre=>pre.length≤n) (Nx:=fun pre x=>x=lv+pre.length) rfl (by omega) (gf:=258) (lb:=#[jO gb]) rfl trivial (enters_of Tryz.func258 (by kernel_rfl) rfl)
  (Kb 5 n gb (by omega) lv hl0 (by omega) (by have:=HN.out;omega) V3 hz3 hB3)
  (fun _ _=>trivial) (fun _ _ _ _ _ _ _ _=>trivial) (Below.refl _ _) (fun _=>rfl) (fun r h=>h.elim)
  (fun pre W=>Yg w lo V3 eb s kd L lv pre.length W∧pre.length≤n) (fun c pre W=>c=.exit 0∧Yg w lo V3 eb s kd L lv n W)
  (fun pre A B row h hg hr=>⟨h.1.kept hg fun r e=>⟨by have:=(hr r e).1;have:=H3.size;omega,(hr r e).2⟩,h.2⟩) (fun c pre A B row h hg hr=>⟨h.1,h.2.kept hg fun r e=>⟨by have:=(hr r e).1;have:=H3.size;omega,(hr r e).2⟩⟩) (fun _ _ _ _ _ _ h=>h.elim) (fun _ _ _ _ _ _ _ h=>h.elim) (fun pre W h=>h.2) ⟨hI0,be _⟩
  (fun x=>{tmps:=#[.agg #[.iface T v,.int .i64 kd,.int .i64 lv],.int .i64 L,aV w,.pointer (some (aE w)),.pointer (some (aG w)),.nilIface,.pointer (aC eb),.int .i64 x,.int .i64 L,.pointer (some ⟨w.heap.size,1,none⟩),.int .i64 kd,.int .i64 (kn kd),.bool false,undef,undef,undef,undef,.pointer (some ⟨w.heap.size,2,none⟩),.int .i64 lv,.func (.func 258) #[] #[.pointer (aC gb)],.int .i64 x,undef,undef,undef,undef,undef,undef,undef,undef,undef,undef,undef,undef,undef,undef],defers:=[]})
  ?assign ?body ?done ?stop
 case assign=>
  intro l x W K hK;gi_wp2;exact hK
 case done=>exact fun _ _ _ _ h=>h.elim
 case body=>
  rintro l' pre x W⟨⟨m1,T1,v1,hm1,hb1,hok1,hin1,hH⟩,hk⟩ hsz hlt rfl;have H:=ah hH;have HB1:=ah hb1;have DG:=ah hm1;obtain⟨k1,k2⟩:=HKL pre.length hk;have ew:jT m1=.agg #[.iface T1 v1,jJ kd,jJ (lv+(pre.length:Int))]:=by rw[jT,hb1,hm1,k1,k2]
  have xx:=fk (H.facts);have hlen:(pre++[lv+(pre.length:Int)]).length=pre.length+1:=lV;have Zb:=H3.size;clear hH hI0 hb1 hm1;by_cases hkn:pre.length=n
  ·have d1:decide (L≤lv+(pre.length:Int))=true:=decide_eq_true (by have:=HN.out;omega);have hI1:Yg w lo V3 eb s kd L lv n W:=⟨m1,T1,v1,hkn▸DG,HB1,hok1,hin1,by rw[←hkn];exact H⟩;clear ew k1 k2 hkn hok1 hin1;gi_wp2_with fail;exact⟨gq _,rfl,hI1⟩
  have d1:decide (L≤lv+(pre.length:Int))=false:=decide_eq_false (by have:=HN.out;omega);obtain⟨q1,q2⟩:=HKL (pre.length+1) jS;have QL:=ah (HL pre.length m1 W (by omega) DG hok1);rw[ew]at QL;clear ew k1 k2;gi_wp2_with fail;refine⟨trivial,?_⟩;refine(d_ l' (jI.2 QL.out)).mono ?_;rintro e w4⟨m2,hm2,rfl,hok2,hin2,hb4⟩;have N1:m2.s=sW (pre.length+1) s:=by rw[hm2,DG,Fy]
  obtain⟨T2,v2,hbv⟩:=kv m2;have Fh:jT m2=.agg #[.iface T2 v2,jJ kd,jJ (lv+((pre.length+1:Nat):Int))]:=by rw[jT,hbv,N1,q1,q2]
  rw[Fh];have HK:=ah (GQ hb4);replace H:=ah (H.call hb4);have Yx:=ah N1;have HB2:=ah hbv;clear hb4 QL Fh hm2 N1 hbv xx q1 q2 hok1;have xx:=fk (H.facts);gi_wp2_with fail;have HR:=aS ((H.all 3 [.iface T2 v2,jJ kd,jJ (lv+((pre.length:Int)+1))]).put 0 0 .nilIface);have Xw:=hin2.mono (q:=fun b=>b<lo∨V3.heap.size≤b) fun b hb=>jS;have xM:=aS ((jY.lp (g:=w.heap.size) (Xw.mono fun b hb=>jS) [.iface T2 v2,jJ kd,jJ (lv+((pre.length:Int)+1))] 0 hok2).put (g:=eb) (i:=0) (v:=.nilIface) (Xw.mono fun b hb=>jS));refine⟨HK.trans ((((b7 _ _ _).trans (b7 _ _ _)).trans (b7 _ _ _)).trans (b7 _ _ _)),trivial,⟨m2,T2,v2,by rw[hlen];exact Yx,HB2,xM,Xw,?_⟩,by rw[hlen];omega⟩;rw[hlen,show((pre.length+1:Nat):Int)=(pre.length:Int)+1 by omega];exact HR
 rintro D c' pre W hD-⟨rfl,m1,T1,v1,hm1,hb1,hok1,hin1,hH⟩ hK
 have H:=ah hH
 have HB1:=ah hb1
 have DG:=ah hm1
 have HD:=ah hK
 have Zb:=H3.size
 have xx:=fk (H.facts)
 obtain⟨k1,k2⟩:=HKL n aa
 have ew:jT m1=.agg #[.iface T1 v1,jJ kd,jJ (lv+(n:Int))]:=by rw[jT,hb1,hm1,k1,k2]
 have HW:=ah ew
 clear hH hI0 hb1 hm1 hK ew k1 k2
 refine bi4.2 ?_
 go_wp2_with fail
 have H0:=H
 replace H:=ah H.drew
 refine yC ?_
 go_region_held(fun w'=>w'.cell? ⟨w,0,none⟩=some (.iface T1 v1)∧w'.cell? ⟨w,1,none⟩=some (.int .i64 kd)∧w'.cell? ⟨w,2,none⟩=some (.int .i64 (lv+(n:Int)))∧w'.cell? ⟨eb,0,none⟩=some .nilIface) (first|assumption|(have y:=H.facts;simp only[Facts,kz,au,ao,and_true]at y;exact⟨y.2.2.2.2.2.2.2.2.2.2.2.1,y.2.2.2.2.2.2.2.2.2.2.2.2.1,y.2.2.2.2.2.2.2.2.2.2.2.2.2,y.2.2.1⟩)|(have y:=(H.all 1 [.iface T1 v1,jJ kd,jJ (lv+(n:Int))]).facts;simp only[lp,ak,am,Facts,kz,au,ao,and_true]at y;exact⟨y.2.2.2.2.2.2.2.2.2.2.2.1,y.2.2.2.2.2.2.2.2.2.2.2.2.1,y.2.2.2.2.2.2.2.2.2.2.2.2.2,y.2.2.1⟩)) (fail)
 have HR:=aS ((H0.all 1 [.iface T1 v1,jJ kd,jJ (lv+(n:Int))]).drew)
 have rm:=aS (jY.lp (g:=w.heap.size+1+1) (hin1.mono fun b hb=>jS) [.iface T1 v1,jJ kd,jJ (lv+(n:Int))] 0 hok1)
 have hne:D≠w.heap.size+1+1:=jS
 clear xx H H0 hok1
 go_wp2
 try rw[cf]
 refine NY (fun V=>jY V V m1∧V.heap[D]? =some (aY)) HR ⟨⟨rm.e,rm.c,rm.g⟩,((Below.heap_setCell _ ⟨w.heap.size+1+1,2,none⟩ _ D hne).trans ((Below.heap_setCell _ (bZ w) _ D hne).trans (Below.heap_setCell W (aG w) _ D hne))).trans HD⟩ (fun V H9 hV=>?_)
 clear HR rm
 obtain⟨nZ,hD9⟩:=hV
 have hrow:∀r,some D=some r→w.heap.size≤r∧(aH V r):=fun r e=>by cases e;exact⟨jS,_,hD9,rfl⟩
 refine⟨lV,.inl ⟨_,_,rfl,bi2 hD9,?_⟩⟩
 have H10:=H9.kept (bj5 V D cJ) hrow
 have aa1:=nZ.kept (bj5 V D cJ) fun r e=>(hrow r e).2
 have hq:=fk (H10.at_ 1)
 exact⟨.tuple #[.agg #[.iface T1 v1,jJ kd,jJ (lv+(n:Int))],.nilIface],by simp[results,Tryz.results198,go_sem,hq],m1,DG,by rw[HW],aa1,hin1.mono fun b hb=>jS,H10.below⟩
theorem LC(lo:Nat)(m:SkM)(hG:GK m.s)(L:Int)(hL0:0≤L)(hL:L≤kn m.s.kind)(w:jC)(hm:jY w w m)(hin:lY (·<lo) m)(hlo:lo≤w.heap.size):
 jE Tryz.prog 198 #[jT m,jJ L] w (pJ lo w (sW (L-m.s.level).toNat m.s)):=by
 obtain⟨T,v,hb⟩:=kv m
 obtain⟨l1,l2,_,_⟩:=sI hG
 have l4:kn m.s.kind≤4:=by unfold kn;split;omega;split<;>omega
 have ew:jT m=.agg #[.iface T v,jJ m.s.kind,jJ m.s.level]:=by rw[jT,hb]
 rw[ew]
 have hle:∀k,k≤(L-m.s.level).toNat→m.s.level+k≤kn m.s.kind:=fun k hk=>by
  rcases fM k with rfl|h
  ·simpa using l2
  omega
 refine jI.1 (ZG lo m.s L _ rfl l1 jS hL0 hL m T v rfl hb w hm hin hlo (fun k hk=>(Jd k hG (hle k hk)).2) fun k m2 w' hk hs hok=>?_)
 obtain⟨g1,g2,g3⟩:=Jd k hG (hle k jS)
 rw[←hs]at g1 g2 g3
 exact Em m2 g1 (by rw[g2,g3];omega) lo w' hok
theorem De{w0:jC}{bs:List (Nat×jH×List jD)}{md:fD}{ops:Array bk0}{Q:bk7→Act→jC→Prop}{S:jC→Prop}{fuel:Nat}{listed:Array Bool}(F:jC→Prop)(H:Hold w0 W bs)(h:F W)(k:∀V,Hid (Hold w0 V bs)→F V→wpAnyH P md ops Q S fuel listed a V):wpAnyH P md ops Q S fuel listed a W:=k W (ah H) h
def DI(lo:Nat)(w:jC)(s t:Sk)(e:bi6)(w':jC):Prop:=∃m p:SkM,m.s=s∧p.s=t∧e=.returned (.tuple #[jT m,jT p,.nilIface])∧jY w' w' m∧jY w' w' p∧lY (fun b=>b<lo∨w.heap.size≤b) m∧lY (fun b=>b<lo∨w.heap.size≤b) p∧Below w w w'
theorem Hv(lo:Nat)(m p:SkM)(hG:GK m.s)(N3:GK p.s)(L:Int)(hL0:0≤L)(hL:L≤kn m.s.kind)(hLp:L≤kn p.s.kind)(w:jC)(hm:jY w w m)(hp:jY w w p)(hin:lY (·<lo) m)(uI:lY (·<lo) p)(hlo:lo≤w.heap.size):
 jE Tryz.prog 155 #[jT m,jT p,jJ L] w (DI lo w (sW (L-m.s.level).toNat m.s) (sW (L-p.s.level).toNat p.s)):=by
 have Q1:Hid (∀w',Below w w w'→jE Tryz.prog 198 #[jT m,jJ L] w' (pJ lo w' (sW (L-m.s.level).toNat m.s))):=fun w' h=>LC lo m hG L hL0 hL w' (hm.later h) hin (by have:=h.size;omega)
 have Q2:Hid (∀w',Below w w w'→jE Tryz.prog 198 #[jT p,jJ L] w' (pJ lo w' (sW (L-p.s.level).toNat p.s))):=fun w' h=>LC lo p N3 L hL0 hLp w' (hp.later h) uI (by have:=h.size;omega)
 obtain⟨T,v,hb⟩:=kv m
 obtain⟨Tp,vp,hbp⟩:=kv p
 generalize sW (L-m.s.level).toNat m.s=s1 at*
 generalize sW (L-p.s.level).toNat p.s=s2 at*
 unfold jT at Q1 Q2⊢
 rw[hb]at Q1⊢
 rw[hbp]at Q2⊢
 clear hm hp hin uI hG N3 hL hLp hL0 hb hbp
 go_in
 go_wp2_with fail
 refine kf (fun _=>True) (((((Hold.nil w).alloc w 169 [.iface T v,jJ m.s.kind,jJ m.s.level]).alloc (w.heap.size+1) 169 [.iface Tp vp,jJ p.s.kind,jJ p.s.level]).alloc (aN w) 169 cT).alloc (cC w) 169 cT) trivial (fun V HV _=>?_)
 have hz:w.heap.size+1+1+1<V.heap.size:=(HV.blk _ ab).2.lt
 refine(Q1 V HV.below).mono ?_
 rintro e w1⟨m1,hm1,rfl,hok1,hin1,hb1⟩
 replace HV:=ah (HV.call hb1)
 obtain⟨T1,v1,ab9⟩:=kv m1
 have KJ:jT m1=.agg #[.iface T1 v1,jJ m1.s.kind,jJ m1.s.level]:=by rw[jT,ab9]
 rw[KJ]
 subst hm1
 have uL:=ah KJ
 clear hb1 Q1 KJ ab9
 have x:=fk (HV.facts)
 go_wp2_with fail
 have HR:=aS (HV.all 3 [.iface T1 v1,jJ m1.s.kind,jJ m1.s.level])
 have uY:=hin1.mono (q:=fun b=>b<lo∨w.heap.size+1+1+1<b) fun b hb=>jS
 have hok2:=aS (jY.lp (g:=w.heap.size) (uY.mono fun b hb=>jS) [.iface T1 v1,jJ m1.s.kind,jJ m1.s.level] 0 hok1)
 refine kf (fun V=>jY V V m1) HR hok2 (fun V2 H2 Ks=>?_)
 clear x HR HV hok2 hok1
 have hz2:w.heap.size+1+1+1<V2.heap.size:=(H2.blk _ ab).2.lt
 refine(Q2 V2 H2.below).mono ?_
 rintro e w3⟨p1,hp1,rfl,wA,uI,hb3⟩
 replace H2:=ah (H2.call hb3)
 replace Ks:=Ks.later hb3
 obtain⟨T2,v2,ab8⟩:=kv p1
 have Fh:jT p1=.agg #[.iface T2 v2,jJ p1.s.kind,jJ p1.s.level]:=by rw[jT,ab8]
 rw[Fh]
 subst hp1
 have HE2:=ah Fh
 clear hb3 Q2 Fh ab8
 have x:=fk (H2.facts)
 go_wp2_with fail
 have HR:=aS (H2.all 2 [.iface T2 v2,jJ p1.s.kind,jJ p1.s.level])
 have wB:=uI.mono (q:=fun b=>b<lo∨w.heap.size+1+1+1<b) fun b hb=>jS
 have xM:=aS (jY.lp (g:=w.heap.size+1) (wB.mono fun b hb=>jS) [.iface T2 v2,jJ p1.s.kind,jJ p1.s.level] 0 wA)
 have rm:=aS (jY.lp (g:=w.heap.size+1) (uY.mono fun b hb=>jS) [.iface T2 v2,jJ p1.s.kind,jJ p1.s.level] 0 Ks)
 refine oN (fun V=>jY V V m1∧jY V V p1) HR ⟨rm,xM⟩ (fun V4 H4 AP=>?_)
 have hk1:jY V4.drew V4.drew.heap.size m1:=⟨AP.1.e,AP.1.c,AP.1.g⟩
 have hk2:jY V4.drew V4.drew.heap.size p1:=⟨AP.2.e,AP.2.c,AP.2.g⟩
 have H5:=ah H4.drew
 clear x HR H2 Ks xM rm wA AP H4
 have y:=fk (H5.at_ 3)
 have z:=fk (H5.at_ 2)
 refine bi1 (S:=fun w'=>w'.cell? ⟨w,0,none⟩=some (.iface T1 v1)∧w'.cell? ⟨w,1,none⟩=some (.int .i64 m1.s.kind)∧w'.cell? ⟨w,2,none⟩=some (.int .i64 m1.s.level)∧w'.cell? (aE w)=some (.iface T2 v2)∧w'.cell? (bS w)=some (.int .i64 p1.s.kind)∧w'.cell? (bW w)=some (.int .i64 p1.s.level)) oo ⟨y.1,y.2.1,y.2.2,z⟩ (fun hHeld=>?_)
 generalize V4.drew=V5 at*
 refine re hHeld ?_
 clear y z hHeld
 have x:=fk (H5.at_ 1)
 have fz:∀i,V5.frozen? ⟨w.heap.size+1+1,i,none⟩=false:=(H5.blk _ (ac 1)).2.frozen
 refine pL 3 fun K0 hK=>?_
 go_simp
 have HR:=H5.all 1 [.iface T1 v1,jJ m1.s.kind,jJ m1.s.level]
 have rm:=jY.lp (g:=w.heap.size+1+1) (uY.mono fun b hb=>jS) [.iface T1 v1,jJ m1.s.kind,jJ m1.s.level] 0 hk1
 have uH:=jY.lp (g:=w.heap.size+1+1) (wB.mono fun b hb=>jS) [.iface T1 v1,jJ m1.s.kind,jJ m1.s.level] 0 hk2
 have y:=HR.at_ 3
 have z:=HR.at_ 2
 simp only[lp,ak,am,kz,au,ao,and_true]at HR rm uH y z
 refine hK.out _ _ ⟨y.1,y.2.1,y.2.2,z⟩ (fun _=>?_)
 refine az ?_
 refine De (fun V=>jY V V m1∧jY V V p1) HR ⟨rm,uH⟩ (fun V6 H6 hV=>?_)
 obtain⟨hk3,hk4⟩:=hV
 clear x fz HR rm uH y z hK K0
 have x:=fk (H6.at_ 0)
 have fz:∀i,V6.frozen? ⟨cC w,i,none⟩=false:=(H6.blk _ (ac 0)).2.frozen
 refine pL 4 fun K0 hK=>?_
 go_simp
 have HR:=H6.all 0 [.iface T2 v2,jJ p1.s.kind,jJ p1.s.level]
 have rm:=jY.lp (g:=(cC w)) (uY.mono fun b hb=>jS) [.iface T2 v2,jJ p1.s.kind,jJ p1.s.level] 0 hk3
 have uH:=jY.lp (g:=(cC w)) (wB.mono fun b hb=>jS) [.iface T2 v2,jJ p1.s.kind,jJ p1.s.level] 0 hk4
 have y:=HR.at_ 3
 have z:=HR.at_ 2
 simp only[lp,ak,am,kz,au,ao,and_true]at HR rm uH y z
 refine hK.out _ _ ⟨y.1,y.2.1,y.2.2,z⟩ (fun _=>?_)
 refine az ?_
 refine De (fun V=>jY V V m1∧jY V V p1) HR ⟨rm,uH⟩ (fun V7 H7 hV=>?_)
 obtain⟨hk5,hk6⟩:=hV
 clear x fz HR rm uH y z hK K0
 have y:=fk (H7.at_ 3)
 have z:=fk (H7.at_ 2)
 refine pL 5 fun K0 hK=>?_
 go_simp
 refine hK.out _ _ ⟨y.1,y.2.1,y.2.2,z⟩ (fun _=>?_)
 refine az ?_
 clear hK K0 y z
 refine hdn ?_
 go_wp2_with fail
 have hq:=fk (H7.at_ 1)
 have hr:=fk (H7.at_ 0)
 refine jF (v:=.tuple #[.agg #[.iface T1 v1,jJ m1.s.kind,jJ m1.s.level],.agg #[.iface T2 v2,jJ p1.s.kind,jJ p1.s.level],.nilIface]) (by simp[results,Tryz.results155,go_sem,hq,hr]) rfl ?_
 exact⟨m1,p1,rfl,rfl,by rw[uL,HE2],hk5,hk6,hin1.mono fun b hb=>jS,uI.mono fun b hb=>jS,H7.below⟩
theorem lY.empty{p:Nat→Prop}{m:SkM}(h:m.s.e=[]∧m.s.c=[]∧m.s.g=[]):lY p m:=⟨fun x=>absurd h.1 x,fun x=>absurd h.2.1 x,fun x=>absurd h.2.2 x⟩
theorem wk(lo:Nat)(m p:SkM)(hk:m.s.kind=p.s.kind)(a b s':Sk)(h1:s'.kind=a.kind)(h2:s'.level=a.level)(T:jH)(fn:Nat)(hp:(T=294∧fn=287)∨(T=297∧fn=316)∨(T=298∧fn=326)∨(T=300∧fn=345))(w:jC)(hlo:lo≤w.heap.size)
 (G8:∀w',Below w w w'→jE Tryz.prog 155 #[jT m,jT p,jJ (max m.s.level p.s.level)] w' (DI lo w' a b))
 (hT:∀m1:SkM,m1.s=a→∃v,kK m1=.iface T v)
 (Ri:∀(m1 p1:SkM)(v:jD) w',m1.s=a→p1.s=b→kK m1=.iface T v→jY w' w' m1→jY w' w' p1→jE Tryz.prog fn #[v,kK p1] w' (oW w' s')):
 jE Tryz.prog 110 #[jT m,jT p] w (pJ lo w s'):=by
 have Q1:=ah G8
 have HT:=ah hT
 have HQ:=ah Ri
 have HE:Hid (s'.kind=a.kind∧s'.level=a.level):=⟨h1,h2⟩
 have hmm:∀(x:jD)(w:jC),(gz 640 T x "aviary/ladder.merge").run Tryz.prog w=.ok (fn,x) w:=by rcases hp with⟨rfl,rfl⟩|⟨rfl,rfl⟩|⟨rfl,rfl⟩|⟨rfl,rfl⟩<;>exact fun _ _=>oo
 clear G8 hT Ri h1 h2
 obtain⟨T0,v0,hb0⟩:=kv m
 obtain⟨Tp0,vp0,Rs⟩:=kv p
 unfold jT at Q1⊢
 rw[hb0,Rs]at Q1⊢
 rw[←hk]at Q1⊢
 clear hb0 Rs hk
 go_in
 go_wp2_with fail
 refine kf (fun _=>True) ((((Hold.nil w).alloc w 169 [.iface T0 v0,jJ m.s.kind,jJ m.s.level]).alloc (w.heap.size+1) 169 [.iface Tp0 vp0,jJ m.s.kind,jJ p.s.level]).alloc (aN w) 169 cT) trivial (fun V HV _=>?_)
 have x:=fk (HV.facts)
 refine(Q1 V HV.below).mono ?_
 rintro e w1⟨m1,p1,hm1,hp1,rfl,hok1,wA,hin1,uI,hb1⟩
 have hz:w.heap.size+1+1<V.heap.size:=x.1
 replace HV:=ah (HV.call hb1)
 obtain⟨Tb,vb,hb2⟩:=kv p1
 obtain⟨va,hb3⟩:=HT m1 hm1
 have KJ:jT m1=.agg #[.iface T va,jJ m1.s.kind,jJ m1.s.level]:=by rw[jT,hb3]
 have Fh:jT p1=.agg #[.iface Tb vb,jJ p1.s.kind,jJ p1.s.level]:=by rw[jT,hb2]
 rw[KJ,Fh]
 clear hb1 Q1 KJ Fh x
 have x:=fk (HV.facts)
 have HR:=aS ((HV.all 2 [.iface T va,jJ m1.s.kind,jJ m1.s.level]).all 1 [.iface Tb vb,jJ p1.s.kind,jJ p1.s.level])
 have uY:=hin1.mono (q:=fun b=>b<lo∨w.heap.size+1+1<b) fun b hb=>jS
 have wB:=uI.mono (q:=fun b=>b<lo∨w.heap.size+1+1<b) fun b hb=>jS
 have hk1:=aS (jY.lp (g:=w.heap.size+1) (uY.mono fun b hb=>jS) [.iface Tb vb,jJ p1.s.kind,jJ p1.s.level] 0 (jY.lp (g:=w.heap.size) (uY.mono fun b hb=>jS) [.iface T va,jJ m1.s.kind,jJ m1.s.level] 0 hok1))
 have hk2:=aS (jY.lp (g:=w.heap.size+1) (wB.mono fun b hb=>jS) [.iface Tb vb,jJ p1.s.kind,jJ p1.s.level] 0 (jY.lp (g:=w.heap.size) (wB.mono fun b hb=>jS) [.iface T va,jJ m1.s.kind,jJ m1.s.level] 0 wA))
 have HM:Hid (m1.s=a):=hm1
 have QM:Hid (∀w',jY w' w' m1→jY w' w' p1→jE Tryz.prog fn #[va,.iface Tb vb] w' (oW w' s')):=fun w' h h'=>by have:=HQ m1 p1 va w' hm1 hp1 hb3 h h';rwa[hb2]at this
 clear hm1 hp1 hb3 HQ HT hb2
 rcases hp with⟨rfl,rfl⟩|⟨rfl,rfl⟩|⟨rfl,rfl⟩|⟨rfl,rfl⟩
 all_goals
  go_wp2_with fail;refine kf (fun V=>jY V V m1∧jY V V p1) HR ⟨hk1,hk2⟩ (fun V4 H4 AP=>?_);obtain⟨hk3,hk4⟩:=AP;clear x HR hk1 hk2 hok1 wA HV;have x:=fk (H4.facts);refine(QM _ hk3 hk4).mono ?_;rintro e w5⟨r,hr,rfl,hokr,hfr,hb5⟩;have Rg:w.heap.size+1+1<V4.heap.size:=x.1;have hfr2:Fr (cC w) r:=hfr.mono jS;replace H4:=ah (H4.call hb5);obtain⟨Tr,vr,hbr⟩:=kv r;rw[hbr];clear hb5 QM x hk3 hk4;have x:=fk (H4.facts);go_wp2_with fail;refine(AI _).mono ?_;rintro e w6⟨rfl,hb6⟩;replace H4:=ah (H4.call hb6);replace hokr:=hokr.later hb6;clear hb6 x;have x:=fk (H4.facts);go_wp2_with fail;have HR:=aS ((H4.put 2 0 (.iface Tr vr)).all 0 [.iface Tr vr,jJ m1.s.kind,jJ m1.s.level]);have hok2:=aS (jY.lp (g:=w.heap.size+1+1) (hfr2.inn.mono fun b hb=>jS) [.iface Tr vr,jJ m1.s.kind,jJ m1.s.level] 0 (hokr.put (g:=w.heap.size) (i:=0) (v:=.iface Tr vr) (hfr2.inn.mono fun b hb=>jS)));refine kw (fun V=>jY V V r) HR hok2 (fun V9 H9 nZ=>?_);have hin2:=hfr2.inn.mono (q:=fun b=>b<lo∨w.heap.size≤b) fun b hb=>.inr jS;have hq:=fk (H9.at_ 0);clear x HR hok2;refine jF (v:=.tuple #[.agg #[.iface Tr vr,jJ m1.s.kind,jJ m1.s.level],.nilIface]) (by simp[results,Tryz.results110,go_sem,hq]) rfl ?_;exact⟨r,hr,by rw[jT,hbr,hr,HE.1,HE.2,HM],nZ,hin2,H9.below⟩
theorem Gn(lo:Nat)(m p:SkM)(hk:m.s.kind=p.s.kind)(a b a2 b2 s':Sk)(ha:a.level=0)(hz1:a2.e=[]∧a2.c=[]∧a2.g=[])(hz2:b2.e=[]∧b2.c=[]∧b2.g=[])(h1:s'.kind=a2.kind)(h2:s'.level=a2.level)(w:jC)(hE:Er w)(hlo:lo≤w.heap.size)
 (G8:∀w',Below w w w'→jE Tryz.prog 155 #[jT m,jT p,jJ (max m.s.level p.s.level)] w' (DI lo w' a b))
 (hT:∀m1:SkM,m1.s=a→∃v,kK m1=.iface 294 v)
 (hbad:∀(m1 p1:SkM)(v:jD) w',m1.s=a→p1.s=b→kK m1=.iface 294 v→jY w' w' m1→jY w' w' p1→jE Tryz.prog 287 #[v,kK p1] w' (I0 w'))
 (Rp:∀(m1 p1:SkM) w',m1.s=a→p1.s=b→jY w' w' m1→jY w' w' p1→jE Tryz.prog 155 #[jT m1,jT p1,jJ 1] w' (DI w' w' a2 b2))
 (hT2:∀m2:SkM,m2.s=a2→∃v,kK m2=.iface 297 v)
 (Ri:∀(m2 p2:SkM)(v:jD) w',m2.s=a2→p2.s=b2→kK m2=.iface 297 v→jY w' w' m2→jY w' w' p2→jE Tryz.prog 316 #[v,kK p2] w' (oW w' s')):
 jE Tryz.prog 110 #[jT m,jT p] w (pJ lo w s'):=by
 have Q1:=ah G8
 have HT:=ah hT
 have HQ:=ah hbad
 have Wp:=ah Ri
 have HEV:=ah Rp
 have HT2:=ah hT2
 have IV:=ah hE
 have HA:=ah ha
 have HZ1:=ah hz1
 have HZ2:=ah hz2
 have HE:Hid (s'.kind=a2.kind∧s'.level=a2.level):=⟨h1,h2⟩
 have mm1:∀(x:jD)(w:jC),(gz 640 294 x "aviary/ladder.merge").run Tryz.prog w=.ok (287,x) w:=fun _ _=>oo
 have mm2:∀(x:jD)(w:jC),(gz 640 297 x "aviary/ladder.merge").run Tryz.prog w=.ok (316,x) w:=fun _ _=>oo
 clear G8 hT hbad Rp hT2 Ri hE ha h1 h2 hz1 hz2
 obtain⟨T0,v0,hb0⟩:=kv m
 obtain⟨Tp0,vp0,Rs⟩:=kv p
 unfold jT at Q1⊢
 rw[hb0,Rs]at Q1⊢
 rw[←hk]at Q1⊢
 clear hb0 Rs hk
 go_in
 go_wp2_with fail
 refine kf (fun _=>True) ((((Hold.nil w).alloc w 169 [.iface T0 v0,jJ m.s.kind,jJ m.s.level]).alloc (w.heap.size+1) 169 [.iface Tp0 vp0,jJ m.s.kind,jJ p.s.level]).alloc (aN w) 169 cT) trivial (fun V HV _=>?_)
 have x:=fk (HV.facts)
 refine(Q1 V HV.below).mono ?_
 rintro e w1⟨m1,p1,hm1,hp1,rfl,hok1,wA,hin1,uI,hb1⟩
 have hz:w.heap.size+1+1<V.heap.size:=x.1
 replace HV:=ah (HV.call hb1)
 obtain⟨Tb,vb,hb2⟩:=kv p1
 obtain⟨va,hb3⟩:=HT m1 hm1
 have KJ:jT m1=.agg #[.iface 294 va,jJ m1.s.kind,jJ m1.s.level]:=by rw[jT,hb3]
 have Fh:jT p1=.agg #[.iface Tb vb,jJ p1.s.kind,jJ p1.s.level]:=by rw[jT,hb2]
 rw[KJ,Fh]
 clear hb1 Q1 KJ Fh x
 have x:=fk (HV.facts)
 have HR:=aS ((HV.all 2 [.iface 294 va,jJ m1.s.kind,jJ m1.s.level]).all 1 [.iface Tb vb,jJ p1.s.kind,jJ p1.s.level])
 have uY:=hin1.mono (q:=fun b=>b<lo∨w.heap.size+1+1<b) fun b hb=>jS
 have wB:=uI.mono (q:=fun b=>b<lo∨w.heap.size+1+1<b) fun b hb=>jS
 have hk1:=aS (jY.lp (g:=w.heap.size+1) (uY.mono fun b hb=>jS) [.iface Tb vb,jJ p1.s.kind,jJ p1.s.level] 0 (jY.lp (g:=w.heap.size) (uY.mono fun b hb=>jS) [.iface 294 va,jJ m1.s.kind,jJ m1.s.level] 0 hok1))
 have hk2:=aS (jY.lp (g:=w.heap.size+1) (wB.mono fun b hb=>jS) [.iface Tb vb,jJ p1.s.kind,jJ p1.s.level] 0 (jY.lp (g:=w.heap.size) (wB.mono fun b hb=>jS) [.iface 294 va,jJ m1.s.kind,jJ m1.s.level] 0 wA))
 have hl1:m1.s.level=0:=by rw[hm1,HA]
 have QM:Hid (∀w',jY w' w' m1→jY w' w' p1→jE Tryz.prog 287 #[va,.iface Tb vb] w' (I0 w')):=fun w' h h'=>by have:=HQ m1 p1 va w' hm1 hp1 hb3 h h';rwa[hb2]at this
 have QE:Hid (∀w',jY w' w' m1→jY w' w' p1→jE Tryz.prog 155 #[.agg #[.iface 294 va,jJ m1.s.kind,jJ 0],.agg #[.iface Tb vb,jJ p1.s.kind,jJ p1.s.level],jJ 1] w' (DI w' w' a2 b2)):=fun w' h h'=>by have:=HEV m1 p1 w' hm1 hp1 h h';rwa[jT,jT,hb2,hb3,hl1]at this
 rw[hl1]at HR hk1 hk2⊢
 clear hm1 hp1 hb3 HQ HT hb2 HEV
 go_wp2_with fail
 refine kf (fun V=>jY V V m1∧jY V V p1) HR ⟨hk1,hk2⟩ (fun V4 H4 AP=>?_)
 obtain⟨hk3,hk4⟩:=AP
 clear x HR hk1 hk2 hok1 wA HV
 refine(QM _ hk3 hk4).mono ?_
 rintro e w5⟨bf,rfl,hbf,hb5⟩
 have Rg:w.heap.size+1+1<V4.heap.size:=(H4.blk _ ab).2.lt
 replace H4:=ah (H4.call hb5)
 replace hk3:=hk3.later hb5
 replace hk4:=hk4.later hb5
 have uL:=ah (IV.later H4.below)
 have hs5:=hb5.size
 clear hb5 QM
 have x:=fk (H4.facts)
 go_wp2_with fail
 refine(Db bf _ uL hbf).mono ?_
 rintro e w6⟨rfl,hb6⟩
 replace H4:=ah (H4.call hb6)
 replace hk3:=hk3.later hb6
 replace hk4:=hk4.later hb6
 have hs6:=hb6.size
 clear hb6 x hbf
 have x:=fk (H4.facts)
 go_wp2_with fail
 refine(QE _ hk3 hk4).mono ?_
 rintro e w7⟨m2,p2,hm2,hp2,rfl,hok2,yH,hin2,aH2,hb7⟩
 replace H4:=ah (H4.call hb7)
 obtain⟨Tc,vc,hbc⟩:=kv p2
 obtain⟨YQ,hba⟩:=HT2 m2 hm2
 have KJ:jT m2=.agg #[.iface 297 YQ,jJ m2.s.kind,jJ m2.s.level]:=by rw[jT,hba]
 have Fh:jT p2=.agg #[.iface Tc vc,jJ p2.s.kind,jJ p2.s.level]:=by rw[jT,hbc]
 rw[KJ,Fh]
 have QM2:Hid (∀w',jY w' w' m2→jY w' w' p2→jE Tryz.prog 316 #[YQ,.iface Tc vc] w' (oW w' s')):=fun w' h h'=>by have:=Wp m2 p2 YQ w' hm2 hp2 hba h h';rwa[hbc]at this
 have HM:Hid (m2.s=a2):=hm2
 have HP2:Hid (p2.s=b2):=hp2
 clear hb7 QE KJ Fh x hm2 hp2 hba hbc Wp HT2 hk3 hk4
 have x:=fk (H4.facts)
 have HR:=aS ((H4.all 2 [.iface 297 YQ,jJ m2.s.kind,jJ m2.s.level]).all 1 [.iface Tc vc,jJ p2.s.kind,jJ p2.s.level])
 have hnm:∀p,lY p m2:=fun p=>lY.empty (HM▸HZ1)
 have hnp:∀p,lY p p2:=fun p=>lY.empty (HP2▸HZ2)
 have hk5:=aS (jY.lp (g:=w.heap.size+1) (hnm _) [.iface Tc vc,jJ p2.s.kind,jJ p2.s.level] 0 (jY.lp (g:=w.heap.size) (hnm _) [.iface 297 YQ,jJ m2.s.kind,jJ m2.s.level] 0 hok2))
 have hk6:=aS (jY.lp (g:=w.heap.size+1) (hnp _) [.iface Tc vc,jJ p2.s.kind,jJ p2.s.level] 0 (jY.lp (g:=w.heap.size) (hnp _) [.iface 297 YQ,jJ m2.s.kind,jJ m2.s.level] 0 yH))
 go_wp2_with fail
 refine kf (fun V=>jY V V m2∧jY V V p2) HR ⟨hk5,hk6⟩ (fun V8 H8 hV8=>?_)
 obtain⟨hk7,hk8⟩:=hV8
 have hz8:w.heap.size+1+1<V8.heap.size:=(H8.blk _ ab).2.lt
 clear x HR hk5 hk6 hok2 yH H4
 refine(QM2 _ hk7 hk8).mono ?_
 rintro e w9⟨r,hr,rfl,hokr,hfr,nu⟩
 have hfr2:Fr (cC w) r:=hfr.mono jS
 replace H8:=ah (H8.call nu)
 obtain⟨Tr,vr,hbr⟩:=kv r
 rw[hbr]
 clear nu QM2 hk7 hk8
 have x:=fk (H8.facts)
 go_wp2_with fail
 have HR:=aS ((H8.put 2 0 (.iface Tr vr)).all 0 [.iface Tr vr,jJ m2.s.kind,jJ m2.s.level])
 have Ks:=aS (jY.lp (g:=w.heap.size+1+1) (hfr2.inn.mono fun b hb=>jS) [.iface Tr vr,jJ m2.s.kind,jJ m2.s.level] 0 (hokr.put (g:=w.heap.size) (i:=0) (v:=.iface Tr vr) (hfr2.inn.mono fun b hb=>jS)))
 refine kw (fun V=>jY V V r) HR Ks (fun V9 H9 nZ=>?_)
 have hin2:=hfr2.inn.mono (q:=fun b=>b<lo∨w.heap.size≤b) fun b hb=>.inr jS
 have hq:=fk (H9.at_ 0)
 clear x HR Ks
 refine jF (v:=.tuple #[.agg #[.iface Tr vr,jJ m2.s.kind,jJ m2.s.level],.nilIface]) (by simp[results,Tryz.results110,go_sem,hq]) rfl ?_
 exact⟨r,hr,by rw[jT,hbr,hr,HE.1,HE.2,HM],nZ,hin2,H9.below⟩
theorem Hj{a b:Sk}(h:qu a b=true):a.kind=1∧a.level=0:=by simp[qu]at h;exact⟨h.1,h.2.1⟩
theorem GK.JR{s:Sk}(h:GK s)(hk:s.kind=1)(hl:s.level=0):∃e,s=(bM e)∧Ex.kg e=true∧Us e:=by
 cases h with
 |num e hr hu=>exact⟨e,rfl,hr,hu⟩
 |reg b l h4 h7 hr=>simp only at hl;omega
 |cnt=>simp at hk
 |zB=>simp at hk
theorem El(e:List Int):mG (bM e)=(lz 5 e):=by simp[mG,T7]
theorem Fs(lo:Nat)(m p:SkM)(hG:GK m.s)(N3:GK p.s)(hk:m.s.kind=p.s.kind)(w:jC)(hE:Er w)(hm:jY w w m)(hp:jY w w p)(hin:lY (·<lo) m)(uI:lY (·<lo) p)(hlo:lo≤w.heap.size):
 jE Tryz.prog 110 #[jT m,jT p] w (pJ lo w (mZ m.s p.s)):=by
 have l1:=sI hG
 have l2:=sI N3
 rw[←hk]at l2
 obtain⟨a1,a2,a3⟩:=Jd (max m.s.level p.s.level-m.s.level).toNat hG jS
 obtain⟨b1,b2,b3⟩:=Jd (max m.s.level p.s.level-p.s.level).toNat N3 (by rw[←hk];omega)
 have hev:∀w',Below w w w'→jE Tryz.prog 155 #[jT m,jT p,jJ (max m.s.level p.s.level)] w' (DI lo w' _ _):=fun w' h=>Hv lo m p hG N3 (max m.s.level p.s.level) jS jS (by rw[←hk];omega) w' (hm.later h) (hp.later h) hin uI (by have:=h.size;omega)
 have em:mZ m.s p.s=if qu (sW (max m.s.level p.s.level-m.s.level).toNat m.s) (sW (max m.s.level p.s.level-p.s.level).toNat p.s)=true then p7 (mG (sW (max m.s.level p.s.level-m.s.level).toNat m.s)) (mG (sW (max m.s.level p.s.level-p.s.level).toNat p.s))else p7 (sW (max m.s.level p.s.level-m.s.level).toNat m.s) (sW (max m.s.level p.s.level-p.s.level).toNat p.s):=rfl
 have XP:(sW (max m.s.level p.s.level-m.s.level).toNat m.s).level=(sW (max m.s.level p.s.level-p.s.level).toNat p.s).level:=by rw[a3,b3];omega
 rw[em]
 clear em
 generalize sW (max m.s.level p.s.level-m.s.level).toNat m.s=a at*
 generalize sW (max m.s.level p.s.level-p.s.level).toNat p.s=b at*
 have ek:a.kind=b.kind:=by rw[a2,b2,hk]
 clear a2 a3 b2 b3 l1 l2 hG N3 hin uI hm hp
 cases hf:qu a b with
 |true=>
  rw[if_pos rfl];obtain⟨k1,k2⟩:=Hj hf;obtain⟨e,rfl,hr,hu⟩:=a1.JR k1 k2;obtain⟨e2,rfl,hr2,hu2⟩:=b1.JR (ek▸k1) (XP▸k2);have h64:64<(Ex.kp e e2).length:=by simp[qu]at hf;exact hf
  have hrr:=pZ (B:=7) jS jS e;have Z5:=pZ (B:=7) jS jS e2;have hb1:=sR _ (Hl.kU hrr);have hb2:=sR _ (Hl.kU Z5);have em:=xH hrr Z5;rw[El,El];refine Gn lo m p hk _ _ (lz 5 e) (lz 5 e2) (p7 (lz 5 e) (lz 5 e2)) rfl ⟨rfl,rfl,rfl⟩ ⟨rfl,rfl,rfl⟩ (by simp[p7]) (by simp[p7]) w hE hlo hev ?_ ?_ ?_ ?_ ?_
  ·intro m1 h1;exact⟨eV m1,by simp[kK,h1]⟩
  ·intro m1 p1 v w' h1 h2 h3 h4 h5;obtain⟨s1,ea,ec,ca,cc,ga,gc⟩:=m1;obtain⟨s2,KR,KQ,ca2,OF,Oe,Mm⟩:=p1;simp only at h1 h2;subst h1;subst h2;have q:v=(dD ea e ec):=by simp[kK,eV]at h3;exact h3.symm
   have q2:kK ⟨bM e2,KR,KQ,ca2,OF,Oe,Mm⟩=.iface 294 (dD KR e2 KQ):=by simp[kK,eV]
   rw[q,q2];exact Ee ea e ec KR e2 KQ hr hr2 h64 w' h4.e h5.e
  ·intro m1 p1 w' h1 h2 h4 h5;have g1:GK m1.s:=by rw[h1];exact a1
   have g2:GK p1.s:=by rw[h2];exact b1
   have:=Hv w' m1 p1 g1 g2 1 jS (by rw[h1];show(1:Int)≤kn 1;decide) (by rw[h2];show(1:Int)≤kn 1;decide) w' h4 h5 h4.inn h5.inn aa;rw[h1,h2]at this;have t1:∀e,sW ((1:Int)-((bM e):Sk).level).toNat (bM e)=(lz 5 e):=fun e=>by rw[←El];rfl
   rwa[t1,t1]at this
  ·intro m2 h1;exact⟨hV m2,by simp[kK,h1]⟩
  intro m2 p2 v w' h1 h2 h3 h4 h5;obtain⟨s1,ea,ec,ca,cc,ga,gc⟩:=m2;obtain⟨s2,KR,KQ,ca2,OF,Oe,Mm⟩:=p2;simp only at h1 h2;subst h1;subst h2;have q:v=.agg #[jJ ((7:Nat):Int),jL (Hl.bs (bC e))]:=by simp[kK,hV]at h3;exact h3.symm
  have q2:kK ⟨lz 5 e2,KR,KQ,ca2,OF,Oe,Mm⟩=.iface 297 (.agg #[jJ ((7:Nat):Int),jL (Hl.bs (bC e2))]):=by simp[kK,hV]
  rw[q,q2];have e3:p7 (lz 5 e) (lz 5 e2)={kN 1 1 with bits:=(Hl.l8 ((7:Nat):Int) (bC e) ((7:Nat):Int) (bC e2)).b,regs:=Hl.bs (Hl.l8 ((7:Nat):Int) (bC e) ((7:Nat):Int) (bC e2)).l}:=by
   simp only[p7,kN,hb1,hb2,if_true,if_neg (show¬(1:Int)=0 by omega)]
  rw[e3];exact wc _ _ _ _ 1 jS (Hl.l8 ((7:Nat):Int) (bC e) ((7:Nat):Int) (bC e2)) (by rw[hb1,hb2,em.1]) w'
 |false=>
  rw[if_neg lV];obtain⟨q1,q2,q3⟩:=JZ a1 b1 ek XP hf
  cases a1 with
  |num e hr hu=>
   obtain⟨e2,rfl,hr2,hu2⟩:=b1.JR ek.symm XP.symm;have h64:(Ex.kp e e2).length≤64:=by simp[qu]at hf;exact hf
   refine wk lo m p hk _ _ _ q2 q3 294 287 (.inl ⟨rfl,rfl⟩) w hlo hev (fun m1 h1=>⟨eV m1,by simp[kK,h1]⟩) ?_;intro m1 p1 v w' h1 h2 h3 h4 h5;obtain⟨s1,ea,ec,ca,cc,ga,gc⟩:=m1;obtain⟨s2,KR,KQ,ca2,OF,Oe,Mm⟩:=p1;simp only at h1 h2;subst h1;subst h2;have q:v=(dD ea e ec):=by simp[kK,eV]at h3;exact h3.symm
   have q2:kK ⟨bM e2,KR,KQ,ca2,OF,Oe,Mm⟩=.iface 294 (dD KR e2 KQ):=by simp[kK,eV]
   rw[q,q2];exact Ef ea e ec KR e2 KQ hr hr2 h64 w' h4.e h5.e
  |reg b' l h4 h7 hr=>
   cases b1 with
   |num=>simp only at XP;omega
   |reg b2 l2 h42 h72 hr2=>
    obtain rfl:b'=b2:=by simp only at XP;omega
    have h0:¬((8:Int)-b'=0):=jS;have hb1:=sR l (Hl.kU hr);have hb2:=sR l2 (Hl.kU hr2);refine wk lo m p hk _ _ _ q2 q3 297 316 (.inr (.inl ⟨rfl,rfl⟩)) w hlo hev (fun m1 h1=>⟨hV m1,by simp[kK,h1,h0]⟩) ?_;intro m1 p1 v w' h1 h2 h3 h4 h5;obtain⟨s1,ea,ec,ca,cc,ga,gc⟩:=m1;obtain⟨s2,KR,KQ,ca2,OF,Oe,Mm⟩:=p1;simp only at h1 h2;subst h1;subst h2;have q:v=.agg #[jJ b',jL (Hl.bs l)]:=by simp[kK,hV,h0]at h3;exact h3.symm
    have q2:kK ⟨lI 14 b' l2,KR,KQ,ca2,OF,Oe,Mm⟩=.iface 297 (.agg #[jJ b',jL (Hl.bs l2)]):=by simp[kK,hV,h0]
    rw[q,q2];have e3:p7 (lI 14 b' l) (lI 14 b' l2)={kN 1 (8-b')with bits:=(Hl.l8 b' l b' l2).b,regs:=Hl.bs (Hl.l8 b' l b' l2).l}:=by simp only[p7,kN,hb1,hb2,if_true,if_neg h0]
    rw[e3];exact wc _ _ _ _ (8-b') h0 (Hl.l8 b' l b' l2) (by rw[hb1,hb2,(xH hr hr2).1]) w'
   |cnt=>simp at ek
   |zB=>simp at ek
  |cnt lv C c h3 hC hr hu=>
   cases b1 with
   |num=>simp at ek
   |reg=>simp at ek
   |cnt Xj C2 c2 h32 hC2 hr2 hu2=>
    obtain rfl:lv=Xj:=by simp only at XP;omega
    obtain rfl:C=C2:=hC.trans hC2.symm;obtain⟨c',e1,_⟩:=CY hr hr2 hu hu2;refine wk lo m p hk _ _ _ q2 q3 298 326 (.inr (.inr (.inl ⟨rfl,rfl⟩))) w hlo hev (fun m1 h1=>⟨cV m1,by simp[kK,h1]⟩) ?_;intro m1 p1 v w' h1 h2 h3 h4 h5;obtain⟨s1,ea,ec,ca,cc,ga,gc⟩:=m1;obtain⟨s2,KR,KQ,ca2,OF,Oe,Mm⟩:=p1;simp only at h1 h2;subst h1;subst h2;have q:v=.agg #[jJ 2,jJ C,jN ca c cc]:=by simp[kK,cV]at h3;exact h3.symm
    have q2:kK ⟨oZ 22 lv C c2,KR,KQ,ca2,OF,Oe,Mm⟩=.iface 298 (.agg #[jJ 2,jJ C,jN ca2 c2 OF]):=by simp[kK,cV]
    rw[q,q2];have e3:p7 (oZ 22 lv C c) (oZ 22 lv C c2)={kN 2 lv with rows:=(⟨2,C,c'⟩:Cm.Cm).r,cols:=(⟨2,C,c'⟩:Cm.Cm).c,c:=(⟨2,C,c'⟩:Cm.Cm).l}:=by simp[p7,kN,e1]
    rw[e3];exact EU 2 C ca c cc 2 C ca2 c2 OF lv ⟨2,C,c'⟩ hu hu2 e1 w' h4.c h5.c
   |zB=>simp at ek
  |zB lv g h3 hr hu=>
   cases b1 with
   |num=>simp at ek
   |reg=>simp at ek
   |cnt=>simp at ek
   |zB Xj g2 h32 hr2 hu2=>
    obtain rfl:lv=Xj:=by simp only at XP;omega
    obtain⟨e1,_⟩:=Ar hr hr2 hu hu2;refine wk lo m p hk _ _ _ q2 q3 300 345 (.inr (.inr (.inr ⟨rfl,rfl⟩))) w hlo hev (fun m1 h1=>⟨gV m1,by simp[kK,h1]⟩) ?_;intro m1 p1 v w' h1 h2 h3 h4 h5;obtain⟨s1,ea,ec,ca,cc,ga,gc⟩:=m1;obtain⟨s2,KR,KQ,ca2,OF,Oe,Mm⟩:=p1;simp only at h1 h2;subst h1;subst h2;have q:v=.agg #[jJ (3-lv),jN ga g gc]:=by simp[kK,gV]at h3;exact h3.symm
    have q2:kK ⟨⟨3,lv,[],0,⟨#[]⟩,0,0,[],3-lv,g2⟩,KR,KQ,ca2,OF,Oe,Mm⟩=.iface 300 (.agg #[jJ (3-lv),jN Oe g2 Mm]):=by simp[kK,gV]
    rw[q,q2];have e3:p7 ⟨3,lv,[],0,⟨#[]⟩,0,0,[],3-lv,g⟩ ⟨3,lv,[],0,⟨#[]⟩,0,0,[],3-lv,g2⟩={kN 3 lv with fine:=((3-(lv:Int),Hi.ku g g2):Int×Hi.jX).1,g:=((3-(lv:Int),Hi.ku g g2):Int×Hi.jX).2}:=by simp[p7,kN,e1]
    rw[e3];exact EW (3-lv) ga g gc (3-lv) Oe g2 Mm lv (3-(lv:Int),Hi.ku g g2) hu hu2 (Hi.zV (Hi.pS hr)) (Hi.zV (Hi.pS hr2)) e1 w' h4.g h5.g
structure ScL where
def cL:ScL:=⟨⟩
instance aY3:CoeOut ScL jD:=⟨fun _=>.agg (xl 0 0).toArray⟩
theorem ZY(w:jC):jE Tryz.prog 57 #[jJ 1] w (wW w (nC 1)):=by
 go_in;go_wp2_with fail;refine kw (fun _=>True) (((Hold.nil w).alloc w 136 (xl 1 0)).alloc (w.heap.size+1) 136 (xl 1 0)) trivial (fun V H9 _=>?_);have hq:=fk (H9.at_ 1);refine jF (v:=.tuple #[.agg (xl 1 0).toArray,jJ 0]) (by simp[results,Tryz.results57,go_sem,hq]) rfl ?_;exact⟨⟨nC 1,none,0,none,0,none,0⟩,rfl,rfl,⟨Rd.none_,Rd.none_,Rd.none_⟩,⟨fun _ e=>LS,fun _ e=>LS,fun _ e=>LS⟩,H9.below⟩
theorem ZW(w:jC):jE Tryz.prog 57 #[jJ 3] w (wW w (nC 3)):=by
 go_in;go_wp2_with fail;refine kw (fun _=>True) (((Hold.nil w).alloc w 136 [jJ 3,jJ 0,jM,jJ 0,aF,jJ 0,jJ 0,jM,jJ 3,jM]).alloc (w.heap.size+1) 136 [jJ 3,jJ 0,jM,jJ 0,aF,jJ 0,jJ 0,jM,jJ 3,jM]) trivial (fun V H9 _=>?_);have hq:=fk (H9.at_ 1);refine jF (v:=.tuple #[.agg #[jJ 3,jJ 0,jM,jJ 0,aF,jJ 0,jJ 0,jM,jJ 3,jM],jJ 0]) (by simp[results,Tryz.results57,go_sem,hq]) rfl ?_;exact⟨⟨nC 3,none,0,none,0,none,0⟩,rfl,rfl,⟨Rd.none_,Rd.none_,Rd.none_⟩,⟨fun _ e=>LS,fun _ e=>LS,fun _ e=>LS⟩,H9.below⟩
theorem ZX(w:jC):jE Tryz.prog 57 #[jJ 2] w (wW w (nC 2)):=by
 have QN:Hid (∀w',jE Tryz.prog 76 #[jJ 2,jJ 32] w' (Cm.BK w' (⟨2,32,de 64 0⟩,0))):=fun w'=>by
  have:=Cm.new_any 2 32 w';rwa[show Cm.newF 2 32=(⟨2,32,de 64 0⟩,0) by rfl]at this
 go_in;go_wp2_with fail;refine kf (fun _=>True) (((Hold.nil w).alloc w 136 (xl 0 0)).alloc (w.heap.size+1) 136 (xl 2 0)) trivial (fun V HV _=>?_);refine(QN V).mono ?_;rintro e w1⟨hb1,v,rfl,A1,c1,rfl,-,-,hs1,hf1⟩;have hz:w.heap.size+1<V.heap.size:=(HV.blk _ ab).2.lt;replace HV:=ah (HV.call hb1);clear hb1 QN;have x:=fk (HV.facts);simp only[ey]at*
 go_wp2_with fail;have HR:=aS ((((HV.put 0 5 (.int .i64 2)).put 0 6 (.int .i64 32)).put 0 7 (.slice A1 64 c1)).all 1 [jJ 2,jJ 0,jM,jJ 0,aF,jJ 2,jJ 32,.slice A1 64 c1,jJ 0,jM]);have hne:∀g,g≤w.heap.size+1→∀ad,A1=some ad→ad.block≠g:=fun g hg ad e=>by have:=(hf1 ad e).1;omega
 have hs2:=aS (xr (hne w jS) [jJ 2,jJ 0,jM,jJ 0,aF,jJ 2,jJ 32,.slice A1 64 c1,jJ 0,jM] 0 (mi (o:=7) (u:=.slice A1 64 c1) (mi (o:=6) (u:=.int .i64 32) (mi (o:=5) (u:=.int .i64 2) hs1 (hne (w.heap.size+1) jS)) (hne (w.heap.size+1) jS)) (hne (w.heap.size+1) jS)));refine kw (fun V=>Rd V V A1 _) HR hs2 (fun V9 H9 hs9=>?_);have hlo:∀ad,A1=some ad→w.heap.size≤ad.block:=fun ad e=>by have:=(hf1 ad e).1;omega
 have hq:=fk (H9.at_ 1);clear x HR hs2 HV hf1 hne;refine jF (v:=.tuple #[.agg #[jJ 2,jJ 0,jM,jJ 0,aF,jJ 2,jJ 32,.slice A1 64 c1,jJ 0,jM],jJ 0]) (by simp[results,Tryz.results57,go_sem,hq]) rfl ?_;exact⟨⟨nC 2,none,0,A1,c1,none,0⟩,rfl,rfl,⟨Rd.none_,hs9,Rd.none_⟩,⟨fun _ e=>LS,hlo,fun _ e=>LS⟩,H9.below⟩
theorem JX(k:Int)(hk:¬(1≤k∧k≤3))(w:jC):jE Tryz.prog 57 #[jJ k] w fun e w'=>e=.returned (.tuple #[cL,jJ 101])∧Below w w w':=by
 have k1:(k==1)=false:=beq_false_of_ne jS;have k2:(k==2)=false:=beq_false_of_ne jS;have k3:(k==3)=false:=beq_false_of_ne jS;clear hk;go_in;go_wp2_with fail;refine kw (fun _=>True) (((Hold.nil w).alloc w 136 (xl 0 0)).alloc (w.heap.size+1) 136 (xl k 0)) trivial (fun V H9 _=>?_);have hq:=fk (H9.at_ 1);refine jF (v:=.tuple #[cL,jJ 101]) (by simp[results,Tryz.results57,go_sem,hq]) rfl ?_;exact⟨rfl,H9.below⟩
theorem AE(k:Int)(hk:1≤k∧k≤3)(w:jC):jE Tryz.prog 57 #[jJ k] w (wW w (nC k)):=by
 rcases(by omega:k=1∨k=2∨k=3)with rfl|rfl|rfl
 ·exact ZY w
 ·exact ZX w
 exact ZW w
theorem vC(m p:SkM)(hG:GK m.s)(N3:GK p.s)(hk:m.s.kind=p.s.kind)(w:jC)(hE:Er w)(hm:jY w w m)(hp:jY w w p):jE Tryz.prog 78 #[nT m,nT p] w (wW w (mZ m.s p.s)):=by
 have QO:(lI 9 w m):=fun w' h=>vu m hG.right w' (hm.later h) hG.fit;have QP:(lI 9 w p):=fun w' h=>vu p N3.right w' (hp.later h) N3.fit;have QW:Hid (∀w',Below w w w'→jE Tryz.prog 110 #[jT m,jT p] w' (pJ w w' (mZ m.s p.s))):=fun w' h=>Fs w m p hG N3 hk w' (hE.later h) (hm.later h) (hp.later h) hm.inn hp.inn h.size;have HG2:Hid (GK (mZ m.s p.s)):=(Ei hG N3 hk).1;obtain⟨T,v,hb⟩:=kv m;obtain⟨Tp,vp,hbp⟩:=kv p;have KJ:jT m=.agg #[.iface T v,jJ m.s.kind,jJ m.s.level]:=by rw[jT,hb]
 have Fh:jT p=.agg #[.iface Tp vp,jJ p.s.kind,jJ p.s.level]:=by rw[jT,hbp]
 rw[KJ]at QO QW;rw[Fh]at QP QW;clear hm hp hE hG N3 hk KJ Fh hb hbp;go_in;unfold nT at*
 go_wp2_with fail;refine kf (fun _=>True) ((((Hold.nil w).alloc w 136 (aA m)).alloc (w.heap.size+1) 136 (aA p)).alloc (aN w) 136 (xl 0 0)) trivial (fun V HV _=>?_);refine(QO V HV.below).mono ?_;rintro e w1⟨rfl,hb1⟩;replace HV:=ah (HV.call hb1);clear hb1 QO;have x:=fk (HV.facts);have hz:w.heap.size+1+1<w1.heap.size:=x.1;go_wp2_with fail;refine kf (fun _=>True) (HV.alloc w1 169 [.iface T v,jJ m.s.kind,jJ m.s.level] rfl) trivial (fun V2 H2 _=>?_);clear x HV;generalize w1.heap.size=bx at*
 refine(QP V2 H2.below).mono ?_;rintro e w3⟨rfl,hb3⟩;have hg3:bx<w3.heap.size:=cn (H2.blk _ (ac 0)).2.lt hb3.size;replace H2:=ah (H2.call hb3);clear hb3 QP;have x:=fk (H2.facts);go_wp2_with fail;refine kf (fun _=>True) (H2.alloc w3 169 [.iface Tp vp,jJ p.s.kind,jJ p.s.level] rfl) trivial (fun V4 H4 _=>?_);clear x H2;generalize w3.heap.size=bp at*
 refine(QW V4 H4.below).mono ?_;rintro e w5⟨m2,hm2,rfl,hok2,hin2,hb5⟩;have hz5:bp<V4.heap.size:=(H4.blk _ (ac 0)).2.lt;replace H4:=ah (H4.call hb5);replace HG2:Hid (GK m2.s):=by rw[hm2];exact HG2
 obtain⟨T2,v2,hbv⟩:=kv m2;have ew:jT m2=.agg #[.iface T2 v2,jJ m2.s.kind,jJ m2.s.level]:=by rw[jT,hbv]
 rw[ew];have Yx:=ah hm2;clear hb5 QW hm2;have x:=fk (H4.facts);go_wp2_with fail;have HR:=aS (H4.all 1 [.iface T2 v2,jJ m2.s.kind,jJ m2.s.level]);have xM:=aS (jY.lp (g:=bx) (hin2.mono fun b hb=>jS) [.iface T2 v2,jJ m2.s.kind,jJ m2.s.level] 0 hok2);refine kf (fun V=>jY V V m2) HR xM (fun V6 H6 rm=>?_);have QT:=ah (xg m2 HG2 V6 rm);rw[ew]at QT;clear x HR xM H4 hok2 hin2 ew;refine QT.mono ?_;rintro e w7⟨m3,N1,rfl,uH,hfr,hb7⟩;have hz6:w.heap.size+1+1<V6.heap.size:=by have:=(H6.blk _ (ac 1)).2.lt;simp only at this;omega
 replace H6:=ah (H6.call hb7);have Fk:Hid (m3.s=mZ m.s p.s):=N1.trans Yx;clear hb7 QT N1;have x:=fk (H6.facts);unfold nT;go_wp2_with fail;have HR:=aS (H6.all 2 (aA m3));have hin:lY (·≠w.heap.size+1+1) m3:=hfr.inn.mono fun b(hb:V6.heap.size≤b)=>jS;have G6:=aS (jY.lp hin (aA m3) 0 uH);refine kw (fun V=>jY V V m3) HR G6 (fun V9 H9 nZ=>?_);have hfr2:=hfr.mono (B':=w.heap.size) jS;have hq:=fk (H9.at_ 2);clear x HR G6 hin hfr H6;refine jF (v:=.tuple #[.agg (aB m3),jJ 0]) (by simp[results,Tryz.results78,go_sem,hq]) rfl ?_;exact⟨m3,Fk,rfl,nZ,hfr2,H9.below⟩
end Go.Proofs.YtfcnedcahoifoaaGreatDoor

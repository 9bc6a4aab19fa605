import Derived.Laws.MakeOwn
import Derived.OneCell
import Derived.Test.YtfcnedcahoifoaaGreatDoorOG
import Derived.Test.YtfcnedcahoifoaaGreatDoorOJ
namespace Go.Proofs.YtfcnedcahoifoaaGreatDoor
open Go.RowKit
open _root_.Array renaming getElem?_eq_some_iff→aw,length_toList→iA
open _root_.Bool renaming and_eq_true→ba,false_and→eO,or_eq_true→ft,true_and→eF
open _root_.Go renaming Addr→jG,Calls→jE,Ending→bi6,Oper→bk0,TypeId→jH,Value→jD,World→jC,bodyPost_ret→jF,info_parts→bi5,ownsRow_setCell_other→bj0,results_cell_row→bl2,run_makeSlice_owned→bk8,run_underlying→bi8,wpAnyH_take→bk5,wpList_append_own→bk3,wp_region_held_drew→bi1
open _root_.Go.Act renaming put→gL
open _root_.Go.Code renaming region→jo
open _root_.Go.Instr renaming slice→gI
open _root_.Go.IntWalk renaming i64_in→dv,u64_in→gC
open _root_.Go.Lib renaming BuilderAtF→fN,IsBuilderF→dX,OthersKept→eh,byteCells_length→ii,byteCells→dV,hid→ai,strCells→jh
open _root_.Go.Op renaming stringOp→fK
open _root_.Go.Oper renaming wp→je
open _root_.Go.Region renaming free→iV,noSelect→gS,ready→eE,wanted→eQ
open _root_.Go.RowKit renaming intOf→av
open _root_.Go.Value renaming int→br,ownBlock→gy
open _root_.Go.World renaming cell?_alloc_lt→dt,ownsRow_nil→dY,ownsRow→gX
open _root_.List renaming append_nil→eB,cons_append→dj,drop_eq_getElem_cons→dN,eq_nil_of_length_eq_zero→da,filter_append→gQ,filter_cons→eC,flatMap_append→eZ,flatMap_cons→dg,getElem?_cons_succ→bo,getElem?_cons_zero→bm,getElem?_drop→fL,getElem?_eq_getElem→an,getElem?_map→eD,getElem?_toArray→bh,getElem_cons_succ→ej,getElem_cons_zero→dQ,getElem_mem→ar,getElem_toArray→eK,getLast?_cons_cons→fj,getLast?_eq_getElem?→fv,length_append→cd,length_cons→c_,length_filter_le→fe,length_map→ax,length_nil→dp,length_range→fo,length_take→cv,map_append→dH,mem_append→ed,mem_filter→eN,mem_flatMap→ir,mem_range→dh,nil_append→dz,pairwise_append→il,range_succ→fV,range→bu,setIfInBounds_toArray→bd,set_cons_succ→am,set_cons_zero→ak,size_toArray→jn,take_length→dP,take_succ_eq_append_getElem→aj
open _root_.Nat renaming add_assoc→gW,add_zero→ip,le_succ→dU,le_trans→a_,lt_of_lt_of_le→cn,lt_succ_self→fA,zero_add→au,zero_le→be,zero_mul→fh
open _root_.Option renaming getD_some→jz,map_some→jb
open _root_.Or renaming inl→ge
set_option maxRecDepth 100000
set_option maxHeartbeats 16000000
set_option linter.unusedVariables false
set_option linter.unusedSimpArgs false
instance i8_(x0:jC)(x1:jC)(x2:Int)(x3:Int):CoeOut (IN 8 x0 x1 x2 x3) Prop:=⟨fun _=>x0.cell? ⟨x1,0,none⟩=some (.int .u64 x2)∧x0.cell? ⟨x1,1,none⟩=some (.int .u64 x3)⟩
instance aY9(x0:jC)(x1:jC)(x2:Int)(x3:Int):CoeSort (IN 8 x0 x1 x2 x3) Prop:=⟨fun _=>x0.cell? ⟨x1,0,none⟩=some (.int .u64 x2)∧x0.cell? ⟨x1,1,none⟩=some (.int .u64 x3)⟩
instance aZ1:CoeOut (Cp 59) ByteArray:=⟨fun _=>⟨#[116,101,110,97,110,116]⟩⟩
instance aZ0:CoeOut (Cp 62) Obj:=⟨fun _=>(.cells #[jK 0,jK 0] 24)⟩
def Bj(a b:Int)(s:ByteArray):Int×Int:=(Sp.sumF a b (⟨#[0]⟩++s),Sp.sumF a b (⟨#[1]⟩++s))
theorem Br(a b:ByteArray):(a++b).size=a.size+b.size:=lV
theorem OE(a b:Int)(s:ByteArray)(hs:s.size≤90000)(w:jC):
 jE Tryz.prog 51 #[cI a b,jL s] w fun e w'=>e=.returned (.agg #[jK (Bj a b s).1,jK (Bj a b s).2])∧Below w w w':=by
 have k0:fK .add (⟨#[0]⟩:ByteArray) s=pure (.string (⟨#[0]⟩++s)):=oL (by show 1+_≤_;omega)
 have k1:fK .add (⟨#[1]⟩:ByteArray) s=pure (.string (⟨#[1]⟩++s)):=oL (by show 1+_≤_;omega)
 have Q0:=ah (Sp.sum_any a b (⟨#[0]⟩++s) (by rw[Br];show 1+s.size≤_;omega))
 have Q1:=ah (Sp.sum_any a b (⟨#[1]⟩++s) (by rw[Br];show 1+s.size≤_;omega))
 have HV:=ah (jR.new w 24 #[jK a,jK b])
 have HC:=ah (jR.new (w.alloc (aW a b)) 24 #[jK 0,jK 0])
 have HB:=ah (jP (jP (jQ w) (aW a b)) (rO 62))
 have e1:(w.alloc (aW a b)).heap.size=w.heap.size+1:=lV
 rw[e1]at HC
 replace HV:=ah (HV.alloc (rO 62))
 clear e1
 unfold Bj
 generalize(⟨#[0]⟩++s:ByteArray)=s0 at*
 generalize(⟨#[1]⟩++s:ByteArray)=s1 at*
 go_in
 go_wp2_with fail
 generalize(w.alloc (aW a b)).alloc (rO 62)=V at*
 have x0:=ce HV 0
 have x1:=ce HV 1
 have hv:=HV.lt
 have hc:=HC.lt
 refine bi1 (S:=fun w9=>(rU 8 w9 w a b)) oo ⟨x0,x1⟩ (fun hHeld=>?_)
 refine re hHeld ?_
 replace HC:=ah HC.drew
 replace HB:=ah HB.drew
 replace hv:w.heap.size<V.drew.heap.size:=hv
 replace x0:V.drew.cell? ⟨w,0,none⟩=some (.int .u64 a):=x0
 replace x1:V.drew.cell? ⟨w,1,none⟩=some (.int .u64 b):=x1
 clear HV
 generalize V.drew=V2 at*
 refine pL 3 fun K hK=>?_
 go_simp
 refine(Q0 _).mono ?_
 rintro e w2⟨rfl,hbw2⟩
 have C1:=ah hbw2
 have x2:(rU 8 w2 w a b):=⟨(C1.cell (p:=⟨w,0,none⟩) hv).trans x0,(C1.cell (p:=⟨w,1,none⟩) hv).trans x1⟩
 refine hK.out _ _ x2 (fun hHeld=>?_)
 clear hK K hbw2 x2
 refine az ?_
 refine pL 7 fun K hK=>?_
 go_simp
 refine(Q1 w2).mono ?_
 rintro e w3⟨rfl,hbw3⟩
 have C2:=ah (Below.two C1 hbw3)
 have x2:(rU 8 w3 w a b):=⟨(C2.cell (p:=⟨w,0,none⟩) hv).trans x0,(C2.cell (p:=⟨w,1,none⟩) hv).trans x1⟩
 refine hK.out _ _ x2 (fun hHeld=>?_)
 clear hK K hbw3 x2
 refine az ?_
 refine re hHeld ?_
 refine pL 9 fun K hK=>?_
 have HF:=ah (HC.later C2)
 have HG:=sD (x:=.int .u64 (Sp.sumF a b s0)) (y:=.int .u64 (Sp.sumF a b s1)) HF
 have ZB:=ah (((Below.trans HB (C2.mono HB.size)).setCell (p:=(aE w)) (dU _) (.int .u64 (Sp.sumF a b s0))).setCell (p:=(bS w)) (dU _) (.int .u64 (Sp.sumF a b s1)))
 have fz:∀i,w3.frozen? ⟨w.heap.size+1,i,none⟩=false:=fun i=>HF.frozen i
 have y0:=ce HF 0
 have y1:=ce HF 1
 have hc3:=HF.lt
 go_simp
 have hbs:Below (w.heap.size+1) w3 ((w3.setCell (aE w) (.int .u64 (Sp.sumF a b s0))).setCell (bS w) (.int .u64 (Sp.sumF a b s1))):=((Below.refl (w.heap.size+1) w3).setCell (p:=(aE w)) aa _).setCell (p:=(bS w)) aa _
 refine hK.out _ _ ⟨(hbs.cell (p:=⟨w,0,none⟩) (fA _)).trans hHeld.1,(hbs.cell (p:=⟨w,1,none⟩) (fA _)).trans hHeld.2⟩ (fun hHeld=>?_)
 clear hK K
 refine az ?_
 refine hdn ?_
 go_wp2
 exact jF (bl2 rfl _ _ (w.heap.size+1) _ _ _ _ rfl HG Tryz.underlying24 rfl oo) rfl ⟨rfl,ZB⟩
noncomputable def Kl(a b id:Int):Int×Int:=Bj a b ((rO 59)++r8 id)
theorem Mb(a b id:Int)(hi:U id)(w:jC):
 jE Tryz.prog 28 #[cI a b,jK id] w fun e w'=>e=.returned (.agg #[jK (Kl a b id).1,jK (Kl a b id).2])∧Below w w w':=by
 have hsz:=xA id
 have k0:fK .add ((rO 59):ByteArray) (r8 id)=pure (.string ((rO 59)++r8 id)):=oL (by show 6+_≤_;omega)
 have Q0:=ah (put_any id hi)
 have Q1:=ah (OE a b ((rO 59)++r8 id) (by rw[Br];show 6+(r8 id).size≤_;omega))
 have HV:=ah (jR.new w 24 #[jK a,jK b])
 have HC:=ah (jR.new (w.alloc (aW a b)) 24 #[jK 0,jK 0])
 have HB:=ah (jP (jP (jQ w) (aW a b)) (rO 62))
 have e1:(w.alloc (aW a b)).heap.size=w.heap.size+1:=lV
 rw[e1]at HC
 replace HV:=ah (HV.alloc (rO 62))
 clear e1 hsz
 unfold Kl
 generalize((rO 59)++r8 id:ByteArray)=s1 at*
 generalize r8 id=s0 at*
 generalize Bj a b s1=r at*
 obtain⟨r1,r2⟩:=r
 go_in
 go_wp2_with fail
 generalize(w.alloc (aW a b)).alloc (rO 62)=V at*
 have x0:=ce HV 0
 have x1:=ce HV 1
 have hv:=HV.lt
 have hc:=HC.lt
 refine bi1 (S:=fun w9=>(rU 8 w9 w a b)) oo ⟨x0,x1⟩ (fun hHeld=>?_)
 refine re hHeld ?_
 replace HC:=ah HC.drew
 replace HB:=ah HB.drew
 replace hv:w.heap.size<V.drew.heap.size:=hv
 replace x0:V.drew.cell? ⟨w,0,none⟩=some (.int .u64 a):=x0
 replace x1:V.drew.cell? ⟨w,1,none⟩=some (.int .u64 b):=x1
 clear HV
 generalize V.drew=V2 at*
 refine pL 2 fun K hK=>?_
 go_simp
 refine(Q0 _).mono ?_
 rintro e w2⟨rfl,hbw2⟩
 have C1:=ah hbw2
 have x2:(rU 8 w2 w a b):=⟨(C1.cell (p:=⟨w,0,none⟩) hv).trans x0,(C1.cell (p:=⟨w,1,none⟩) hv).trans x1⟩
 refine hK.out _ _ x2 (fun hHeld=>?_)
 clear hK K hbw2 x2
 refine az ?_
 refine re hHeld ?_
 refine pL 4 fun K hK=>?_
 go_simp
 refine(Q1 w2).mono ?_
 rintro e w3⟨rfl,hbw3⟩
 have C2:=ah (Below.two C1 hbw3)
 have x2:(rU 8 w3 w a b):=⟨(C2.cell (p:=⟨w,0,none⟩) hv).trans x0,(C2.cell (p:=⟨w,1,none⟩) hv).trans x1⟩
 refine hK.out _ _ x2 (fun hHeld=>?_)
 clear hK K hbw3 x2
 refine az ?_
 refine pL 5 fun K hK=>?_
 have HF:=ah (HC.later C2)
 have HG:=sD (x:=.int .u64 r1) (y:=.int .u64 r2) HF
 have ZB:=ah (((Below.trans HB (C2.mono HB.size)).setCell (p:=(aE w)) (dU _) (.int .u64 r1)).setCell (p:=(bS w)) (dU _) (.int .u64 r2))
 have fz:∀i,w3.frozen? ⟨w.heap.size+1,i,none⟩=false:=fun i=>HF.frozen i
 have y0:=ce HF 0
 have y1:=ce HF 1
 have hc3:=HF.lt
 go_simp
 have hbs:Below (w.heap.size+1) w3 ((w3.setCell (aE w) (.int .u64 r1)).setCell (bS w) (.int .u64 r2)):=((Below.refl (w.heap.size+1) w3).setCell (p:=(aE w)) aa _).setCell (p:=(bS w)) aa _
 refine hK.out _ _ ⟨(hbs.cell (p:=⟨w,0,none⟩) (fA _)).trans hHeld.1,(hbs.cell (p:=⟨w,1,none⟩) (fA _)).trans hHeld.2⟩ (fun hHeld=>?_)
 clear hK K
 refine az ?_
 refine hdn ?_
 go_wp2
 exact jF (bl2 rfl _ _ (w.heap.size+1) _ _ _ _ rfl HG Tryz.underlying24 rfl oo) rfl ⟨rfl,ZB⟩
structure SbL(x0:mV) where
def bL(x0:mV):SbL x0:=⟨⟩
instance aY5(x0:mV):CoeOut (SbL x0) (Array jD):=⟨fun _=>#[jK x0.seq,jK x0.tm,jL x0.text,jK x0.sum]⟩
instance aZ8(x0:mV):CoeOut (sH 16 x0) (Array jD):=⟨fun _=>#[.int .u64 x0.seq,.int .u64 x0.tm,.string x0.text,.int .u64 x0.sum]⟩
variable{w w':jC}{b:Nat}{e:jH}
theorem t6{g:Nat}{t:jH}{cs:Array jD}(h:jR w g t cs)(hk:eh e (some b) w w')(h1:g≠b)(h2:t≠e):jR w' g t cs:=
 hk g _ h (fun e=>h1 (by injection e)) (fun c fz e=>by injection e with _ e2;exact h2 e2)
variable{B:Nat}
theorem Q9{T:jH}{B':Nat}{bs:List jD}(h:dX T e B' b bs w)(hB:B≤B'):dX T e B b bs w:=by
 have q:∀p,fN T e B' b p bs w→fN T e B b p bs w:=fun p⟨h1,v,h2,⟨h3,h4⟩,h5⟩=>⟨jS,v,h2,⟨h3,h4.imp id fun⟨g,c,cur,fz,e1,e2,e3⟩=>⟨g,c,cur,fz,e1,jS,e3⟩⟩,h5⟩;exact h.imp (q _) (q _)
theorem Km{T:jH}{bs:List jD}(h:dX T e B b bs w)(hb:Below w w w'):dX T e B b bs w':=by
 have q:∀p,fN T e B b p bs w→fN T e B b p bs w':=fun p⟨h1,v,h2,⟨h3,h4⟩,h5⟩=>
  ⟨h1,v,(hb.block _ (aw.1 h2).1).trans h2,⟨h3,h4.imp id fun⟨g,c,cur,fz,e1,e2,e3,e4⟩=>⟨g,c,cur,fz,e1,e2,(hb.block _ (aw.1 e3).1).trans e3,e4⟩⟩,h5⟩
 exact h.imp (q _) (q _)
noncomputable def uF(l:List Int):List UInt8:=l.flatMap fun n=>(r8 n).data.toList
theorem Am(l:List Int):(uF l).length≤9*l.length:=by
 induction l with
 |nil=>simp[uF]
 |cons n l ih=>
  have:=xA n;unfold uF at ih⊢;rw[dg,cd,c_];have e:(r8 n).data.toList.length=(r8 n).size:=by rw[iA];rfl
  omega
theorem Nu(l:List Int)(n:Int):uF (l++[n])=uF l++(r8 n).data.toList:=by unfold uF;rw[eZ,dg,List.flatMap_nil,eB]
noncomputable def Ca(b:Int)(x:mV):ByteArray:=⟨(uF [b,x.seq,x.tm,(x.text.size:Int)]++x.text.data.toList).toArray⟩
theorem Nv(b:Int)(x:mV):(Ca b x).size≤36+x.text.size:=by
 have h:=Am [b,x.seq,x.tm,(x.text.size:Int)];have e:(Ca b x).size=(uF [b,x.seq,x.tm,(x.text.size:Int)]).length+x.text.size:=by
  show(List.toArray _).size=_;rw[jn,cd,iA];rfl
 simp only[c_,dp]at h;omega
noncomputable def qC(ka kb b:Int)(x:mV):Int:=Sp.sumF ka kb (Ca b x)
theorem UD(ka kb b:Int)(x:mV):U (qC ka kb b x):=Sp.Jk _ _ _
def Yh(w:jC)(ka kb:Int)(x:mV)(ns:List Int)(k:Nat)(wr:jC):Prop:=
 dX 312 5 w (aN w) (dV (uF (ns.take k))) wr∧jR wr w 24 #[jK ka,jK kb]∧jR wr (w.heap.size+1) 59 (bL x)∧jR wr (cC w) 22 (ns.map (br .u64)).toArray∧Below w w wr
theorem IG(ka kb b:Int)(x:mV)(hb:U b)(hx:qL x)(ht:x.text.size≤1000)(w:jC):
 jE Tryz.prog 127 #[.agg #[.int .u64 ka,.int .u64 kb],.int .u64 b,Hw x] w fun e w'=>e=.returned (.int .u64 (qC ka kb b x))∧(bJ w w'):=by
 have HM:=Nv b x
 have QS:=ah (Sp.sum_any ka kb (Ca b x) jS)
 have HE:Hid (uF [b,x.seq,x.tm,(x.text.size:Int)]++x.text.data.toList=(Ca b x).data.toList):=by show _=_;simp[Ca]
 unfold Hw
 have HI:Hid (Yh w ka kb x [b,x.seq,x.tm,(x.text.size:Int)] 0 ((((w.alloc (aR ka kb)).alloc (.cells (lz 16 x) 59)).alloc (.cells #[.pointer none,jM] 312)).alloc (.cells #[jK b,jK x.seq,jK x.tm,jK x.text.size] 22))):=by
  have e1:(w.alloc (aR ka kb)).heap.size=w.heap.size+1:=lV;have e2:((w.alloc (aR ka kb)).alloc (.cells (lz 16 x) 59)).heap.size=w.heap.size+1+1:=lV;have e3:(((w.alloc (aR ka kb)).alloc (.cells (lz 16 x) 59)).alloc (.cells #[.pointer none,jM] 312)).heap.size=w.heap.size+1+1+1:=lV;refine⟨?_,(((jR.new w _ _).alloc _).alloc _).alloc _,?_,?_,jP (jP (jP (jP (jQ w) _) _) _) _⟩
  ·have h:=Lib.IsBuilderF.of (Lib.fresh_isBuilder 312 5 ((w.alloc (aR ka kb)).alloc (.cells (lz 16 x) 59)));rw[e2]at h;exact Q9 (h.alloc _) jS
  ·have h:=jR.new (w.alloc (aR ka kb)) 59 (lz 16 x);rw[e1]at h;exact(h.alloc _).alloc _
  have h:=jR.new (((w.alloc (aR ka kb)).alloc (.cells (lz 16 x) 59)).alloc (.cells #[.pointer none,jM] 312)) 22 #[jK b,jK x.seq,jK x.tm,jK x.text.size];rw[e3]at h;exact h
 have HEF:Hid (qC ka kb b x=Sp.sumF ka kb (Ca b x)):=rfl
 have HU:Hid (∀k,∀h:k<[b,x.seq,x.tm,(x.text.size:Int)].length,U ([b,x.seq,x.tm,(x.text.size:Int)][k])):=by
  intro k h;match k,h with
  |0,_=>exact hb
  |1,_=>exact hx.seq
  |2,_=>exact hx.tm
  |3,_=>exact(⟨jS,jS⟩:U (x.text.size:Int))
 have hcv:IntKind.u64.wrap (x.text.size:Int)=(x.text.size:Int):=gC _ jS
 go_in
 go_wp2_with fail
 have hns:[b,x.seq,x.tm,(x.text.size:Int)].length=4:=rfl
 generalize[b,x.seq,x.tm,(x.text.size:Int)]=ns at*
 go_loopw[21] (fun i wr=>∃k:Nat,i=(aJ k)∧k≤4∧Hid (Yh w ka kb x ns k wr)) (fun i _=>4-(av i).toNat)
 case atStart=>exact⟨0,rfl,be _,HI⟩
 clear HI
 obtain⟨k,rfl,hk,HI⟩:=hrel
 obtain⟨c1,c2,c3,c4,c5⟩:=HI.out
 by_cases hlt:k<4
 ·have hkn:k<ns.length:=by omega
  have gk:wr.cell? ⟨cC w,k,none⟩=some (.int .u64 ns[k]):=by rw[c4.cell];simp[hkn]
  have zg:=c4.lt;have hi1:(0:Int)≤(k:Int):=jS;have hi2:(k:Int)<4:=by omega
  have QP:=ai (put_any _ (HU.out k hkn) wr);have HT:Hid (uF (ns.take (k+1))=uF (ns.take k)++(r8 ns[k]).data.toList):=by show _=_;rw[aj hkn,Nu]
  have hps:=xA ns[k];have hml:=Am (ns.take k);rw[cv]at hml;generalize hnk:ns[k]=nk at*
  clear hnk;generalize r8 nk=pn at*
  go_wp2_with fail;refine QP.out.mono ?_;rintro e w1⟨rfl,hb1⟩;have hw:=c5.size;have BB:=Km c1 hb1;have C2:=ai (c2.later hb1);have C3:=ai (c3.later hb1);have C4:=ai (c4.later hb1);have C5:=ai (c5.trans (hb1.mono hw));clear c1 c2 c3 c4 c5 HI QP gk zg;go_wp2_with fail;refine(sL w.heap.size (aN w) _ pn w1 BB (by rw[ii];omega) C5.out.size).mono ?_;rintro e w2⟨rfl,hbl,hb2,hok⟩;have HN:Hid (Yh w ka kb x ns (k+1) w2):=by
   refine⟨?_,t6 C2.out hok jS B8,t6 C3.out hok jS B8,t6 C4.out hok jS B8,C5.out.trans hb2⟩;rw[HT.out];have e:dV (uF (ns.take k)++pn.data.toList)=dV (uF (ns.take k))++jh pn:=by unfold dV jh;rw[dH]
   rw[e];exact Or.inr hbl
  clear hbl hb2 hok BB C2 C3 C4 C5 HT hml hps;go_wp2_with fail;go_roundw
  case rel=>exact⟨k+1,rfl,by omega,HN⟩
  simp[av];omega
 obtain rfl:k=4:=by omega
 rw[←hns,dP]at c1
 have hml:=Am ns
 rw[hns]at hml
 have y2:=c3.cell 2
 simp only[bh,bm,bo]at y2
 have zy:=c3.lt
 have C1:=ai c1
 have C2:=ai c2
 have C5:=ai c5
 clear c1 c2 c3 c4 c5 HI hlt
 go_wp2_with fail
 refine(sL w (aN w) _ x.text wr C1 (by rw[ii];omega) C5.size).mono ?_
 rintro e w2⟨rfl,hbl,hb2,hok⟩
 have BB:Hid (dX 312 5 w (aN w) (dV (Ca b x).data.toList) w2):=by
  rw[←HE];have e:dV (uF ns++x.text.data.toList)=dV (uF ns)++jh x.text:=by unfold dV jh;rw[dH]
  rw[e];exact Or.inr hbl
 replace C2:=ah (t6 C2 hok jS B8)
 replace C5:=ah (C5.trans hb2)
 clear hbl hb2 hok C1 HE y2 zy
 generalize Ca b x=ms at*
 go_wp2_with fail
 have x0:=C2.cell 0
 have x1:=C2.cell 1
 simp only[bh,bm,bo]at x0 x1
 refine bi1 (S:=fun w9=>(rU 8 w9 w ka kb)) oo ⟨x0,x1⟩ (fun hHeld=>?_)
 refine re hHeld ?_
 replace C2:Hid (jR w2.drew w 24 #[jK ka,jK kb]):=C2
 replace C5:=ah C5.drew
 replace BB:Hid (dX 312 5 w (aN w) (dV ms.data.toList) w2.drew):=BB
 clear x0 x1
 generalize w2.drew=w3 at*
 refine pL 1 fun K hK=>?_
 go_simp
 refine(IF w (aN w) ms.data.toList w3 BB C5.size).mono ?_
 rintro e w4⟨rfl,hbl,hb4,hok⟩
 replace C2:=ah (t6 C2 hok jS B8)
 replace C5:=ah (C5.trans hb4)
 have x0:=C2.cell 0
 have x1:=C2.cell 1
 simp only[bh,bm,bo]at x0 x1
 have em:(⟨ms.data.toList.toArray⟩:ByteArray)=ms:=lV
 rw[em]
 clear hbl hb4 hok BB em
 refine hK.out _ _ ⟨x0,x1⟩ (fun hHeld=>?_)
 clear hK K
 refine az ?_
 refine pL 2 fun K hK=>?_
 go_simp
 refine(QS w4).mono ?_
 rintro e w5⟨rfl,hb5⟩
 have z0:=C2.lt
 refine hK.out _ _ ⟨(hb5.cell (p:=⟨w,0,none⟩) z0).trans x0,(hb5.cell (p:=⟨w,1,none⟩) z0).trans x1⟩ (fun hHeld=>?_)
 clear hK K
 refine az ?_
 refine re hHeld ?_
 refine hdn ?_
 go_wp2
 go_ret
 exact⟨by rw[HEF];rfl,C5.trans (hb5.mono C5.size)⟩
instance aZ5(x0:Int)(x1:Int)(x2:ByteArray)(x3:Int):CoeOut (IN 25 x0 x1 x2 x3) Obj:=⟨fun _=>(.cells #[jK x0,jK x1,jL x2,jK x3] 59)⟩
noncomputable def m5(ka kb:Int):Int→List mV→Bool
 |_,[]=>true
 |b,x::l=>x.sum==qC ka kb b x&&m5 ka kb x.sum l
variable{ka kb:Int}{l:List mV}{k:Nat}
theorem Sh{b:Int}(h:k<l.length):m5 ka kb b (l.drop k)=(l[k].sum==qC ka kb b l[k]&&m5 ka kb l[k].sum (l.drop (k+1))):=by
 rw[dN h];rfl
theorem AU(h:k<l.length):l[k]∈l:=ar h
theorem Im(ka kb b:Int)(A:Option jG)(l:List mV)(cap:Nat)(hl:l.length≤1000)(hb:U b)(hf:∀x∈l,qL x∧x.text.size≤1000)(w:jC)(hS:Eb w w A l):
 jE Tryz.prog 170 #[cI ka kb,jK b,jN A l cap] w fun e w'=>(∃k:Int,e=.returned (.tuple #[jJ k,.bool (m5 ka kb b l)]))∧Below w w w':=by
 have HS:=ah hS
 have HF:=ah hf
 have HA:=ah (IG ka kb)
 clear hS hf
 have HI:Hid (jR (w.alloc (aW ka kb)) w 24 #[jK ka,jK kb]∧Below w w (w.alloc (aW ka kb))∧m5 ka kb b l=m5 ka kb b (l.drop 0)∧U b):=⟨jR.new w _ _,jP (jQ w) _,rfl,hb⟩
 generalize hcr:m5 ka kb b l=cr at*
 clear hcr hb
 generalize hn:l.length=n at*
 go_in
 go_wp2_with fail
 go_loopw[1,12] (fun bv i wr=>∃(k:Nat)(c:Int),i=(aJ k)∧bv=.int .u64 c∧k≤n∧Hid (jR wr w 24 #[jK ka,jK kb]∧Below w w wr∧cr=m5 ka kb c (l.drop k)∧U c)) (fun _ i _=>n-(av i).toNat)
 case atStart=>exact⟨0,b,rfl,rfl,be _,HI⟩
 clear HI
 obtain⟨k,c,rfl,rfl,hk,HI⟩:=hrel
 by_cases hlt:k<n
 ·have hkl:k<l.length:=jS;have hi1:(0:Int)≤k:=jS;have hi2:(k:Int)<n:=jS;have hw0:w.heap.size≤wr.heap.size:=HI.2.1.size;obtain⟨bb,off,rfl,hbl,hc⟩:=(HS.later' HI.2.1).at_ jS;obtain⟨g0,g1,g2,g3⟩:=hc k hkl;have hx:=HF _ (AU hkl);have HC:=ah HI.2.2.1;rw[Sh hkl]at HC;have HK:=ah (HI.1.alloc (.cells #[jK l[k].seq,jK l[k].tm,jL l[k].text,jK l[k].sum] 59));have HX:=ah (jR.new wr 59 #[jK l[k].seq,jK l[k].tm,jL l[k].text,jK l[k].sum]);have HB:=ah (HI.2.1.alloc hw0 (.cells #[jK l[k].seq,jK l[k].tm,jL l[k].text,jK l[k].sum] 59));have QA:=ah (fun w'=>HA c l[k] HI.2.2.2 hx.1 hx.2 w');have HU:=ah hx.1.sum;clear hc hx HI;generalize l[k]=x at*
  obtain⟨xs,xt,xx,xm⟩:=x;unfold Hw at QA;simp only at g0 g1 g2 g3 HK HX HB QA HC HU;go_wp2_with fail;generalize wr.alloc (rU 25 xs xt xx xm)=V at*
  clear g0 g1 g2 g3;have x0:=ce HK 0;have x1:=ce HK 1;have x2:=ce HX 0;have x3:=ce HX 1;have x4:=ce HX 2;have x5:=ce HX 3;refine bi1 (S:=fun w9=>w9.cell? ⟨w,0,none⟩=some (.int .u64 ka)∧w9.cell? ⟨w,1,none⟩=some (.int .u64 kb)∧w9.cell? ⟨wr,0,none⟩=some (.int .u64 xs)∧w9.cell? ⟨wr,1,none⟩=some (.int .u64 xt)∧w9.cell? ⟨wr,2,none⟩=some (.string xx)∧w9.cell? ⟨wr,3,none⟩=some (.int .u64 xm)) oo ⟨x0,x1,x2,x3,x4,x5⟩ (fun hHeld=>?_);refine re hHeld ?_;refine pL 5 fun K hK=>?_;go_simp;refine(QA V.drew).mono ?_;rintro e w2⟨rfl,hb2⟩;have z0:w.heap.size<V.drew.heap.size:=HK.lt;have z1:wr.heap.size<V.drew.heap.size:=HX.lt;refine hK.out _ _ ⟨(hb2.cell (p:=⟨w,0,none⟩) z0).trans x0,(hb2.cell (p:=⟨w,1,none⟩) z0).trans x1,(hb2.cell (p:=⟨wr,0,none⟩) z1).trans x2,(hb2.cell (p:=⟨wr,1,none⟩) z1).trans x3,(hb2.cell (p:=⟨wr,2,none⟩) z1).trans x4,(hb2.cell (p:=⟨wr,3,none⟩) z1).trans x5⟩ (fun hHeld=>?_);clear hK K;refine az ?_;have Tf:Hid (jR w2 w 24 #[jK ka,jK kb]):=(hb2.block _ z0).trans HK;have Vj:=(hb2.cell (p:=⟨wr,3,none⟩) z1).trans x5;have zx:wr.heap.size<w2.heap.size:=cn z1 hb2.size;have HB2:(bB w w2):=HB.drew.trans (hb2.mono HB.size);clear hb2 HK HX HB x0 x1 x2 x3 x4 x5 QA z0 z1;generalize hs:qC ka kb c ⟨xs,xt,xx,xm⟩=sm at*
  clear hs
  cases hq:(xm==sm)with
  |true=>
   have hqe:xm=sm:=beq_iff_eq.1 hq;have hne:(xm !=sm)=false:=by rw[bne,hq];rfl
   rw[hq,eF]at HC;clear hqe hq;refine re hHeld ?_;refine hdn ?_;clear hHeld;go_wp2;go_roundw
   case rel=>exact⟨k+1,xm,rfl,rfl,jS,⟨Tf,HB2,HC,HU⟩⟩
   exact No
  |false=>
   have hne:(xm !=sm)=true:=by rw[bne,hq];rfl
   rw[hq,eO]at HC;clear hq;refine re hHeld ?_;refine hdn ?_;clear hHeld;have hcr:=HC;subst hcr;clear HC;go_wp2;go_ret2;exact⟨⟨_,rfl⟩,HB2⟩
 have hkn:k=n:=jS
 have hcr:cr=true:=by have:=HI.2.2.1;rw[this,hkn,←hn,List.drop_length];rfl
 subst hcr
 have HB:=ah HI.2.1
 subst hkn
 clear HI hlt
 go_wp2
 go_ret2
 exact⟨⟨_,rfl⟩,HB⟩
def sO(p:Option mV)(x:mV):Bool:=decide (x.text.size≤200)&&(match p with|none=>true|some a=>n9 a x)
def lT:Option mV→List mV→Bool
 |_,[]=>true
 |p,x::l=>sO p x&&lT (some x) l
noncomputable def qN(ka kb b:Int)(l:List mV):Bool:=decide (l.length≤30)&&(match l with|[]=>b==0|x::_=>(decide (1≤x.seq)&&(x.seq !=1||b==0))&&(lT none l&&m5 ka kb b l))
def pT(l:List mV)(k:Nat):Option mV:=if k=0 then none else l[k-1]?
theorem Py(h:k<l.length):lT (pT l k) (l.drop k)=(sO (pT l k) l[k]&&lT (pT l (k+1)) (l.drop (k+1))):=by
 have e:pT l (k+1)=some l[k]:=by unfold pT;rw[if_neg jS];simp[h]
 rw[e,dN h];rfl
theorem Lm(ka kb b:Int)(A:Option jG)(l:List mV)(cap:Nat)(hl:l.length≤1000)(hb:U b)(hf:∀x∈l,qL x∧x.text.size≤1000)(w:jC)(hS:Eb w w A l):
 jE Tryz.prog 125 #[cI ka kb,.agg #[jK b,jN A l cap]] w fun e w'=>e=.returned (.bool (qN ka kb b l))∧Below w w w':=by
 have HS:=ah hS
 have HF:=ah hf
 have HBU:=ah hb
 have Ct:=ah (jP (jP (jQ w) (aW ka kb)) (.cells #[jK b,jN A l cap] 113))
 by_cases h30:l.length≤30
 case neg=>
  have e:qN ka kb b l=false:=by unfold qN;rw[decide_eq_false h30,eO]
  rw[e];have b30:decide ((30:Int)<l.length)=true:=ae;have af9:decide (30<l.length)=true:=ae;clear hS hf hb e;go_in;go_wp2;go_ret;exact⟨rfl,Ct⟩
 have b30:decide ((30:Int)<l.length)=false:=ag
 have af9:decide (30<l.length)=false:=ag
 by_cases h0:l.length=0
 ·have e0:l=[]:=da h0;subst e0;have e:qN ka kb b []=(b==0):=by unfold qN;simp
  rw[e];clear hS hf hb e h30;go_in;go_wp2;go_ret;exact⟨rfl,Ct⟩
 have z0:((l.length:Int)==0)=false:=beq_false_of_ne jS
 have z0':(l.length==0)=false:=beq_false_of_ne jS
 obtain⟨bb,off,rfl,hbl,hc⟩:=hS.at_ jS
 have HC:=ah hc
 have hpos:0<l.length:=jS
 have g0:=(hc 0 hpos).c0
 simp only[fh,ip]at g0
 have hx0:=(HF _ (AU hpos)).1.seq
 have HL:Hid (qN ka kb b l=((decide ((1:Int)≤(l[0]'hpos).seq)&&((l[0]'hpos).seq !=1||b==0))&&(lT none l&&m5 ka kb b l))):=by
  show _=_;unfold qN;rw[decide_eq_true h30,eF];match l,hpos with
  |x::r,_=>rfl
 clear hS hf hb hc h30
 generalize(l[0]'hpos).seq=s0 at*
 have hi0:(0:Int)<l.length:=jS
 have au5:0<l.length:=hpos
 by_cases h1:s0<1
 ·have b1:decide (s0<1)=true:=decide_eq_true h1;have e:qN ka kb b l=false:=by rw[HL,ag,eO,eO]
  rw[e];clear HL e h1;go_in;go_wp2;go_ret;exact⟨rfl,Ct⟩
 have b1:decide (s0<1)=false:=decide_eq_false h1
 by_cases h2:s0=1∧b≠0
 ·obtain⟨rfl,h3⟩:=h2;have b2:(b !=0)=true:=bne_iff_ne.2 h3;have e:qN ka kb b l=false:=by
   have b3:(b==0)=false:=beq_false_of_ne h3;rw[HL,b3];simp
  rw[e];clear HL e h1 h3;go_in;go_wp2;go_ret;exact⟨rfl,Ct⟩
 have HL2:Hid (qN ka kb b l=(lT (pT l 0) (l.drop 0)&&m5 ka kb b l)):=by
  show _=_;have q:(decide ((1:Int)≤s0)&&(s0 !=1||b==0))=true:=by
   have q1:decide ((1:Int)≤s0)=true:=ae;rw[q1,eF];by_cases h3:s0=1
   ·have h4:b=0:=by
     apply Classical.byContradiction;intro h4;exact h2 ⟨h3,h4⟩
    subst h4;simp
   have:(s0 !=1)=true:=bne_iff_ne.2 h3;rw[this,Bool.true_or]
  rw[HL,q,eF];rfl
 have HI:Hid (jR ((w.alloc (aW ka kb)).alloc (.cells #[jK b,.slice (bH bb off) l.length cap] 113)) w 24 #[jK ka,jK kb]∧jR ((w.alloc (aW ka kb)).alloc (.cells #[jK b,.slice (bH bb off) l.length cap] 113)) (w.heap.size+1) 113 #[jK b,.slice (bH bb off) l.length cap]∧Below w w ((w.alloc (aW ka kb)).alloc (.cells #[jK b,.slice (bH bb off) l.length cap] 113))∧qN ka kb b l=(lT (pT l 0) (l.drop 0)&&m5 ka kb b l)):=by
  have h:=jR.new (w.alloc (aW ka kb)) 113 #[jK b,.slice (bH bb off) l.length cap];have e1:(w.alloc (aW ka kb)).heap.size=w.heap.size+1:=lV;rw[e1]at h;exact⟨(jR.new w _ _).alloc _,h,Ct,HL2⟩
 have SO:=ah (rfl:l.length=l.length)
 have HQC:=ah (Im ka kb b (bH bb off) l cap hl HBU HF)
 clear HL HL2 Ct HBU
 generalize hcr:qN ka kb b l=cr at*
 clear hcr
 have hnl:∃n,n=l.length:=⟨_,rfl⟩
 obtain⟨n,hn⟩:=hnl
 have HQ:Hid (∀w',Eb w' w' (bH bb off) l→jE Tryz.prog 170 #[cI ka kb,jK b,.slice (bH bb off) n cap] w' fun e w2=>(∃k:Int,e=.returned (.tuple #[jJ k,.bool (m5 ka kb b l)]))∧Below w' w' w2):=fun w' h=>by rw[hn];exact HQC w' h
 clear HQC
 have hg:(s0==1)=false∨(s0==1)=true∧(b !=0)=false:=by
  by_cases h3:s0=1
  ·refine .inr ⟨beq_iff_eq.2 h3,?_⟩;by_cases h4:b=0
   ·rw[h4];rfl
   exact absurd ⟨h3,h4⟩ h2
  exact .inl (beq_false_of_ne h3)
 clear h2 h1
 rw[←hn]at HI z0 z0' b30 af9 hi0 au5 hl h0
 rw[←hn]
 have HN:Hid (n=l.length):=hn
 clear hn hpos hx0
 rcases hg with e1|⟨e1,e2⟩
 all_goals
  go_in;go_wp2_with fail;generalize(w.alloc (aW ka kb)).alloc (.cells #[jK b,.slice (bH bb off) n cap] 113)=V0 at*
  go_loopw[42] (fun i wr=>∃k:Nat,i=(aJ k)∧k≤n∧Hid (jR wr w 24 #[jK ka,jK kb]∧jR wr (w.heap.size+1) 113 #[jK b,.slice (bH bb off) n cap]∧Below w w wr∧cr=(lT (pT l k) (l.drop k)&&m5 ka kb b l))) (fun i _=>n-(av i).toNat)
  case atStart=>exact⟨0,rfl,be _,HI⟩
  clear HI g0;obtain⟨k,rfl,hk,HI⟩:=hrel;have HK:=ah HI.1;have HG:=ah HI.2.1;have HB:=ah HI.2.2.1;have HC2:=ah HI.2.2.2;have hw0:w.heap.size≤wr.heap.size:=HB.size;have zb:bb<wr.heap.size:=jS;clear HI;by_cases hlt:k<n
  ·have hkl:k<l.length:=by rw[←HN];exact hlt
   have hi1:(0:Int)≤k:=jS;have hi2:(k:Int)<n:=jS;obtain⟨q0,q1,q2,q3⟩:=HC k hkl;have g0:=(HB.cell (p:=⟨bb,off+k*4,none⟩) hbl).trans q0;have g1:=(HB.cell (p:=⟨bb,off+k*4+1,none⟩) hbl).trans q1;have g2:=(HB.cell (p:=⟨bb,off+k*4+2,none⟩) hbl).trans q2;have g3:=(HB.cell (p:=⟨bb,off+k*4+3,none⟩) hbl).trans q3;replace HC2:Hid (cr=((sO (pT l k) l[k]&&lT (pT l (k+1)) (l.drop (k+1)))&&m5 ka kb b l)):=by
    have:=HC2;rw[Py hkl]at this;exact this
   have HP:Hid (0<k→∃p:mV,pT l k=some p∧U p.seq∧IZ wr bb (off+(k-1)*4) p):=by
    intro h0;obtain⟨p0,p1,p2,p3⟩:=HC (k-1) jS;refine⟨l[k-1],?_,(HF _ (AU _)).1.seq,(HB.cell (p:=⟨bb,_,none⟩) hbl).trans p0,(HB.cell (p:=⟨bb,_,none⟩) hbl).trans p1,(HB.cell (p:=⟨bb,_,none⟩) hbl).trans p2,(HB.cell (p:=⟨bb,_,none⟩) hbl).trans p3⟩;unfold pT;rw[if_neg jS,an jS]
   clear q0 q1 q2 q3;generalize l[k]=x at*
   obtain⟨xs,xt,xx,xm⟩:=x;simp only at g0 g1 g2 g3;have zr:wr.heap.size<(wr.alloc (rU 25 xs xt xx xm)).heap.size:=lV;have HX:=ah (jR.new wr 59 #[jK xs,jK xt,jL xx,jK xm]);have HBa:=ah (HB.alloc hw0 (rU 25 xs xt xx xm));have HKa:=ah (HK.alloc (rU 25 xs xt xx xm));have HGa:=ah (HG.alloc (rU 25 xs xt xx xm));by_cases h2:xx.size≤200
   case neg=>
    have b2:decide ((200:Int)<xx.size)=true:=ae;have b2':decide (200<xx.size)=true:=ae;have hcr:cr=false:=by
     rw[HC2];unfold sO;rw[decide_eq_false h2,eO,eO,eO]
    clear HC2 h2;subst hcr;go_wp2;go_ret;exact⟨rfl,HBa⟩
   have b2:decide ((200:Int)<xx.size)=false:=ag;have b2':decide (200<xx.size)=false:=ag;replace HC2:Hid (cr=(((match pT l k with|none=>true|some a=>n9 a ⟨xs,xt,xx,xm⟩)&&lT (pT l (k+1)) (l.drop (k+1)))&&m5 ka kb b l)):=by
    have:=HC2;unfold sO at this;rw[decide_eq_true h2,eF]at this;exact this
   clear h2;by_cases hk0:k=0
   ·subst hk0;replace HC2:Hid (cr=(lT (pT l (0+1)) (l.drop (0+1))&&m5 ka kb b l)):=HC2;simp only[fh,ip]at g0 g1 g2 g3;clear HP;go_wp2_with fail;clear g0 g1 g2 g3;generalize wr.alloc (rU 25 xs xt xx xm)=V at*
    refine bi1 (S:=fun _=>True) oo trivial (fun hHeld=>?_);refine re hHeld ?_;refine tkn hHeld ?_;refine re hHeld ?_;refine hdn ?_;clear hHeld;go_wp2;go_roundw
    case rel=>exact⟨0+1,rfl,jS,⟨HKa.drew,HGa.drew,HBa.drew,HC2⟩⟩
    exact No
   obtain⟨p,hp,hpu,p0,p1,p2,p3⟩:=HP jS;rw[hp]at HC2;have QF:=ah (Hm p ⟨xs,xt,xx,xm⟩ hpu);have Lw:Hid (cr=((n9 p ⟨xs,xt,xx,xm⟩&&lT (pT l (k+1)) (l.drop (k+1)))&&m5 ka kb b l)):=HC2;clear HP hp HC2;generalize n9 p ⟨xs,xt,xx,xm⟩=fb at*
   obtain⟨ps,pt,px,pm⟩:=p;unfold Hw at QF;simp only at p0 p1 p2 p3 QF;have bk:decide ((0:Int)<k)=true:=ae;have bk':decide (0<k)=true:=ae;have hw:IntKind.i64.wrap ((k:Int)-1)=((k-1:Nat):Int):=by rw[dv _ jS];omega
   have hj1:(0:Int)≤((k-1:Nat):Int):=jS;have hj2:((k-1:Nat):Int)<(n:Int):=jS;have p0':=(dt wr (rU 25 xs xt xx xm) ⟨bb,off+(k-1)*4,none⟩ zb).trans p0;have p1':=(dt wr (rU 25 xs xt xx xm) ⟨bb,off+(k-1)*4+1,none⟩ zb).trans p1;have p2':=(dt wr (rU 25 xs xt xx xm) ⟨bb,off+(k-1)*4+2,none⟩ zb).trans p2;have p3':=(dt wr (rU 25 xs xt xx xm) ⟨bb,off+(k-1)*4+3,none⟩ zb).trans p3;clear p0 p1 p2 p3;have l1:=ce HGa 1;go_wp2_with fail;clear g0 g1 g2 g3;generalize wr.alloc (rU 25 xs xt xx xm)=V at*
   have x0:=ce HX 0;have x1:=ce HX 1;have x2:=ce HX 2;have x3:=ce HX 3;refine bi1 (S:=fun w9=>w9.cell? (bS w)=some (.slice (bH bb off) n cap)∧w9.cell? ⟨wr,0,none⟩=some (.int .u64 xs)∧w9.cell? ⟨wr,1,none⟩=some (.int .u64 xt)∧w9.cell? ⟨wr,2,none⟩=some (.string xx)∧w9.cell? ⟨wr,3,none⟩=some (.int .u64 xm)∧w9.cell? ⟨bb,off+(k-1)*4,none⟩=some (.int .u64 ps)∧w9.cell? ⟨bb,off+(k-1)*4+1,none⟩=some (.int .u64 pt)∧w9.cell? ⟨bb,off+(k-1)*4+2,none⟩=some (.string px)∧w9.cell? ⟨bb,off+(k-1)*4+3,none⟩=some (.int .u64 pm)) oo ⟨l1,x0,x1,x2,x3,p0',p1',p2',p3'⟩ (fun hHeld=>?_);refine re hHeld ?_;refine pL 10 fun K hK=>?_;go_simp;refine(QF V.drew).mono ?_;rintro e w2⟨rfl,hb2⟩;have y0:w.heap.size<V.drew.heap.size:=HKa.lt;have y1:w.heap.size+1<V.drew.heap.size:=HGa.lt;have y2:bb<V.drew.heap.size:=Nat.lt_trans zb zr;have y3:wr.heap.size<V.drew.heap.size:=zr;refine hK.out _ _ ⟨(hb2.cell (p:=(bS w)) y1).trans l1,(hb2.cell (p:=⟨wr,0,none⟩) y3).trans x0,(hb2.cell (p:=⟨wr,1,none⟩) y3).trans x1,(hb2.cell (p:=⟨wr,2,none⟩) y3).trans x2,(hb2.cell (p:=⟨wr,3,none⟩) y3).trans x3,(hb2.cell (p:=⟨bb,off+(k-1)*4,none⟩) y2).trans p0',(hb2.cell (p:=⟨bb,off+(k-1)*4+1,none⟩) y2).trans p1',(hb2.cell (p:=⟨bb,off+(k-1)*4+2,none⟩) y2).trans p2',(hb2.cell (p:=⟨bb,off+(k-1)*4+3,none⟩) y2).trans p3'⟩ (fun hHeld=>?_);clear hK K;refine az ?_;have Cs:Hid (jR w2 w 24 #[jK ka,jK kb]):=(hb2.block _ y0).trans HKa;have O9:Hid (jR w2 (w.heap.size+1) 113 #[jK b,.slice (bH bb off) n cap]):=(hb2.block _ y1).trans HGa;have HB3:(bB w w2):=HBa.drew.trans (hb2.mono HBa.size);clear hb2 l1 x0 x1 x2 x3 p0' p1' p2' p3' QF HX HBa HKa HGa HB HK HG
   cases fb with
   |true=>
    rw[eF]at Lw;refine re hHeld ?_;refine hdn ?_;clear hHeld;go_wp2;go_roundw
    case rel=>exact⟨k+1,rfl,jS,⟨Cs,O9,HB3,Lw⟩⟩
    exact No
   |false=>
    rw[eO,eO]at Lw;refine re hHeld ?_;refine hdn ?_;clear hHeld;have hcr:=Lw;subst hcr;clear Lw;go_wp2;go_ret;exact⟨rfl,HB3⟩
  have hkn:k=n:=jS;have hcr:cr=m5 ka kb b l:=by rw[HC2,hkn,HN,List.drop_length];rfl
  subst hkn;have QC:=ah (HQ wr (HS.later HB));rw[←hcr]at QC;have x0:=ce HK 0;have x1:=ce HK 1;have l0:=ce HG 0;have l1:=ce HG 1;have yk:=HK.lt;have yg:=HG.lt;clear hcr HC2 hlt HK HG HQ;go_wp2_with fail;refine QC.mono ?_;rintro e w2⟨⟨kk,rfl⟩,hb2⟩;have HB3:=ah (HB.trans (hb2.mono hw0));clear hb2 QC x0 x1 l0 l1;go_wp2;go_ret;exact⟨rfl,HB3⟩
structure SbN where
def bN:SbN:=⟨⟩
instance aY4:CoeOut SbN (Array jD):=⟨fun _=>#[.int .u64 0,.slice none 0 0]⟩
instance aZ7(x0:List mV)(x1:Int)(x2:ByteArray):CoeOut (IP 20 x0 x1 x2) (Array jD):=⟨fun _=>#[.int .u64 (kO x0+1),.int .u64 x1,.string x2,.int .u64 0]⟩
instance aZ2(x0:Int)(x1:Option jG)(x2:List mV)(x3:Nat):CoeOut (IN 44 x0 x1 x2 x3) Obj:=⟨fun _=>(.cells #[.int .u64 x0,.slice x1 x2.length x3] 113)⟩
theorem Tryz.Md:(Tryz.prog.info? 59).map (fun i=>(i.zero,i.size,i.bytes))=some (some (.agg #[jK 0,jK 0,aF,jK 0]),4,40):=oo
noncomputable def newE(ka kb b:Int)(l:List mV)(at_:Int)(text:ByteArray):mV:=⟨kO l+1,at_,text,qC ka kb (pH b l) ⟨kO l+1,at_,text,0⟩⟩
def late(l:List mV)(at_:Int):Bool:=match l.getLast? with|none=>false|some x=>decide (at_<x.tm)
noncomputable def ru(ka kb b:Int)(l:List mV)(at_:Int)(text:ByteArray):Option (Int×List mV):=
 if(qN ka kb b l&&decide (text.size≤200)&&(kO l !=18446744073709551615)&& !late l at_)=true then
  some (if l.length=30 then((l.head?.map (·.sum)).getD 0,l.tail++[newE ka kb b l at_ text])else(b,l++[newE ka kb b l at_ text]))else none
def pQ(w:jC)(r:Option (Int×List mV))(e:bi6)(w':jC):Prop:=
 Below w w w'∧(match r with
  |none=>e=.returned (.tuple #[.agg #[jK 0,jM],jJ 160])
  |some (b,l)=>∃A c,e=.returned (.tuple #[.agg #[jK b,jN A l c],jJ 0])∧w'.ownsRow w 59 4 (.slice A l.length c) l.length (l.flatMap nE))
variable{n:Nat}
theorem Tu{off cap:Nat}(hn:0<n)(hc:n≤cap)(h2:1<cap)(w:jC):(gI 53 (.slice (bH b off) n cap) (some (.int .i64 1)) none none).run Tryz.prog w=.ok (.slice (some ⟨b,off+4,none⟩) (n-1) (cap-1)) w:=by
 have h3:¬cap=1:=jS;simp[gI,go_sem,bi8 Tryz.underlying53,Instr.sliceBounds,h3,hn,hc];intro h;omega
theorem tY{g:Nat}{t:jH}{cs:List jD}(h:jR w g t cs.toArray):Rd w w (aC g) cs:=fun _=>⟨g,0,rfl,h.lt,fun j u hj=>by rw[au,h.cell];simpa using hj⟩
theorem Rd.ae5{off:Nat}{xs:List jD}(h:Rd w B (bH b off) xs):Rd w B (some ⟨b,off+k,none⟩) (xs.drop k):=fun hl=>by
 obtain⟨b',off',e,hb,hc⟩:=h (by rintro rfl;simp at hl)
 cases e
 exact⟨b,off+k,rfl,hb,fun j u hj=>by rw[gW];exact hc _ u (by rw[←hj,fL])⟩
variable{r:Option (Int×List mV)}
theorem pQ.no(h:r=none)(hb:Below w w w'):pQ w r (.returned (.tuple #[.agg #[jK 0,jM],jJ 160])) w':=⟨hb,by rw[h]⟩
variable{b:Int}{A:Option jG}
theorem pQ.yes{c:Nat}(h:r=some (b,l))(hn:n=l.length)(hb:Below w w w')(ho:w'.ownsRow w 59 4 (.slice A n c) n (l.flatMap nE)):
 pQ w r (.returned (.tuple #[.agg #[jK b,.slice A n c],jJ 0])) w':=⟨hb,by rw[h];subst hn;exact⟨A,c,rfl,ho⟩⟩
theorem Es(hf:∀x∈l,qL x∧x.text.size≤1000):U (kO l):=by
 unfold kO
 cases h:l.getLast? with
 |none=>exact⟨by show(0:Int)≤0;omega,by show(0:Int)≤_;omega⟩
 |some x=>exact(hf x (List.mem_of_getLast? h)).1.seq
theorem Mj(hb:U b)(hf:∀x∈l,qL x∧x.text.size≤1000):U (pH b l):=by
 unfold pH
 cases h:l.getLast? with
 |none=>exact hb
 |some x=>exact(hf x (List.mem_of_getLast? h)).1.sum
theorem RZ(x:mV):∀u∈nE x,u.oneCell'=true:=fun u hu=>by
 simp[nE]at hu;rcases hu with rfl|rfl|rfl|rfl<;>rfl
theorem Oq(l:List mV):∀u∈l.flatMap nE,u.oneCell'=true:=fun u hu=>by
 obtain⟨x,_,h⟩:=ir.1 hu;exact RZ x u h
theorem Bq(ka kb b at_:Int)(text:ByteArray)(A:Option jG)(l:List mV)(cap:Nat)(hl:l.length≤1000)(hcap:l.length≤cap)(hb:U b)(ha:U at_)(ht:text.size≤1000)(hf:∀x∈l,qL x∧x.text.size≤1000)(w:jC)(hS:Eb w w.heap.size A l):
 jE Tryz.prog 92 #[.agg #[.int .u64 ka,.int .u64 kb],.agg #[.int .u64 b,.slice A l.length cap],.int .u64 at_,.string text] w (pQ w (ru ka kb b l at_ text)):=by
 have HS:=ah hS
 have HF:=ah hf
 have HLU:=ah (Es hf)
 have HHU:=ah (Mj hb hf)
 have QR:=ah (Lm ka kb b A l cap hl hb hf)
 have QL:=ah (last_any b A l cap hl)
 have QH:=ah (Rq b A l cap hl)
 have QS:=ah (fun c x h1 h2 h3=>IG ka kb c x h1 h2 h3)
 have SV:Hid (jR (((w.alloc (aR ka kb)).alloc (rU 44 b A l cap)).alloc (.cells bN 113)) w 24 #[jK ka,jK kb]∧jR (((w.alloc (aR ka kb)).alloc (rU 44 b A l cap)).alloc (.cells bN 113)) (w.heap.size+1) 113 #[jK b,jN A l cap]∧jR (((w.alloc (aR ka kb)).alloc (rU 44 b A l cap)).alloc (.cells bN 113)) (aN w) 113 bN∧Below w w (((w.alloc (aR ka kb)).alloc (rU 44 b A l cap)).alloc (.cells bN 113))):=by
  have e1:(w.alloc (aR ka kb)).heap.size=w.heap.size+1:=lV;have e2:((w.alloc (aR ka kb)).alloc (rU 44 b A l cap)).heap.size=w.heap.size+1+1:=lV;have h1:=jR.new (w.alloc (aR ka kb)) 113 #[jK b,jN A l cap];have h2:=jR.new ((w.alloc (aR ka kb)).alloc (rU 44 b A l cap)) 113 bN;rw[e1]at h1;rw[e2]at h2;exact⟨((jR.new w _ _).alloc _).alloc _,h1.alloc _,h2,jP (jP (jP (jQ w) _) _) _⟩
 obtain⟨i0,hi0,hz0,hz1,hz2⟩:=bi5 Tryz.Md
 generalize hAF:ru ka kb b l at_ text=af at*
 have WC:=ah hAF
 clear hAF hS hf hb
 go_in
 go_wp2_with fail
 generalize(((w.alloc (aR ka kb)).alloc (rU 44 b A l cap)).alloc (.cells bN 113))=W0 at*
 obtain⟨hk,hg,hr,hbb⟩:=SV.out
 have HK:=ai hk
 have HG:=ai hg
 have HR:=ai hr
 have HB:=ai hbb
 clear SV hk hg hr hbb
 have x0:=HK.cell 0
 have x1:=HK.cell 1
 have l0:=HG.cell 0
 have l1:=HG.cell 1
 have r0:=HR.cell 0
 have r1:=HR.cell 1
 simp only[bh,bm,bo]at x0 x1 l0 l1 r0 r1
 have yk:=HK.lt
 have yg:=HG.lt
 have yr:=HR.lt
 have fz:∀i,W0.frozen? ⟨w.heap.size+1+1,i,none⟩=false:=fun i=>HR.frozen i
 go_wp2_with fail
 refine(QR W0 (HS.later HB)).mono ?_
 rintro e w1⟨rfl,hb1⟩
 replace HK:=ah (HK.later hb1)
 replace HG:=ah (HG.later hb1)
 replace HR:=ah (HR.later hb1)
 replace HB:=ah (HB.trans (hb1.mono HB.size))
 clear hb1 QR
 clear x0 x1 l0 l1 r0 r1 yk yg yr fz
 have x0:=HK.cell 0
 have x1:=HK.cell 1
 have l0:=HG.cell 0
 have l1:=HG.cell 1
 have r0:=HR.cell 0
 have r1:=HR.cell 1
 simp only[bh,bm,bo]at x0 x1 l0 l1 r0 r1
 have yk:=HK.lt
 have yg:=HG.lt
 have yr:=HR.lt
 have fz:∀i,w1.frozen? ⟨w.heap.size+1+1,i,none⟩=false:=fun i=>HR.frozen i
 cases hrt:qN ka kb b l with
 |false=>
  have HN:Hid (af=none):=by show _=_;rw[←WC,ru,hrt];rfl
  have HR2:=sD (x:=.int .u64 0) (y:=.slice none 0 0) HR;have HB2:=ah ((HB.setCell (p:=(aG w)) (by show(aU w);omega) (.int .u64 0)).setCell (p:=(bZ w)) (by show(aU w);omega) aO);go_wp2_with fail;have k0:=HR2.cell 0;have k1:=HR2.cell 1;simp only[bh,bm,bo]at k0 k1;refine jF (v:=.tuple #[.agg bN,jJ 160]) (by simp[results,Tryz.results92,go_sem,k0,k1]) rfl (pQ.no HN HB2)
 |true=>
  by_cases h2:text.size≤200
  case neg=>
   have b2:decide ((200:Int)<text.size)=true:=ae;have b2':decide (200<text.size)=true:=ae;have HN:Hid (af=none):=by show _=_;rw[←WC,ru,decide_eq_false h2,Bool.and_false,eO,eO];rfl
   have HR2:=sD (x:=.int .u64 0) (y:=.slice none 0 0) HR;have HB2:=ah ((HB.setCell (p:=(aG w)) (by show(aU w);omega) (.int .u64 0)).setCell (p:=(bZ w)) (by show(aU w);omega) aO);go_wp2_with fail;have k0:=HR2.cell 0;have k1:=HR2.cell 1;simp only[bh,bm,bo]at k0 k1;refine jF (v:=.tuple #[.agg bN,jJ 160]) (by simp[results,Tryz.results92,go_sem,k0,k1]) rfl (pQ.no HN HB2)
  have b2:decide ((200:Int)<text.size)=false:=ag;have b2':decide (200<text.size)=false:=ag;have HTX:=ah h2;clear h2;have QL1:=ah (QL w1 (HS.later HB));go_wp2_with fail;refine QL1.mono ?_;rintro e w2⟨rfl,hb2⟩;replace HK:=ah (HK.later hb2);replace HG:=ah (HG.later hb2);replace HR:=ah (HR.later hb2);replace HB:=ah (HB.trans (hb2.mono HB.size));clear hb2 QL1;clear x0 x1 l0 l1 r0 r1 yk yg yr fz;have x0:=HK.cell 0;have x1:=HK.cell 1;have l0:=HG.cell 0;have l1:=HG.cell 1;have r0:=HR.cell 0;have r1:=HR.cell 1;simp only[bh,bm,bo]at x0 x1 l0 l1 r0 r1;have yk:=HK.lt;have yg:=HG.lt;have yr:=HR.lt;have fz:∀i,w2.frozen? ⟨w.heap.size+1+1,i,none⟩=false:=fun i=>HR.frozen i
  cases hlm:(kO l==18446744073709551615)with
  |true=>
   have HN:Hid (af=none):=by show _=_;rw[←WC,ru,bne,hlm];simp
   have HR2:=sD (x:=.int .u64 0) (y:=.slice none 0 0) HR;have HB2:=ah ((HB.setCell (p:=(aG w)) (by show(aU w);omega) (.int .u64 0)).setCell (p:=(bZ w)) (by show(aU w);omega) aO);go_wp2_with fail;have k0:=HR2.cell 0;have k1:=HR2.cell 1;simp only[bh,bm,bo]at k0 k1;refine jF (v:=.tuple #[.agg bN,jJ 160]) (by simp[results,Tryz.results92,go_sem,k0,k1]) rfl (pQ.no HN HB2)
  |false=>
   cases hlt:late l at_ with
   |true=>
    have h0:0<l.length:=by
     cases l with
     |nil=>cases hlt
     |cons x r=>simp
    obtain⟨bb,off,hA,hbl,hc⟩:=HS.at_ h0;subst hA;have q1:=(hc (l.length-1) jS).c1;have z1:=(HB.cell (p:=⟨bb,off+(l.length-1)*4+1,none⟩) hbl).trans q1;have hd:decide (at_<(l[l.length-1]'jS).tm)=true:=by
     unfold late at hlt;rw[fv,an jS]at hlt;exact hlt
    generalize(l[l.length-1]'jS).tm=tm at*
    have hp1:decide ((0:Int)<l.length)=true:=ae;have hp2:decide (0<l.length)=true:=decide_eq_true h0;have hw:IntKind.i64.wrap ((l.length:Int)-1)=((l.length-1:Nat):Int):=by rw[dv _ jS];omega
    have hj1:(0:Int)≤((l.length-1:Nat):Int):=jS;have hj2:((l.length-1:Nat):Int)<(l.length:Int):=jS;have zb:bb<w2.heap.size:=by have:=HB.size;omega
    clear q1 hc;have HN:Hid (af=none):=by show _=_;rw[←WC.out,ru,hlt];simp
    have HR2:=sD (x:=.int .u64 0) (y:=.slice none 0 0) HR.out;have HB2:=ai ((HB.out.setCell (p:=(aG w)) (by show(aU w);omega) (.int .u64 0)).setCell (p:=(bZ w)) (by show(aU w);omega) aO);go_wp2_with fail;have k0:=HR2.cell 0;have k1:=HR2.cell 1;simp only[bh,bm,bo]at k0 k1;refine jF (v:=.tuple #[.agg bN,.int .i64 160]) (by simp[results,Tryz.results92,go_sem,k0,k1]) rfl (pQ.no HN.out HB2.out)
   |false=>
    have oH:Hid (af=some (if l.length=30 then((l.head?.map (·.sum)).getD 0,l.tail++[newE ka kb b l at_ text])else(b,l++[newE ka kb b l at_ text]))):=by
     show _=_;rw[←WC.out,ru,hrt,bne,hlm,hlt,decide_eq_true HTX.out];rfl
    have OT:Hid (newE ka kb b l at_ text=⟨kO l+1,at_,text,qC ka kb (pH b l) ⟨kO l+1,at_,text,0⟩⟩):=rfl;have hu2:kO l+1≤18446744073709551615:=by have:=HLU.2;have:=ne_of_beq_false hlm;omega
    have hu1:0≤kO l+1:=by have:=HLU.1;omega
    have hwl:IntKind.u64.wrap (kO l+1)=kO l+1:=gC _ ⟨hu1,hu2⟩;clear hrt WC;obtain⟨hgd,hgd'⟩:True∧True:=⟨trivial,trivial⟩;have SR:Hid (l.length=0∨∃(bb off:Nat)(tm:Int),Hid (l.length≠0)∧A=some ⟨bb,off,none⟩∧bb<w.heap.size∧w.cell? ⟨bb,off+(l.length-1)*4+1,none⟩=some (.int .u64 tm)∧decide (at_<tm)=false):=by
     by_cases h0:l.length=0
     ·exact .inl h0
     obtain⟨bb,off,hA,hbl,hc⟩:=HS.at_ jS;refine .inr ⟨bb,off,_,h0,hA,hbl,(hc (l.length-1) (by omega)).c1,?_⟩;unfold late at hlt;rw[fv,an (by omega)]at hlt;exact hlt
    clear hlt hgd hgd';rcases SR.out with h0|⟨bb,off,tm,Zn,hA,hbl,q1,hd⟩
    case' inl=>
     have hp1:decide ((0:Int)<(l.length:Int))=false:=decide_eq_false jS;have hp2:decide (0<l.length)=false:=decide_eq_false jS;clear h0 SR;have QL2:=ah (QL w2 (HS.later HB));go_wp2_with fail;clear hp1 hp2
    case' inr=>
     subst hA;have z1:=(HB.cell (p:=⟨bb,off+(l.length-1)*4+1,none⟩) hbl).trans q1;have hp1:decide ((0:Int)<l.length)=true:=decide_eq_true (by
      have:=Zn.out;omega)
     have hp2:decide (0<l.length)=true:=decide_eq_true (by
      have:=Zn.out;omega)
     have hw:IntKind.i64.wrap ((l.length:Int)-1)=((l.length-1:Nat):Int):=by rw[dv _ jS];have:=Zn.out;omega
     have hj1:(0:Int)≤((l.length-1:Nat):Int):=jS;have hj2:((l.length-1:Nat):Int)<(l.length:Int):=by have:=Zn.out;omega
     have zb:bb<w2.heap.size:=by have:=HB.size;omega
     clear q1 SR;have QL2:=ah (QL w2 (HS.later HB));go_wp2_with fail;clear z1 hp1 hp2 hw hj1 hj2 zb hd;generalize(some (⟨bb,off,none⟩:jG))=A at*
    all_goals
     refine QL2.mono ?_;rintro e w3⟨rfl,hb3⟩;replace HK:=ah (HK.later hb3);replace HG:=ah (HG.later hb3);replace HR:=ah (HR.later hb3);replace HB:=ah (HB.trans (hb3.mono HB.size));clear hb3 QL2;clear x0 x1 l0 l1 r0 r1 yk yg yr fz;have x0:=HK.cell 0;have x1:=HK.cell 1;have l0:=HG.cell 0;have l1:=HG.cell 1;have r0:=HR.cell 0;have r1:=HR.cell 1;simp only[bh,bm,bo]at x0 x1 l0 l1 r0 r1;have yk:=HK.lt;have yg:=HG.lt;have yr:=HR.lt;have fz:∀i,w3.frozen? ⟨w.heap.size+1+1,i,none⟩=false:=fun i=>HR.frozen i;have HX:=ah (jR.new w3 59 (oZ 20 l at_ text));have hx3:w.heap.size+1+1<w3.heap.size:=HR.lt;replace HB:=ah (HB.alloc HB.size (.cells (oZ 20 l at_ text) 59));replace HK:=ah (HK.alloc (.cells (oZ 20 l at_ text) 59));replace HG:=ah (HG.alloc (.cells (oZ 20 l at_ text) 59));replace HR:=ah (HR.alloc (.cells (oZ 20 l at_ text) 59));go_wp2_with fail;generalize w3.alloc (.cells (oZ 20 l at_ text) 59)=V at*
     clear x0 x1 l0 l1 r0 r1 yk yg yr fz;have x0:=HK.cell 0;have x1:=HK.cell 1;have l0:=HG.cell 0;have l1:=HG.cell 1;have m0:=HX.cell 0;have m1:=HX.cell 1;have m2:=HX.cell 2;have m3:=HX.cell 3;simp only[bh,bm,bo]at x0 x1 l0 l1 m0 m1 m2 m3;refine kG (S:=fun w9=>w9.cell? (lz 43 w)=some (.int .u64 ka)∧w9.cell? ⟨w,1,none⟩=some (.int .u64 kb)∧w9.cell? (aE w)=some (.int .u64 b)∧w9.cell? (bS w)=some (.slice A l.length cap)∧w9.cell? (lz 43 w3)=some (.int .u64 (kO l+1))∧w9.cell? ⟨w3,1,none⟩=some (.int .u64 at_)∧w9.cell? ⟨w3,2,none⟩=some (.string text)∧w9.cell? ⟨w3,3,none⟩=some (.int .u64 0)) (s:=6) oo ?_;refine sU ⟨x0,x1,l0,l1,m0,m1,m2,m3⟩ ?_;replace HK:Hid (jR V.drew w 24 #[jK ka,jK kb]):=HK;replace HG:Hid (jR V.drew (w.heap.size+1) 113 #[jK b,jN A l cap]):=HG;replace HR:Hid (jR V.drew (aN w) 113 bN):=HR;replace HX:Hid (jR V.drew w3 59 (oZ 20 l at_ text)):=HX;replace HB:=ah HB.drew;clear x0 x1 l0 l1 m0 m1 m2 m3;generalize V.drew=V2 at*
     have QH1:=ah (QH V2 (HS.later HB));refine oY 2 fun K hK=>?_;go_simp;refine QH1.mono ?_;rintro e w4⟨rfl,hb4⟩;replace HK:=ah (HK.later hb4);replace HG:=ah (HG.later hb4);replace HR:=ah (HR.later hb4);replace HX:=ah (HX.later hb4);replace HB:=ah (HB.trans (hb4.mono HB.size));clear hb4 QH1;have x0:=HK.cell 0;have x1:=HK.cell 1;have l0:=HG.cell 0;have l1:=HG.cell 1;have m0:=HX.cell 0;have m1:=HX.cell 1;have m2:=HX.cell 2;have m3:=HX.cell 3;simp only[bh,bm,bo]at x0 x1 l0 l1 m0 m1 m2 m3;refine hK.out _ _ (fun _=>⟨x0,x1,l0,l1,m0,m1,m2,m3⟩) ?_;clear hK K;refine az ?_;have Zh:=ah (QS (pH b l) ⟨kO l+1,at_,text,0⟩ HHU ⟨⟨hu1,hu2⟩,ha,⟨by show(0:Int)≤0;omega,by show(0:Int)≤_;omega⟩⟩ ht w4);unfold Hw at Zh;simp only at Zh;refine oY 4 fun K hK=>?_;go_simp;refine Zh.mono ?_;rintro e w5⟨rfl,hb5⟩;clear x0 x1 l0 l1 m0 m1 m2 m3;replace HK:=ah (HK.later hb5);replace HG:=ah (HG.later hb5);replace HR:=ah (HR.later hb5);replace HX:=ah (HX.later hb5);replace HB:=ah (HB.trans (hb5.mono HB.size));clear hb5 Zh;have x0:=HK.cell 0;have x1:=HK.cell 1;have l0:=HG.cell 0;have l1:=HG.cell 1;have m0:=HX.cell 0;have m1:=HX.cell 1;have m2:=HX.cell 2;have m3:=HX.cell 3;simp only[bh,bm,bo]at x0 x1 l0 l1 m0 m1 m2 m3;refine hK.out _ _ (fun _=>⟨x0,x1,l0,l1,m0,m1,m2,m3⟩) ?_;clear hK K;refine az ?_;generalize hsm:qC ka kb (pH b l) ⟨kO l+1,at_,text,0⟩=sm at*
     have zx:=HX.lt;have fx:∀i,w5.frozen? ⟨w3,i,none⟩=false:=fun i=>HX.frozen i;refine sU ⟨x0,x1,l0,l1,m0,m1,m2,m3⟩ ?_;refine oY 6 fun K hK=>?_;go_simp;refine hK.out _ _ (fun h=>qch) ?_;clear hK K;refine az ?_;refine yi ?_;replace HX:=HX.kY 3 (.int .u64 sm);simp only[bd,ak,am]at HX;replace HX:=ah HX;replace HK:=ah (HK.far (p:=⟨w3,3,none⟩) (by show w.heap.size≠w3.heap.size;omega) (.int .u64 sm));replace HG:=ah (HG.far (p:=⟨w3,3,none⟩) (by show w.heap.size+1≠w3.heap.size;omega) (.int .u64 sm));replace HR:=ah (HR.far (p:=⟨w3,3,none⟩) (by show w.heap.size+1+1≠w3.heap.size;omega) (.int .u64 sm));replace HB:=ah (HB.setCell (p:=⟨w3,3,none⟩) (by show w.heap.size≤w3.heap.size;omega) (.int .u64 sm));clear x0 x1 l0 l1 m0 m1 m2 m3 zx fx;go_wp2_with fail;generalize w5.setCell ⟨w3,3,none⟩ (.int .u64 sm)=V5 at*
     have l0:=HG.cell 0;have l1:=HG.cell 1;simp only[bh,bm,bo]at l0 l1;refine bi1 (S:=fun w9=>w9.cell? (aE w)=some (.int .u64 b)∧w9.cell? (bS w)=some (.slice A l.length cap)) oo ⟨l0,l1⟩ (fun hHeld=>?_);refine re hHeld ?_;refine hdn ?_;clear hHeld;replace HR:Hid (jR V5.drew (aN w) 113 bN):=HR;replace HX:Hid (jR V5.drew w3 59 #[jK (kO l+1),jK at_,jL text,jK sm]):=HX;replace HB:=ah HB.drew;clear l0 l1 HK HG;generalize V5.drew=V6 at*
     generalize kO l+1=sq at*
     by_cases h30:l.length=30
     case' neg=>
      have z30:((l.length:Int)==30)=false:=beq_false_of_ne jS;have ZE:(l.length==30)=false:=beq_false_of_ne jS;have Ww:Hid (af=some (b,l++[newE ka kb b l at_ text])):=by show _=_;rw[oH,if_neg h30]
      have td:Hid (Rd w w A (l.flatMap nE)):=HS;go_wp2_with fail;clear z30 ZE h30 oH HS;generalize b=bq at*
      generalize hnq:l.length=nq at*
      have Te:=ah hnq;clear hnq;generalize cap=cq at*
      generalize A=Aq at*
      generalize l=lq at*
      generalize V6=V7 at*
     case' pos=>
      have z30:((l.length:Int)==30)=true:=beq_iff_eq.2 jS;have ZE:(l.length==30)=true:=beq_iff_eq.2 h30;obtain⟨b9,Ai,e9,av3,hc9⟩:=HS.at_ jS;subst e9;have q3:=(hc9 0 jS).c3;simp only[fh,ip]at q3;have HH:Hid ((l.head?.map (·.sum)).getD 0=(l[0]'jS).sum):=by
       show _=_;rw[List.head?_eq_getElem?,an jS];rfl
      have hs0:∃s0,s0=(l[0]'jS).sum:=⟨_,rfl⟩;obtain⟨bq,hs0⟩:=hs0;rw[←hs0]at q3 HH;clear hs0 hc9;have kS:=Tu (b:=b9) (off:=Ai) (n:=l.length) (cap:=cap) jS hcap jS;have td:Hid (Rd w w (some ⟨b9,Ai+4,none⟩) (l.tail.flatMap nE)):=by
       have h:=Rd.ae5 (k:=4) HS;have e:(l.flatMap nE).drop 4=l.tail.flatMap nE:=by
        cases l with
        |nil=>rfl
        |cons x r=>rfl
       rwa[e]at h
      have Te:Hid (l.tail.length=l.length-1):=List.length_tail;have Ww:Hid (af=some (bq,l.tail++[newE ka kb b l at_ text])):=by show _=_;rw[oH,if_pos h30,HH]
      obtain⟨nq,hn1⟩:∃n1,n1=l.length-1:=⟨_,rfl⟩;obtain⟨cq,hc1⟩:∃c1,c1=cap-1:=⟨_,rfl⟩;rw[←hn1,←hc1]at kS;rw[←hn1]at Te;have zq:=(HB.cell (p:=⟨b9,Ai+3,none⟩) av3).trans q3;have z0:(0:Int)<l.length:=jS;have hn2:nq≤1000:=jS;have hn3:nq≤cq:=jS;have hn4:l.length=nq+1:=jS;clear h30 hn1 hc1 hn4;go_wp2;refine bi1 (S:=fun w9=>w9.cell? ⟨b9,Ai+3,none⟩=some (.int .u64 bq)) oo zq (fun hHeld=>?_);refine bk5 (i:=0) (v:=.slice (bH b9 Ai) l.length cap) rfl oo oo oo (fun _ _ _ h=>h) (ge ⟨by rfl,?_⟩) hHeld ?_
      ·(intro w hSw;(try dsimp only at hSw);go_simp;try(intro hnil;rw[hnil]at z0;simp at z0))
      refine az ?_;refine bk5 (i:=1) (v:=.pointer (bH b9 Ai)) rfl oo oo oo (fun _ _ _ h=>h) (ge ⟨by rfl,?_⟩) hHeld ?_
      ·(intro w hSw;(try dsimp only at hSw);go_simp;try(intro hnil;rw[hnil]at z0;simp at z0))
      refine az ?_;refine bk5 (i:=2) (v:=.pointer (some ⟨b9,Ai+3,none⟩)) rfl oo oo oo (fun _ _ _ h=>h) (ge ⟨by rfl,?_⟩) hHeld ?_
      ·(intro w hSw;(try dsimp only at hSw);go_simp;try(intro hnil;rw[hnil]at z0;simp at z0))
      refine az ?_;refine bk5 (i:=3) (v:=.int .u64 bq) rfl oo oo oo (fun _ _ _ h=>h) (ge ⟨by rfl,?_⟩) hHeld ?_
      ·(intro w hSw;(try dsimp only at hSw);go_simp;try(intro hnil;rw[hnil]at z0;simp at z0))
      refine az ?_;refine bk5 (i:=4) (v:=.slice (bH b9 Ai) l.length cap) rfl oo oo oo (fun _ _ _ h=>h) (ge ⟨by rfl,?_⟩) hHeld ?_
      ·(intro w hSw;(try dsimp only at hSw);go_simp;try(intro hnil;rw[hnil]at z0;simp at z0))
      refine az ?_;refine bk5 (i:=5) (v:=.slice (some ⟨b9,Ai+4,none⟩) nq cq) rfl oo oo oo (fun _ _ _ h=>h) (ge ⟨by rfl,?_⟩) hHeld ?_
      ·(intro w hSw;(try dsimp only at hSw);go_simp;try(intro hnil;rw[hnil]at z0;simp at z0))
      refine az ?_;refine bk5 (i:=6) (v:=.int .u64 bq) rfl oo oo oo (fun _ _ _ h=>h) (ge ⟨by rfl,?_⟩) hHeld ?_
      ·(intro w hSw;(try dsimp only at hSw);go_simp;try(intro hnil;rw[hnil]at z0;simp at z0))
      refine az ?_;refine bk5 (i:=7) (v:=.slice (some ⟨b9,Ai+4,none⟩) nq cq) rfl oo oo oo (fun _ _ _ h=>h) (ge ⟨by rfl,?_⟩) hHeld ?_
      ·(intro w hSw;(try dsimp only at hSw);go_simp;try(intro hnil;rw[hnil]at z0;simp at z0))
      refine az ?_;refine hdn ?_;clear hHeld;replace HR:Hid (jR V6.drew (aN w) 113 bN):=HR;replace HX:Hid (jR V6.drew w3 59 #[jK sq,jK at_,jL text,jK sm]):=HX;replace HB:=ah HB.drew;clear zq kS q3;generalize V6.drew=V7 at*
      go_wp2_with fail;generalize(some (⟨b9,Ai+4,none⟩:jG))=Aq at*
      generalize l.tail=lq at*
     all_goals
      obtain⟨cN,hcN⟩:∃c:Nat,c=nq+1:=⟨_,rfl⟩;obtain⟨w6,hmk,ho0,hg0⟩:=bk8 (P:=Tryz.prog) V7 V7 53 59 i0 _ 4 Tryz.underlying53 hi0 hz0 hz1 .i64 .i64 cN jS (by rw[hz2];omega) O0 aa;rw[show(cN:Int)=(nq:Int)+1 by omega]at hmk;have hV:w3.heap.size<V7.heap.size:=HX.lt;have hBW:=HB.size;replace HX:=ah (HX.grown hg0 lV);replace HR:=ah (HR.grown hg0 lV);replace HB:=ah (HB.grown hg0 hBW (fun q e=>LS));have HO:=ah ho0;have hz6:=hg0.size;clear ho0 hg0 hcN;generalize V7.heap.size=sV at*
      go_simp;go_wp2_with(first
       |(at_builtin;refine kr _ rfl (.tmp 76) (.tmp 77) 53 rfl sV 59 i0 _ 4 40 Tryz.underlying53 hi0 hz0 hz1 hz2 rfl B8 _ 0 _ rfl HO _ _ (nq) (cq) (lq.flatMap nE) rfl (by rw[qA Be,Te]<;>omega) (Rd.below (td) HB) (Oq _) O0 jS jS ?_;intro v1 w7 ho1 hg1 _;replace HX:=ah (HX.grown hg1 (fun e=>by have:=qp HO _ e.symm;omega));replace HR:=ah (HR.grown hg1 (fun e=>by have:=qp HO _ e.symm;omega));replace HB:=ah (HB.grown hg1 HB.size (fun j e=>by have:=qp HO j e;omega));have hz7:=hg1.size;replace HO:=ah ho1;clear ho1 hg1;have m0:=HX.cell 0;have m1:=HX.cell 1;have m2:=HX.cell 2;have m3:=HX.cell 3;simp only[bh,bm,bo]at m0 m1 m2 m3;have zx:=HX.lt)
       |(at_builtin;refine kr _ rfl (.tmp 79) (.tmp 81) 53 rfl sV 59 i0 _ 4 40 Tryz.underlying53 hi0 hz0 hz1 hz2 rfl B8 v1 _ _ rfl (HO.alloc _) _ _ 1 1 [jK sq,jK at_,jL text,jK sm] rfl rfl (tY (jR.new w7 _ #[jK sq,jK at_,jL text,jK sm])) (fun u hu=>by simp at hu;rcases hu with rfl|rfl|rfl|rfl<;>rfl) O0 jS mO ?_;intro v2 w8 ho2 hg2 _;replace HR:=ah ((HR.alloc (.cells #[jK sq,jK at_,jL text,jK sm] 59)).grown hg2 (fun e=>by have:=qp HO _ e.symm;omega));replace HB:=ah ((HB.alloc HB.size (.cells #[jK sq,jK at_,jL text,jK sm] 59)).grown hg2 (by have:=HB.size;simp;omega) (fun j e=>by have:=qp HO j e;omega));replace HO:=ah ho2;clear ho2 hg2 m0 m1 m2 m3 zx;obtain⟨gg,cc,rfl,hgg,_,_⟩:=Qh HO jS;have r0:=HR.cell 0;have r1:=HR.cell 1;simp only[bh,bm,bo]at r0 r1;have yr:=HR.lt;have fz:∀i,w8.frozen? ⟨w.heap.size+1+1,i,none⟩=false:=fun i=>HR.frozen i)
       |fail)
      have e0:0+(nq)+1=nq+1:=jS;rw[e0]at HO;have HR2:=sD (x:=.int .u64 bq) (y:=.slice (aC gg) (nq+1) cc) HR;have HB2:=ah ((HB.setCell (p:=(aG w)) (by show(aU w);omega) (.int .u64 bq)).setCell (p:=(bZ w)) (by show(aU w);omega) (.slice (aC gg) (nq+1) cc));have HOF:=(bj0 (bj0 HO (a:=(aG w)) (by simp[gy];omega) (.int .u64 bq)) (a:=(bZ w)) (by simp[gy];omega) (.slice (aC gg) (nq+1) cc));have k0:=HR2.cell 0;have k1:=HR2.cell 1;simp only[bh,bm,bo]at k0 k1;refine jF (v:=.tuple #[.agg #[jK bq,.slice (aC gg) (nq+1) cc],jJ 0]) (by simp[results,Tryz.results92,go_sem,k0,k1]) rfl (pQ.yes Ww (by rw[cd,Te];rfl) HB2 ?_);have e:=own_base HOF (B:=w.heap.size) jS;rw[OT];simpa[eZ,nE]using e
structure GL(ka kb b:Int)(l:List mV):Prop where
 bU:U b
 ok:qN ka kb b l=true
 fit:∀x∈l,qL x∧x.text.size≤200
theorem GL.len(h:GL ka kb b l):l.length≤30:=by
 have:=h.ok;unfold qN at this;simp only[ba,decide_eq_true_eq]at this;exact this.1
theorem GL.new(ka kb:Int):GL ka kb 0 []:=⟨⟨by show(0:Int)≤0;omega,by show(0:Int)≤_;omega⟩,by simp[qN],fun _ h=>WY⟩
theorem vn:∀(l:List mV)(p:Option mV)(x:mV),lT p l=true→sO (match l.getLast? with|none=>p|some y=>some y) x=true→lT p (l++[x])=true
 |[],p,x,_,h=>by simpa[lT]using h
 |y::l,p,x,h,k=>by
  simp only[lT,ba]at h;simp only[dj,lT,ba];refine⟨h.1,vn l (some y) x h.2 ?_⟩
  cases l with
  |nil=>simpa using k
  |cons z l=>rw[fj]at k;cases hq:(z::l).getLast? with
   |none=>simp at hq
   |some q=>rw[hq]at k;exact k
theorem vy(ka kb:Int):∀(l:List mV)(b:Int)(x:mV),m5 ka kb b l=true→x.sum=qC ka kb (pH b l) x→m5 ka kb b (l++[x])=true
 |[],b,x,_,h=>by simp[m5,pH]at h⊢;exact h
 |y::l,b,x,h,k=>by
  simp only[m5,ba,beq_iff_eq]at h;simp only[dj,m5,ba,beq_iff_eq];refine⟨h.1,vy ka kb l y.sum x h.2 ?_⟩;rw[k];congr 1;unfold pH
  cases l with
  |nil=>simp
  |cons z l=>
   rw[fj]
   cases hq:(z::l).getLast? with
   |none=>simp at hq
   |some q=>rfl
theorem Jm{x:mV}:lT (some x) l=true→lT none l=true:=fun h=>by
 cases l with
 |nil=>rfl
 |cons y l=>
  simp only[lT,sO,ba]at h⊢;exact⟨⟨h.1.1,trivial⟩,h.2⟩
theorem UC(ka kb b s t:Int)(x:ByteArray)(m n:Int):qC ka kb b ⟨s,t,x,m⟩=qC ka kb b ⟨s,t,x,n⟩:=by unfold qC Ca;rfl
theorem Wj{at_:Int}{text:ByteArray}(h:GL ka kb b l)(ha:U at_)(ht:text.size≤200)(hl:late l at_=false)(hm:kO l<18446744073709551615):
 ∃b' l',ru ka kb b l at_ text=some (b',l')∧GL ka kb b' l'∧late l' at_=false∧kO l'=kO l+1∧l'.getLast?=some (newE ka kb b l at_ text):=by
 have hne:(kO l !=18446744073709551615)=true:=mO
 have hlen:=h.len
 have hfit:∀x∈l,qL x∧x.text.size≤1000:=fun x hx=>⟨(h.fit x hx).1,by have:=(h.fit x hx).2;omega⟩
 have hlU:=Es hfit
 have hhU:=Mj h.bU hfit
 have hok:=h.ok
 have hnew:qL (newE ka kb b l at_ text)∧(newE ka kb b l at_ text).text.size≤200:=⟨⟨⟨by have:=hlU.1;show 0≤kO l+1;omega,by show kO l+1≤_;omega⟩,ha,UD _ _ _ _⟩,ht⟩
 have hstep:∀y,l.getLast?=some y→n9 y (newE ka kb b l at_ text)=true:=fun y hy=>by
  have e:kO l=y.seq:=by unfold kO;rw[hy]
  have e2:late l at_=decide (at_<y.tm):=by unfold late;rw[hy]
  rw[e2]at hl;simp only[decide_eq_false_iff_not]at hl;have e3:(newE ka kb b l at_ text).seq=kO l+1:=rfl;have e4:(newE ka kb b l at_ text).tm=at_:=rfl;simp only[n9,ba,decide_eq_true_eq,beq_iff_eq,e3,e4];exact⟨jS,jS,jS⟩
 have hsum:(newE ka kb b l at_ text).sum=qC ka kb (pH b l) (newE ka kb b l at_ text):=by
  obtain⟨n,hn⟩:∃n,qC ka kb (pH b l) ⟨kO l+1,at_,text,0⟩=n:=⟨_,rfl⟩;have e:newE ka kb b l at_ text=⟨kO l+1,at_,text,n⟩:=by unfold newE;rw[hn]
  rw[e,←hn];exact UC _ _ _ _ _ _ _ _
 unfold ru
 rw[if_pos (by simp[hok,ht,hne,hl])]
 have hlast:∀q:List mV,(q++[newE ka kb b l at_ text]).getLast?=some (newE ka kb b l at_ text):=fun q=>lV
 have Rk:∀q:List mV,late (q++[newE ka kb b l at_ text]) at_=false:=fun q=>by unfold late;rw[hlast];simp[newE]
 have Rl:∀q:List mV,kO (q++[newE ka kb b l at_ text])=kO l+1:=fun q=>by unfold kO;rw[hlast];rfl
 unfold qN at hok
 simp only[ba,decide_eq_true_eq]at hok
 split
 ·rename_i h30;obtain⟨x,r,rfl⟩:∃x r,l=x::r:=by cases l with
   |nil=>simp at h30
   |cons x r=>exact⟨x,r,rfl⟩
  refine⟨_,_,rfl,⟨by simp;exact(h.fit x lV).1.sum,?_,fun y hy=>?_⟩,Rk _,Rl _,hlast _⟩
  ·have ho:=hok.2;simp only[ba,decide_eq_true_eq,ft,lT,m5,beq_iff_eq,bne_iff_ne]at ho;obtain⟨⟨s1,s2⟩,⟨s3,s4⟩,s5,s6⟩:=ho;obtain⟨y,r2,rfl⟩:∃y r2,r=y::r2:=by cases r with
    |nil=>simp at h30
    |cons y r2=>exact⟨y,r2,rfl⟩
   have e1:=s4;simp only[lT,sO,ba,decide_eq_true_eq,n9,beq_iff_eq]at e1;have hst:lT none ((y::r2)++[newE ka kb b (x::y::r2) at_ text])=true:=by
    refine vn _ none _ (Jm s4) ?_;have:(y::r2).getLast?=(x::y::r2).getLast?:=(fj ..).symm;rw[this]
    cases hq:(x::y::r2).getLast? with
    |none=>simp at hq
    |some q=>
     simp only[sO,ba,decide_eq_true_eq];exact⟨ht,hstep q hq⟩
   have hlk:m5 ka kb x.sum ((y::r2)++[newE ka kb b (x::y::r2) at_ text])=true:=by
    refine vy ka kb _ _ _ s6 ?_;rw[hsum];have e:pH b (x::y::r2)=pH x.sum (y::r2):=by
     unfold pH;rw[fj]
     cases hq:(y::r2).getLast? with
     |none=>simp at hq
     |some q=>rfl
    rw[e]
   unfold qN;simp only[List.tail_cons,List.head?_cons,jb,jz,dj,ba,decide_eq_true_eq,ft,bne_iff_ne,beq_iff_eq];refine⟨by simp at h30⊢;omega,⟨jS,.inl jS⟩,hst,hlk⟩
  rcases ed.1 hy with hy|hy
  ·exact h.fit y (List.mem_of_mem_tail hy)
  simp at hy;rw[hy];exact hnew
 rename_i h30
 refine⟨_,_,rfl,⟨h.bU,?_,fun y hy=>?_⟩,Rk _,Rl _,hlast _⟩
 ·cases l with
  |nil=>
   have hb0:b=0:=by simpa using hok.2
   have e1:(newE ka kb b [] at_ text).seq=1:=rfl;unfold qN;simp only[dz,c_,dp,ba,decide_eq_true_eq,ft,bne_iff_ne,beq_iff_eq,lT,sO,m5,e1];exact⟨jS,⟨jS,.inr hb0⟩,⟨⟨ht,trivial⟩,trivial⟩,hsum,trivial⟩
  |cons x r=>
   have ho:=hok.2;simp only[ba,decide_eq_true_eq]at ho;obtain⟨s1,s2,s3⟩:=ho;unfold qN;simp only[dj,ba,decide_eq_true_eq];refine⟨by simp at h30 hlen⊢;omega,s1,?_,?_⟩
   ·refine vn (x::r) none _ s2 ?_
    cases hq:(x::r).getLast? with
    |none=>simp at hq
    |some q=>
     simp only[sO,ba,decide_eq_true_eq];exact⟨ht,hstep q hq⟩
   exact vy ka kb (x::r) b _ s3 hsum
 rcases ed.1 hy with hy|hy
 ·exact h.fit y hy
 simp at hy;rw[hy];exact hnew
noncomputable def mw(s:ByteArray):Bool:=(Sc.lU (tx s)).isSome
noncomputable def nX(s:ByteArray)(l:List kI):Bool:=match Sc.lU (tx s)with
 |none=>false
 |some L=>Sc.allM L l
theorem uk(s:ByteArray)(hs:s.size≤100000)(w:jC)(hT:Tb w):jE Tryz.prog 56 #[jL s] w fun e w'=>e=.returned (.bool (mw s))∧Below w w w':=Sc.JD s jS w hT
theorem CE(s:ByteArray)(hs:s.size≤100000)(hr:mw s=true)(A:Option jG)(l:List kI)(c:Nat)(hl:setB l=true)(w:jC)(hT:Tb w)(hS:Lb w w A l):
 jE Tryz.prog 190 #[jL s,jN A l c] w fun e w'=>e=.returned (.tuple #[.bool (nX s l),jJ 0])∧Below w w w':=by
 have h:=Sc.NC s hs A l c (by have:=(mt hl).1;omega) (fun x hx=>by have:=(mt hl).2 x hx;omega) w hT hS
 unfold mw at hr
 cases hp:Sc.lU (tx s)with
 |none=>rw[hp]at hr;cases hr
 |some L=>
  rw[Sc.Gt hp hl (b:=nX s l) (by unfold nX;rw[hp])]at h;exact h
noncomputable def uo(s:ByteArray)(t:List mq)(k:Nat):Bool:=nX s (((t[k]?).map (·.l)).getD [])
noncomputable def mj(s:ByteArray)(t:List mq)(n:Nat):List Nat:=(bu n).filter (uo s t)
theorem Ek(s:ByteArray)(t:List mq)(n:Nat):mj s t (n+1)=mj s t n++if uo s t n=true then[n]else[]:=by
 unfold mj;rw[fV,gQ];congr 1;rw[eC];simp
theorem qU(s:ByteArray)(t:List mq)(n:Nat):(mj s t n).length≤n:=by
 have:=fe (uo s t) (bu n);rw[fo]at this;exact this
variable{t:List mq}
theorem qw{s:ByteArray}(h:k∈mj s t n):k<n:=dh.1 (eN.1 h).1
def lC(ks:List Nat):List jD:=ks.map fun k:Nat=>(aJ k)
theorem Tryz.Ew:(Tryz.prog.info? 3).map (fun i=>(i.zero,i.size,i.bytes))=some (some (.int .i64 0),1,8):=oo
def pA(w:jC)(ks:Option (List Nat))(e:bi6)(w':jC):Prop:=Below w w w'∧match ks with
 |none=>e=.returned (.tuple #[jM,jJ 50])
 |some ks=>∃A c,e=.returned (.tuple #[jN A ks c,jJ 0])∧Rd w' w' A (lC ks)∧(aX A w)
variable{r:Option (List Nat)}
theorem pA.no(h:r=none)(hb:Below w w w'):pA w r (.returned (.tuple #[jM,jJ 50])) w':=⟨hb,by rw[h]⟩
theorem pA.yes{ks:List Nat}{c:Nat}(h:r=some ks)(hb:Below w w w')(hr:Rd w' w' A (lC ks))(hl:∀ad,A=some ad→w.heap.size≤ad.block):pA w r (.returned (.tuple #[jN A ks c,jJ 0])) w':=⟨hb,by rw[h];exact⟨A,c,rfl,hr,hl⟩⟩
noncomputable def nj(s:ByteArray)(t:List mq):Option (List Nat):=if mw s=true then some (mj s t t.length)else none
theorem L7(A:Option jG)(ms:List jZ)(cap:Nat)(s:ByteArray)(hs:s.size≤100000)(w:jC)(hT:Tb w)(hS:oI w A ms):
 jE Tryz.prog 148 #[jN A ms cap,jL s] w (pA w (nj s (ms.map (·.s)))):=by
 have h20:=hS.len
 have HS:=ah hS
 have HT:=ah hT
 have QR:=ah (ql A ms cap w hT hS)
 have QS:Hid (∀w',Below w w w'→jE Tryz.prog 56 #[jL s] w' fun e w''=>e=.returned (.bool (mw s))∧Below w' w' w''):=fun w' h=>uk s hs w' (hT.later h)
 clear hS hT
 cases hsc:mw s with
 |false=>
  have HF:Hid (nj s (ms.map (·.s))=none):=by show _=_;unfold nj;rw[hsc];rfl
  rw[hsc]at QS;clear hsc;go_in;go_wp2_with fail;refine QR.mono ?_;rintro e w1⟨rfl,hb1⟩;have HB1:=ah hb1;clear hb1 QR;go_wp2_with fail;refine(QS w1 HB1).mono ?_;rintro e w2⟨rfl,hb2⟩;have HB2:=ah (Below.two HB1 hb2);go_wp2;go_ret2;exact pA.no HF HB2
 |true=>
  have HF:Hid (nj s (ms.map (·.s))=some (mj s (ms.map (·.s)) ms.length)):=by show _=_;unfold nj;rw[hsc,if_pos rfl,ax]
  have HSC:=ah hsc;rw[hsc]at QS;clear hsc;obtain⟨i0,hi0,hz0,hz1,hz2⟩:=bi5 Tryz.Ew;go_in;go_wp2_with fail;refine QR.mono ?_;rintro e w1⟨rfl,hb1⟩;have HB1:=ah hb1;clear hb1 QR;go_wp2_with fail;refine(QS w1 HB1).mono ?_;rintro e w2⟨rfl,hb2⟩;have HB2:=ah (Below.two HB1 hb2);clear hb2 HB1 QS;go_wp2_with fail;go_loopw[6,19] (fun v i wr=>∃k:Nat,i=(aJ k)∧k≤ms.length∧Hid (wr.ownsRow w 3 1 v (mj s (ms.map (·.s)) k).length (lC (mj s (ms.map (·.s)) k)))∧(bB w wr)) (fun _ i _=>(lI 34 ms i))
  case atStart=>exact⟨0,rfl,be _,dY _ _ _ _,HB2⟩
  obtain⟨k,rfl,hk,HO,HB⟩:=hrel;by_cases h1:k<ms.length
  ·have d1:decide ((k:Int)<ms.length)=true:=ae;obtain⟨b,off,rfl,hb,hc⟩:=HS.tab.at_ jS;obtain⟨Y_,i1,i2,i3,i4,i5,i6,i7,i8,i9,i10,i11⟩:=(hc k h1).below HB hb;have hbw:b<wr.heap.size:=qes;have hi1:(0:Int)≤k:=jS;have hi2:(k:Int)<ms.length:=by omega
   have HM:Hid (∀w',Below w w w'→jE Tryz.prog 190 #[jL s,.slice ms[k].la ms[k].s.l.length ms[k].lc] w' fun e w''=>e=.returned (.tuple #[.bool (nX s ms[k].s.l),jJ 0])∧Below w' w' w''):=fun w' h=>CE s hs HSC _ _ _ (HS.gs h1).set w' (HT.later h) ((HS.ok h1).later h).l;have hat:uo s (ms.map (·.s)) k=nX s ms[k].s.l:=by unfold uo;rw[eD,an h1];rfl
   have hsu:=Ek s (ms.map (·.s)) k;rw[hat]at hsu;have HU:=ah hsu;have hln:=qU s (ms.map (·.s)) k;have hww:=HB.size;clear hc hat hsu;generalize ms[k]=m at*
   obtain⟨A1,c1,rfl,hnc,-,-⟩:=li HO;go_wp2_with fail;refine kf (fun V=>(bJ w V)∧V.ownsRow w.heap.size 3 1 (.slice A1 (mj s (ms.map (·.s)) k).length c1) (mj s (ms.map (·.s)) k).length (lC (mj s (ms.map (·.s)) k))) ((Hold.nil wr).alloc wr.heap.size 197 [.slice m.la m.s.l.length m.lc,.int .i64 m.m.s.kind,.int .i64 m.m.s.level,.slice m.m.ea m.m.s.e.length m.m.ec,.int .i64 m.m.s.bits,.string m.m.s.regs,.int .i64 m.m.s.rows,.int .i64 m.m.s.cols,.slice m.m.ca m.m.s.c.length m.m.cc,.int .i64 m.m.s.fine,.slice m.m.ga m.m.s.g.length m.m.gc,.int .u64 m.s.seen]) ⟨jP HB.out _,lf HO.out (jP (jQ wr) _)⟩ (fun V HV Ha=>?_);obtain⟨Ha,hOV⟩:=Ha;clear Y_ i1 i2 i3 i4 i5 i6 i7 i8 i9 i10 i11 HO HB;refine(HM V Ha).mono ?_;rintro e w3⟨rfl,hb3⟩;have HB3:=ah (Below.two Ha hb3);have w_:=ah (lf hOV hb3);clear HV Ha hOV HM hb3
   cases hm:nX s m.s.l with
   |false=>
    rw[hm,if_neg lV,eB]at HU;clear hm;go_wp2;go_roundw
    case rel=>exact⟨k+1,CJ,jS,by rw[HU];exact w_,HB3⟩
    exact No
   |true=>
    rw[hm,if_pos rfl]at HU;clear hm;have hw3:=HB3.size;go_wp2_with(at_builtin;refine bk3 _ rfl _ _ 52 rfl w 3 i0 (.int .i64 0) 1 8 Tryz.underlying52 hi0 hz0 hz1 hz2 rfl B8 (.slice A1 (mj s (ms.map (·.s)) k).length c1) (mj s (ms.map (·.s)) k).length _ rfl (w_.alloc _) ⟨w3,0,none⟩ 1 1 [_] rfl rfl (m7 _ _ _ _ rfl) ZO O0 jS mO ?_;intro v' W hown hgrow _);have HB4:=ah (Sc.ol HB3 w_ hw3 hgrow);have IS:Hid (W.ownsRow w 3 1 v' (mj s (ms.map (·.s)) (k+1)).length (lC (mj s (ms.map (·.s)) (k+1)))):=by
     show gX _ _ _ _ _ _ _;rw[HU,cd];simpa[lC]using hown
    clear hown hgrow w_ HB3;go_wp2;go_roundw
    case rel=>exact⟨k+1,CJ,jS,IS,HB4⟩
    exact No
  have hkk:k=ms.length:=jS;subst hkk;have d1:decide ((ms.length:Int)<ms.length)=false:=lV;obtain⟨A1,c1,rfl,-,hrd,hlo⟩:=li HO;have HR:Hid (Rd wr wr A1 (lC (mj s (ms.map (·.s)) ms.length))∧(aX A1 w)):=⟨hrd,hlo⟩;clear hrd hlo HO;go_wp2;go_ret2;exact pA.yes HF HB HR.1 HR.2
structure GG(n:Int)(l:List Gr):Prop where
 n1:1≤n
 nU:U n
 len:l.length≤10
 up:l.Pairwise fun a b=>a.id<b.id
 all:∀x∈l,1≤x.id∧x.id<n∧U x.to∧mw x.scope=true∧x.scope.size≤1000
noncomputable def ND(l:List Gr)(to:Int)(s:List kI):Bool:=l.any fun x=>(x.to==to)&&nX x.scope s
noncomputable def rJ(l:List Gr)(to:Int)(t:List mq)(k:Nat):Bool:=ND l to (((t[k]?).map (·.l)).getD [])
noncomputable def lW(n:Int)(l:List Gr)(to:Int)(sc:ByteArray):Except Int (Int×List Gr×Int):=
 if mw sc=true then(if l.length=10∨n=18446744073709551615 then .error 151 else .ok (n+1,l++[⟨n,to,sc⟩],n))else .error 50
def lr(l:List Gr)(id:Int):Except Int (List Gr):=match l.findIdx? (fun x=>x.id==id)with
 |none=>.error 121
 |some k=>.ok (l.eraseIdx k)
theorem GG.new:GG 1 []:=⟨jS,⟨by show(0:Int)≤1;omega,by show(1:Int)≤_;omega⟩,lV,List.Pairwise.nil,fun _ h=>WY⟩
variable{l:List Gr}{sc:ByteArray}
theorem Ul{n:Int}{to:Int}(h:GG n l)(ht:U to)(hs:sc.size≤1000){r:Int×List Gr×Int}(e:lW n l to sc=.ok r):GG r.1 r.2.1∧U r.2.2:=by
 unfold lW at e;split at e
 ·rename_i h1;split at e
  ·cases e
  rename_i h2
  cases e
  have hn:=h.nU;refine⟨⟨by have:=h.n1;dsimp only;omega,⟨by have:=h.n1;show 0≤n+1;omega,by have:=hn.2;show n+1≤_;omega⟩,by have:=h.len;simp;omega,?_,fun x hx=>?_⟩,hn⟩
  ·refine il.2 ⟨h.up,lV,fun a ha b hb=>?_⟩;simp at hb;rw[hb];exact(h.all a ha).2.1
  rcases ed.1 hx with hx|hx
  ·have:=h.all x hx;exact⟨this.1,by have:=this.2.1;dsimp only;omega,this.2.2⟩
  simp at hx;rw[hx];exact⟨h.n1,by dsimp only;omega,ht,h1,hs⟩
 cases e
theorem PU{n:Int}{id:Int}(h:GG n l){r:List Gr}(e:lr l id=.ok r):GG n r:=by
 unfold lr at e;split at e
 ·cases e
 cases e
 have hs:=List.eraseIdx_sublist l;refine⟨h.n1,h.nU,a_ (hs _).length_le h.len,h.up.sublist (hs _),fun x hx=>h.all x ((hs _).subset hx)⟩
noncomputable def kA(t:List mq)(sc:ByteArray)(kind:Int):Except Int Sk:=match nj sc t with
 |none=>.error 50
 |some ks=>if 1≤kind∧kind≤3 then .ok (nN t kind ks (nC kind))else .error 101
noncomputable def Ay(l:List Gr)(to:Int)(t:List mq)(sc:ByteArray):Option (List Nat):=(nj sc t).map fun ks=>ks.filter (rJ l to t)
noncomputable def qT(l:List Gr)(to:Int)(t:List mq)(sc:ByteArray)(kind:Int):Except Int Sk:=match Ay l to t sc with
 |none=>.error 50
 |some ks=>if 1≤kind∧kind≤3 then .ok (nN t kind ks (nC kind))else .error 101
theorem Gp(h:GT t){kind:Int}{s:Sk}(e:kA t sc kind=.ok s):GK s∧s.kind=kind:=by
 unfold kA nj at e;split at e
 ·cases e
 rename_i ks hks;split at hks
 ·cases hks
  split at e
  ·rename_i hk
   cases e
   obtain⟨a1,a2,_⟩:=wj hk;exact LI h _ (fun k hk=>qw hk) a1 a2
  cases e
 cases hks
theorem WX{to:Int}(h:GT t){kind:Int}{s:Sk}(e:qT l to t sc kind=.ok s):GK s∧s.kind=kind:=by
 unfold qT Ay nj at e;split at e
 ·cases e
 rename_i ks hks;split at hks
 ·cases hks
  split at e
  ·rename_i hk
   cases e
   obtain⟨a1,a2,_⟩:=wj hk;exact LI h _ (fun k hk=>qw (eN.1 hk).1) a1 a2
  cases e
 cases hks
structure kM where
 tb:List mq
 gn:Int
 gl:List Gr
 lb:Int
 ll:List mV
 tm:Int
structure lO where
 id:Int
 budget:Int
 life:Int
 ka:Int
 kb:Int
structure GC(c:lO):Prop where
 id:U c.id
 b0:0≤c.budget
 b1:c.budget≤1000000
 life:U c.life
 ka:U c.ka
 kb:U c.kb
structure nH(c:lO)(T:kM):Prop where
 tb:GT T.tb
 gg:GG T.gn T.gl
 lg:GL c.ka c.kb T.lb T.ll
 tm:U T.tm
 late:late T.ll T.tm=false
def newT:kM:=⟨[],1,[],0,[],0⟩
def ko(c:lO)(T:kM)(now:Int):kM:={T with tb:=T.tb.filter (vD now c.life),tm:=now}
noncomputable def EQ{α:Type}(c:lO)(T:kM)(now:Int)(text:ByteArray)(step:kM→Except Int (kM×α)):Except Int (kM×α):=
 if now<T.tm then .error 140 else
 match step (ko c T now)with
 |.error e=>.error e
 |.ok (T2,a)=>match ru c.ka c.kb T2.lb T2.ll T2.tm text with
  |none=>.error 160
  |some (b,l)=>.ok ({T2 with lb:=b,ll:=l},a)
structure Item where
 h:Int
 n:Int
def mF(s:Sk)(l:List Item):Sk:=l.foldl (fun s i=>wQ s i.h i.n) s
def mf(t:List mq)(l:List kI)(kind:Int):Sk:=if mQ t l=true then((t[o_ t l]?).map (·.k)).getD (nC kind)else nC kind
def uO(c:lO)(T:kM)(labels:ByteArray)(kind:Int)(items:List Item):Except Int (kM×List Nat):=
 if 50<items.length then .error 181 else
 match pE (tx labels)with
 |none=>.error 40
 |some l=>
  if 1≤kind∧kind≤3 then
   if(mf T.tb l kind).kind=kind then
    if Dm T.tb l=true then .error 120 else
    match pI c.budget 100 (CL T.tb ⟨l,mF (mf T.tb l kind) items,T.tm⟩) []with
    |none=>.error 130
    |some (t,ps)=>.ok ({T with tb:=t},ps)
   else .error 101
  else .error 101
noncomputable def pM(c:lO)(T:kM)(now:Int)(sc:ByteArray)(kind h:Int):Except Int (kM×Int):=
 EQ c T now "query".toByteArray fun T=>(kA T.tb sc kind).map fun s=>(T,rt s h)
noncomputable def sy(c:lO)(T:kM)(now to:Int)(sc:ByteArray):Except Int (kM×Int):=
 EQ c T now "grant".toByteArray fun T=>(lW T.gn T.gl to sc).map fun r=>({T with gn:=r.1,gl:=r.2.1},r.2.2)
noncomputable def D4(c:lO)(T:kM)(now id:Int):Except Int (kM×Unit):=
 EQ c T now "revoke".toByteArray fun T=>(lr T.gl id).map fun l=>({T with gl:=l},())
noncomputable def CV(c:lO)(T:kM)(now:Int)(text:ByteArray):Except Int (kM×Unit):=
 EQ c T now text fun T=>.ok (T,())
end Go.Proofs.YtfcnedcahoifoaaGreatDoor

import Derived.Test.YtfcnedcahoifoaaGreatDoorOQ
import Derived.Test.YtfcnedcahoifoaaGreatDoorOK
namespace Go.Proofs.YtfcnedcahoifoaaGreatDoor
open Go.RowKit
open _root_.Array renaming getElem?_eq_some_iff→aw
open _root_.ByteArray renaming size_append→fc,size→iG
open _root_.Go renaming Addr→jG,Calls→jE,Code→bk9,Ending→bi6,Exit→bk7,FuncId→bl9,Oper→bk0,Program→bi3,TypeId→jH,Value→jD,World→jC,bodyPost_end→bl6,bodyPost_ret→jF,info_parts→bi5,wp_region_held_drew→bi1
open _root_.Go.Act renaming put→gL
open _root_.Go.Code renaming region→jo
open _root_.Go.Instr renaming slice→gI
open _root_.Go.IntWalk renaming i64_in→dv
open _root_.Go.Lib renaming joinTail→iH
open _root_.Go.Oper renaming wp→je
open _root_.Go.Program renaming elem→gR
open _root_.Go.Region renaming free→iV,noSelect→gS,ready→eE,wanted→eQ
open _root_.Go.Result renaming andThen→dw
open _root_.Go.RowKit renaming intOf→av
open _root_.Go.Value renaming ownBlock→gy,slice→eo
open _root_.Go.World renaming block_lt_of_cell?→b8,cell?_of_block→co,ownsRow_nil→dY,ownsRow→gX,setCell→bj
open _root_.List renaming append_assoc→eH,append_nil→eB,cons_append→dj,drop_eq_getElem_cons→dN,filter_append→gQ,filter_cons→eC,flatMap_append→eZ,flatMap_cons→dg,getElem?_cons_zero→bm,getElem?_eq_getElem→an,getElem?_eq_some_iff→ci,getElem?_map→eD,getElem?_set_self→gM,getElem?_toArray→bh,getElem_cons_succ→ej,getElem_cons_zero→dQ,getElem_map→gD,getElem_mem→ar,getElem_of_mem→dR,getElem_set_self→fP,getElem_set→eW,getElem_toArray→eK,length_append→cd,length_cons→c_,length_filter_le→fe,length_map→ax,length_nil→dp,length_set→eq,length_singleton→fT,length→ez,map_append→dH,map_cons→df,map_set→iJ,mem_cons_of_mem→dS,mem_cons→cw,mem_filter→eN,mem_map→dq,mem_of_mem_take→dy,mem_or_eq_of_mem_set→dO,pairwise_cons→b6,pairwise_iff_getElem→cj,setIfInBounds_toArray→bd,set_append_right→iN,set_cons_succ→am,set_cons_zero→ak,set_getElem_self→ie,take_length→dP,take_of_length_le→cl,take_set_of_le→gm,take_succ_eq_append_getElem→aj
open _root_.Nat renaming le_refl→ay,le_trans→a_,lt_of_lt_of_le→cn,lt_or_gt_of_ne→iD,reduceAdd→ao,zero_add→au,zero_le→be
open _root_.Option renaming getD_some→jz,map_some→jb
set_option maxRecDepth 100000
set_option maxHeartbeats 16000000
set_option linter.unusedVariables false
set_option linter.unusedSimpArgs false
variable{l:List kI}
theorem Pn(h:∀x∈l,x.1.size≤12∧(uE (tx x.2)).length≤120)(hl:l.length≤6):(Lib.join ((l.map pG).map (·.data.toList)) [44]).length≤1000:=by
 have hp:∀x∈l,(pG x).data.toList.length≤133:=fun x hx=>by
  obtain⟨h1,h2⟩:=h x hx;show(tx (pG x)).length≤_;rw[lG,pG,fc,fc,zR (uE (tx x.2))];show x.1.size+1+_≤133;omega
 have:∀l:List kI,(∀x∈l,(pG x).data.toList.length≤133)→(iH [44] ((l.map pG).map (·.data.toList))).length≤134*l.length:=by
  intro l;induction l with
  |nil=>intro _;simp[iH]
  |cons y l ih=>
   intro h;have h1:=h y lV;have h2:=ih (fun x hx=>h x (by simp[hx]));simp only[iH,df,List.flatten_cons,cd,c_,dp]at h2⊢;omega
 cases l with
 |nil=>simp[Lib.join_nil]
 |cons y l=>
  rw[df,df,Lib.join_cons,cd];have h1:=hp y lV;have h2:=this l (fun x hx=>hp x (by simp[hx]));simp only[c_]at hl;omega
theorem Jh(h:setB l=true):(qR l).length≤1000:=Pn (xo h) (mt h).1
theorem FT(A:Option jG)(l:List kI)(cap:Nat)(h:setB l=true)(w:jC)(hT:Tb w)(hS:Lb w w A l):jE Tryz.prog 99 #[jN A l cap] w fun e w'=>e=.returned (.tuple #[.string ⟨(qR l).toArray⟩,jJ 0])∧Below w w w':=by
 have:=Po A l cap (fun x hx=>by have:=(mt h).2 x hx;omega) w hT hS;rwa[if_pos h]at this
variable{k:Nat}
theorem K4{t:List mq}(h:k<t.length):kJ (t.take (k+1))=kJ (t.take k)+nF t[k]:=by
 unfold kJ;rw[aj h,dH,List.sum_append];simp
theorem Ie{s:mq}(h:GS s):0≤nF s∧nF s≤100000:=by
 have hk:=h.k.fit;have h1:0≤wM s.k∧wM s.k≤16000:=by
  have e1:=hk.e;have e2:=hk.c;have e3:=hk.g;have e4:=hk.regs;unfold wM;split
  ·split<;>omega
  split<;>omega
 have h2:(qR s.l).length≤1000:=Jh h.set;unfold nF;omega
theorem DX(A:Option jG)(ms:List jZ)(cap:Nat)(w:jC)(hT:Tb w)(hS:oI w A ms):
 jE Tryz.prog 72 #[jN A ms cap] w fun e w'=>e=.returned (.int .i64 (kJ (ms.map (·.s))))∧Below w w w':=by
 have h20:=hS.len
 have HS:=ah hS
 have HT:=ah hT
 have QR:=ah (ql A ms cap w hT hS)
 clear hS hT
 go_in
 go_wp2_with fail
 refine QR.mono ?_
 rintro e w1⟨rfl,hb1⟩
 have HB1:=ah hb1
 clear hb1 QR
 go_wp2_with fail
 go_loopw[3,13] (fun c i wr=>∃k:Nat,i=(aJ k)∧k≤ms.length∧c=.int .i64 (kJ ((ms.map (·.s)).take k))∧Hid (0≤kJ ((ms.map (·.s)).take k)∧kJ ((ms.map (·.s)).take k)≤100000*k)∧(bB w wr)) (fun _ i _=>(lI 34 ms i))
 case atStart=>exact⟨0,rfl,be _,by simp[kJ],by show _∧_;simp[kJ],HB1⟩
 obtain⟨k,rfl,hk,rfl,HE,HB⟩:=hrel
 by_cases h1:k<ms.length
 ·have d1:decide ((k:Int)<ms.length)=true:=ae;obtain⟨b,off,rfl,hb,hc⟩:=HS.tab.at_ jS;obtain⟨i0,i1,i2,i3,i4,i5,i6,i7,i8,i9,i10,i11⟩:=(hc k h1).below HB hb;have hbw:b<wr.heap.size:=qes;have hi1:(0:Int)≤k:=jS;have hi2:(k:Int)<ms.length:=jS;have hg:=HS.gs h1;have hct:=K4 (t:=ms.map (·.s)) (k:=k) (by rw[ax];exact h1);rw[gD]at hct;have hcl:=Ie hg;have HX:Hid ((kJ ((ms.map (·.s)).take (k+1))=kJ ((ms.map (·.s)).take k)+nF ms[k].s)∧0≤nF ms[k].s∧nF ms[k].s≤100000):=⟨hct,hcl⟩;have HTX:Hid (∀w',Below w w w'→jE Tryz.prog 99 #[.slice ms[k].la ms[k].s.l.length ms[k].lc] w' fun e w''=>e=.returned (.tuple #[.string ⟨(qR ms[k].s.l).toArray⟩,jJ 0])∧Below w' w' w''):=fun w' h=>FT _ _ _ hg.set w' (HT.later h) ((HS.ok h1).later h).l;have Zx:Hid (∀w',Below w w w'→jE Tryz.prog 100 #[nT ms[k].m] w' fun e w''=>e=.returned (.int .i64 (wM ms[k].s.k+16))∧Below w' w' w''):=fun w' h=>by
   have hg2:GK ms[k].m.s:=by rw[ms[k].hk];exact hg.k
   have:=NJ ms[k].m hg2 w' ((HS.ok h1).later h).k;rwa[ms[k].hk]at this
  have hlen:((⟨(qR ms[k].s.l).toArray⟩:ByteArray).size:Int)=((qR ms[k].s.l).length:Int):=by simp[iG]
  have HW:Hid (IntKind.i64.wrap (wM ms[k].s.k+16+((qR ms[k].s.l).length:Int))=nF ms[k].s∧IntKind.i64.wrap (kJ ((ms.map (·.s)).take k)+nF ms[k].s)=kJ ((ms.map (·.s)).take (k+1))):=by
   obtain⟨a1,a2⟩:=HE;refine⟨dv _ ?_,?_⟩
   ·have:=hcl;unfold nF at this;omega
   rw[hct];exact dv _ jS
  clear hc hg hct hcl;generalize ms[k]=m at*
  unfold nT at Zx;go_wp2_with fail;refine kf (fun V=>Below w w V) ((Hold.nil wr).alloc wr 197 (lz 3 m)) (jP HB _) (fun V HV Ha=>?_);clear i0 i1 i2 i3 i4 i5 i6 i7 i8 i9 i10 i11;refine(HTX V Ha).mono ?_;rintro e w2⟨rfl,hb2⟩;replace HV:=ah (HV.call hb2);have HB2:=ah (Below.two Ha hb2);clear hb2 Ha HTX;have x:=fk (HV.facts);go_wp2_with fail;refine(Zx w2 HB2).mono ?_;rintro e w3⟨rfl,hb3⟩;have HB3:=ah (Below.two HB2 hb3);clear hb3 HB2 Zx x HV;obtain⟨hw1,hw2⟩:=HW;have hl2:(⟨(qR m.s.l).toArray⟩:ByteArray).size=(qR m.s.l).length:=by simp[iG]
  go_wp2;go_roundw
  case rel=>exact⟨k+1,CJ,jS,by simp only[hl2,hw1,hw2],by obtain⟨a1,a2⟩:=HE;obtain⟨q1,q2,q3⟩:=HX;show _∧_;rw[q1];omega,HB3⟩
  exact No
 have hkk:k=ms.length:=jS
 subst hkk
 have d1:decide ((ms.length:Int)<ms.length)=false:=lV
 have HX:Hid (kJ ((ms.map (·.s)).take ms.length)=kJ (ms.map (·.s))):=by show _=_;rw[cl (by rw[ax];exact ay _)]
 go_wp2
 go_ret
 exact⟨mL HX,HB⟩
theorem Tx(A:Option jG)(n cap k:Nat)(hk:k+1≤n)(hc:n≤cap)(w:jC):
 (gI 108 (.slice A n cap) (some (aJ k)) (some (.int .i64 ((k:Int)+1))) none).run Tryz.prog w=.ok (.slice (pU A k cap) 1 (cap-k)) w:=by
 have ht:Tryz.prog.underlying 108=some (.slice (Tryz.prog.elem 108)):=by
  have he:Tryz.prog.elem 108=197:=by simp[gR,Tryz.underlying108]
  rw[he];exact Tryz.underlying108
 rw[run_slice_lh (P:=Tryz.prog) w 108 A n cap ht .i64 .i64 (k:Int) ((k:Int)+1) jS jS jS,Tryz.DS]
 have e1:((k:Int)+1).toNat-(k:Int).toNat=1:=jS
 have e2:((k:Int)+1).toNat=k+1:=jS
 simp[dw,sliced,pU,e2]
theorem BR{α:Type}{l:List α}(h:k<l.length):(l.drop k).take 1=[l[k]]:=by
 rw[dN h];rfl
variable{w:jC}{B:Nat}{A:Option jG}
theorem Tab.one{cap:Nat}{ms:List jZ}(h:Tab w B A ms)(k:Nat)(hk:k<ms.length)(hc:ms.length≤cap):Tab w B (pU A k cap) [ms[k]]:=by
 have:=(h.drop k hc).take 1;rwa[BR hk]at this
theorem oI.one{w:jC}{cap:Nat}{A:Option jG}{ms:List jZ}(h:oI w A ms)(k:Nat)(hk:k<ms.length)(hc:ms.length≤cap):oI w (pU A k cap) [ms[k]]:=⟨h.tab.one k hk hc,GT.one (h.gs hk)⟩
theorem I_(A:Option jG)(ms:List jZ)(cap:Nat)(hcap:ms.length≤cap)(w:jC)(hT:Tb w)(hS:oI w A ms):
 jE Tryz.prog 142 #[jN A ms cap] w fun e w'=>e=.returned (.tuple #[jJ ((rC (ms.map (·.s))).1:Nat),.bool (rC (ms.map (·.s))).2])∧Below w w w':=by
 have h20:=hS.len
 have HS:=ah hS
 have HT:=ah hT
 have QR:=ah (ql A ms cap w hT hS)
 have HV:Hid (((nM (ms.map (·.s)) ms.length).1,(nM (ms.map (·.s)) ms.length).2.2)=rC (ms.map (·.s))):=by unfold Hid rC;rw[ax]
 clear hS hT
 go_in
 go_wp2_with fail
 refine QR.mono ?_
 rintro e w1⟨rfl,hb1⟩
 have HB1:=ah hb1
 clear hb1 QR
 go_wp2_with fail
 go_loopw[4,5,6,15] (fun v gr fd i wr=>∃k:Nat,i=(aJ k)∧k≤ms.length∧v=.int .i64 ((nM (ms.map (·.s)) k).1:Nat)∧gr=.int .i64 (nM (ms.map (·.s)) k).2.1∧fd=.bool (nM (ms.map (·.s)) k).2.2∧(bB w wr)) (fun _ _ _ i _=>(lI 34 ms i))
 case atStart=>exact⟨0,rfl,be _,rfl,rfl,rfl,HB1⟩
 clear HB1
 obtain⟨k,rfl,hk,rfl,rfl,rfl,HB⟩:=hrel
 by_cases h1:k<ms.length
 ·have d1:decide ((k:Int)<ms.length)=true:=ae;have HOC:=ah ((HS.one k h1 hcap).later HB);have hone:=fun w=>Tx A ms.length cap k h1 hcap w;have HST:=ah (zJ (ms.map (·.s)) k);have hget:(ms.map (·.s))[k]? =some ms[k].s:=by rw[eD,an h1];rfl
  have hstep:∀a,vO (ms.map (·.s)) a k=if kn ms[k].s.k.kind≤ms[k].s.k.level then a else if a.2.2=false∨a.2.1<nF ms[k].s then(k,nF ms[k].s,true)else a:=fun a=>by unfold vO;rw[hget]
  have MP:=ah hstep;have Zx:Hid (∀w',Below w w w'→jE Tryz.prog 72 #[.slice (pU A k cap) 1 (cap-k)] w' fun e w''=>e=.returned (.int .i64 (nF ms[k].s))∧Below w' w' w''):=fun w' h=>by
   have:=DX (pU A k cap) [ms[k]] (cap-k) w' (HT.later h) ((HS.one k h1 hcap).later h);have e:kJ ([ms[k]].map (·.s))=nF ms[k].s:=by simp[kJ]
   rwa[e]at this
  have hmk:ms[k].m.s=ms[k].s.k:=ms[k].hk;obtain⟨b,off,rfl,hb,hc⟩:=HS.tab.at_ jS;obtain⟨i0,i1,i2,i3,i4,i5,i6,i7,i8,i9,i10,i11⟩:=(hc k h1).below HB hb;have hbw:b<wr.heap.size:=qes;have hi1:(0:Int)≤k:=jS;have hi2:(k:Int)<ms.length:=jS;clear hc hget hstep;generalize ms[k]=m at*
  generalize nM (ms.map (·.s)) k=a at*
  obtain⟨va,vg,vf⟩:=a;rw[MP]at HST;have hmc:m.m.s=m.s.k:=hmk;rw[←hmc]at HST;clear MP hmk hmc;simp only at HST⊢;go_wp2_with fail;refine oN (fun V=>Below w w V) ((Hold.nil wr).alloc wr 197 (lz 3 m)) (jP HB _) (fun V HV Ha=>?_);clear i0 i1 i2 i3 i4 i5 i6 i7 i8 i9 i10 i11;have x:=fk (HV.facts);have WA:=ah Ha.drew;by_cases hbt:kn m.m.s.kind≤m.m.s.level
  ·have dB:decide (kn m.m.s.kind≤m.m.s.level)=true:=decide_eq_true hbt;have HR:Hid (nM (ms.map (·.s)) (k+1)=(va,vg,vf)):=by have:=HST;rwa[if_pos hbt]at this
   clear hbt HST Ha;go_region_held(fun w'=>w'.cell? ⟨wr,2,none⟩=some (.int .i64 m.m.s.level)∧w'.cell? ⟨wr,1,none⟩=some (.int .i64 m.m.s.kind)) (first|assumption|exact⟨x.2.2.2.2.1,x.2.2.2.1⟩|go_keep) ((go_at_call 112;refine(qI _ _).mono ?_;rintro r _⟨rfl,rfl⟩));go_wp2;go_roundw
   case rel=>exact⟨k+1,CJ,jS,by rw[HR],by rw[HR],by rw[HR],WA⟩
   exact No
  have dB:decide (kn m.m.s.kind≤m.m.s.level)=false:=decide_eq_false hbt;have HR:Hid (nM (ms.map (·.s)) (k+1)=if vf=false∨vg<nF m.s then(k,nF m.s,true)else(va,vg,vf)):=by have:=HST;rwa[if_neg hbt]at this
  clear hbt HST Ha;go_region_held(fun w'=>w'.cell? ⟨wr,2,none⟩=some (.int .i64 m.m.s.level)∧w'.cell? ⟨wr,1,none⟩=some (.int .i64 m.m.s.kind)) (first|assumption|exact⟨x.2.2.2.2.1,x.2.2.2.1⟩|go_keep) ((go_at_call 112;refine(qI _ _).mono ?_;rintro r _⟨rfl,rfl⟩));go_wp2_with fail;refine(Zx _ WA).mono ?_;rintro e w2⟨rfl,hb2⟩;have HB2:=ah (Below.two WA hb2);clear hb2 WA Zx HOC x HV hone
  cases vf with
  |false=>
   have HR2:Hid (nM (ms.map (·.s)) (k+1)=(k,nF m.s,true)):=by have:=HR;rwa[if_pos (.inl rfl)]at this
   clear HR;go_wp2;go_roundw
   case rel=>exact⟨k+1,CJ,jS,by rw[HR2],by rw[HR2],by rw[HR2],HB2⟩
   exact No
  |true=>
   by_cases hg:vg<nF m.s
   ·have HR2:Hid (nM (ms.map (·.s)) (k+1)=(k,nF m.s,true)):=by have:=HR;rwa[if_pos (.inr hg)]at this
    have dG:decide (vg<nF m.s)=true:=decide_eq_true hg;clear HR hg;go_wp2;go_roundw
    case rel=>exact⟨k+1,CJ,jS,by rw[HR2],by rw[HR2],by rw[HR2],HB2⟩
    exact No
   have HR2:Hid (nM (ms.map (·.s)) (k+1)=(va,vg,true)):=by have:=HR;rwa[if_neg mO]at this
   have dG:decide (vg<nF m.s)=false:=decide_eq_false hg;clear HR hg;go_wp2;go_roundw
   case rel=>exact⟨k+1,CJ,jS,by rw[HR2],by rw[HR2],by rw[HR2],HB2⟩
   exact No
 have hkk:k=ms.length:=jS
 subst hkk
 have d1:decide ((ms.length:Int)<ms.length)=false:=lV
 clear HT HS
 go_wp2
 go_ret2
 exact⟨by rw[←HV];rfl,HB⟩
def Stop(P:Prop):Prop:=P
theorem Stop.i{P:Prop}(h:Stop P):P:=h
structure Out(X:Nat→Prop)(w w':jC):Prop where
 os:w'.os=w.os
 tape:w'.tape=w.tape
 output:w'.output=w.output
 size:w.heap.size≤w'.heap.size
 block:∀k,k<w.heap.size→¬X k→w'.heap[k]? =w.heap[k]?
section
variable{X Y:Nat→Prop}{w w' w'':jC}
theorem Out.refl(X:Nat→Prop)(w:jC):Out X w w:=⟨rfl,rfl,rfl,ay _,fun _ _ _=>rfl⟩
theorem Out.trans(h:Out X w w')(k:Out X w' w''):Out X w w'':=⟨k.os.trans h.os,k.tape.trans h.tape,k.output.trans h.output,a_ h.size k.size,fun i hi hx=>(k.block i (cn hi h.size) hx).trans (h.block i hi hx)⟩
theorem Out.mono(h:Out X w w')(hx:∀k,k<w.heap.size→X k→Y k):Out Y w w':=⟨h.os,h.tape,h.output,h.size,fun i hi hy=>h.block i hi fun e=>hy (hx i hi e)⟩
theorem Out.of(h:Below w w w'):Out X w w':=⟨h.os,h.tape,h.output,h.size,fun i hi _=>h.block i hi⟩
theorem Out.below(h:Out X w w')(hB:B≤w.heap.size)(hx:∀k,X k→B≤k):Below B w w':=⟨h.os,h.tape,h.output,h.size,fun i hi=>h.block i jS fun e=>by have:=hx i e;omega⟩
theorem Out.call(h:Out X w w')(k:Below w' w' w''):Out X w w'':=h.trans (Out.of k)
theorem Out.then_(h:Out X w w')(k:Out Y w' w'')(hy:∀k,Y k→X k∨w.heap.size≤k):Out X w w'':=
 ⟨k.os.trans h.os,k.tape.trans h.tape,k.output.trans h.output,a_ h.size k.size,fun i hi hx=>(k.block i (cn hi h.size) fun e=>(hy i e).elim hx fun e=>jS).trans (h.block i hi hx)⟩
theorem Out.drew(h:Out X w w'):Out X w w'.drew:=⟨h.os,h.tape,h.output,h.size,h.block⟩
theorem Out.alloc(h:Out X w w')(o:Obj):Out X w (w'.alloc o):=⟨h.os,h.tape,h.output,a_ h.size lV,fun i hi hx=>(Below.heap_alloc w' o i (cn hi h.size)).trans (h.block i hi hx)⟩
theorem Out.setCell(h:Out X w w'){p:jG}(hp:X p.block∨w.heap.size≤p.block)(u:jD):Out X w (w'.setCell p u):=
 ⟨h.os,h.tape,h.output,a_ h.size (by simp[bj]),fun i hi hx=>(Below.heap_setCell w' p u i (fun e=>hp.elim (fun q=>hx (e▸q)) fun q=>jS)).trans (h.block i hi hx)⟩
theorem Out.cell(h:Out X w w'){p:jG}(hp:p.block<w.heap.size)(hx:¬X p.block):w'.cell? p=w.cell? p:=co (h.block _ hp hx)
variable{g:Nat}
theorem Out.blk{t:jH}{cs:Array jD}(h:Out X w w')(hb:jR w g t cs)(hx:¬X g):jR w' g t cs:=(h.block g hb.lt hx).trans hb
variable{xs:List jD}
theorem Out.rd(h:Out X w w')(hr:Rd w w A xs)(hx:xs≠[]→∀ad,A=some ad→¬X ad.block):Rd w' w' A xs:=fun hl=>by
 obtain⟨b,off,e,hb,hc⟩:=hr hl;exact⟨b,off,e,cn hb h.size,fun j v hj=>(co (h.block b hb (hx hl _ e))).trans (hc j v hj)⟩
variable{m:SkM}
theorem Out.sk(h:Out X w w')(hm:jY w w m)(hx:lY (fun b=>¬X b) m):jY w' w' m:=
 ⟨h.rd hm.e fun e=>hx.e (by simpa using e),h.rd hm.c fun e=>hx.c (by simpa using e),h.rd hm.g fun e=>hx.g (by cases hg:m.s.g with|nil=>rw[hg]at e;exact absurd rfl e|cons y r=>simp)⟩
end
structure DC(p:Nat→Prop)(m:jZ):Prop where
 l:m.s.l≠[]→∀ad,m.la=some ad→p ad.block
 k:lY p m.m
structure DB(p:Nat→Prop)(A:Option jG)(ms:List jZ):Prop where
 a:ms≠[]→∀ad,A=some ad→p ad.block
 all:∀m∈ms,DC p m
section
variable{p q:Nat→Prop}{X:Nat→Prop}{w w':jC}{A:Option jG}{ms:List jZ}{m:jZ}
theorem DC.mono(h:DC p m)(hq:∀b,p b→q b):DC q m:=⟨fun x a e=>hq _ (h.l x a e),h.k.mono hq⟩
theorem DB.mono(h:DB p A ms)(hq:∀b,p b→q b):DB q A ms:=⟨fun x a e=>hq _ (h.a x a e),fun m hm=>(h.all m hm).mono hq⟩
theorem mr.inn{B:Nat}(h:mr B m):DC (B≤ ·) m:=⟨fun _=>h.l,h.k.inn⟩
theorem Out.ser(h:Out X w w')(hm:my w w m)(hx:DC (fun b=>¬X b) m):my w' w' m:=
 ⟨h.rd hm.l fun e=>hx.l (fun e2=>e (by rw[e2];rfl)),h.sk hm.k hx.k⟩
theorem Out.tab(h:Out X w w')(ht:Tab w w A ms)(hx:DB (fun b=>¬X b) A ms):Tab w' w' A ms:=
 ⟨h.rd ht.rd fun e=>hx.a (fun e2=>e (by rw[e2];rfl)),fun m hm=>h.ser (ht.ok m hm) (hx.all m hm)⟩
end
structure kj(X:Nat→Prop)(w0 w:jC)(bs:List (Nat×jH×List jD)):Prop where
 out:Out X w0 w
 blk:∀b∈bs,(X b.1∨w0.heap.size≤b.1)∧jR w b.1 b.2.1 b.2.2.toArray
 apart:bs.Pairwise fun a b=>a.1≠b.1
theorem Dp{X:Nat→Prop}{w0 w:jC}:∀{bs:List (Nat×jH×List jD)},(∀b∈bs,(X b.1∨w0.heap.size≤b.1)∧jR w b.1 b.2.1 b.2.2.toArray)→Facts w bs
 |[],_=>trivial
 |b::bs,h=>have hb:=(h b ab).2;⟨hb.lt,hb.frozen,qG hb _ 0 (fun j u hj=>by rw[au];exact hj),Dp fun c hc=>h c (dS _ hc)⟩
section
variable{X Y:Nat→Prop}{w0 w w':jC}{bs:List (Nat×jH×List jD)}
theorem kj.facts(h:kj X w0 w bs):Facts w bs:=Dp h.blk
variable{g:Nat}{t:TypeId}{cs:List Value}
theorem kj.at_(h:kj X w0 w bs)(k:Nat)(e:bs[k]? =some (g,t,cs):=by rfl):kz w g 0 cs:=qG (h.blk _ (List.mem_of_getElem? e)).2 cs 0 fun j u hj=>by rw[Nat.zero_add];exact hj
theorem kj.nil(X:Nat→Prop)(w:jC):kj X w w []:=⟨Out.refl _ _,fun _ h=>qch,List.Pairwise.nil⟩
theorem kj.one(X:Nat→Prop){t:jH}{cs:List jD}(hx:X g)(h:jR w g t cs.toArray):kj X w w [(g,t,cs)]:=⟨Out.refl _ _,fun b hb=>by simp at hb;rw[hb];exact⟨.inl hx,h⟩,lV⟩
theorem kj.size(h:kj X w0 w bs):w0.heap.size≤w.heap.size:=h.out.size
theorem kj.call(h:kj X w0 w bs)(hb:Below w w w'):kj X w0 w' bs:=⟨h.out.call hb,fun b hm=>⟨(h.blk b hm).1,(h.blk b hm).2.later hb⟩,h.apart⟩
theorem kj.wP(h:kj X w0 w bs)(hb:Out Y w w')(hy:∀k,Y k→X k∨w0.heap.size≤k)(hn:∀b∈bs,¬Y b.1):kj X w0 w' bs:=⟨h.out.then_ hb hy,fun b hm=>⟨(h.blk b hm).1,hb.blk (h.blk b hm).2 (hn b hm)⟩,h.apart⟩
theorem kj.Dt(h:kj X w0 w bs)(k:Nat){ds:List Value}(hb:Out Y w w')(hy:∀k,Y k→X k∨w0.heap.size≤k)(hn:∀b∈bs,b.1≠g→¬Y b.1)(hg:jR w' g t ds.toArray)(e:bs[k]? =some (g,t,cs):=by rfl):kj X w0 w' (bs.set k (g,t,ds)):=by
 obtain⟨hk,ek⟩:=ci.1 e;have hm:(g,t,cs)∈bs:=ek▸ar hk;have hap:=cj.1 h.apart;have e1:∀(j:Nat)(hj:j<bs.length),((bs.set k (g,t,ds))[j]'(by simpa using hj)).1=bs[j].1:=fun j hj=>by
  rw[eW];split
  ·subst_vars;rw[ek]
  rfl
 refine⟨h.out.then_ hb hy,fun b hb2=>?_,cj.2 fun x y hx hy hxy=>?_⟩
 ·obtain⟨j,hj,rfl⟩:=dR hb2;have hj':j<bs.length:=by simpa using hj
  rw[eW];by_cases e2:k=j
  ·rw[if_pos e2];exact⟨(h.blk _ hm).1,hg⟩
  rw[if_neg e2];have hq:=h.blk _ (ar hj');have e3:bs[k].1=g:=by rw[ek]
  refine⟨hq.1,hb.blk hq.2 (hn _ (ar hj') fun e4=>?_)⟩;rcases iD e2 with hl|hl
  ·exact hap _ _ hk hj' hl (e3.trans e4.symm)
  exact hap _ _ hj' hk hl (e4.trans e3.symm)
 have hx':x<bs.length:=by simpa using hx
 have hy':y<bs.length:=by simpa using hy
 rw[e1 x hx',e1 y hy'];exact hap x y hx' hy' hxy
theorem kj.drew(h:kj X w0 w bs):kj X w0 w.drew bs:=⟨h.out.drew,h.blk,h.apart⟩
theorem kj.al(h:kj X w0 w bs)(o:Obj):kj X w0 (w.alloc o) bs:=⟨h.out.alloc o,fun b hm=>⟨(h.blk b hm).1,(h.blk b hm).2.alloc o⟩,h.apart⟩
theorem kj.alloc(h:kj X w0 w bs)(g:Nat)(t:TypeId)(cs:List Value)(hg:g=w.heap.size:=by simp):kj X w0 (w.alloc (.cells cs.toArray t)) ((g,t,cs)::bs):=by
 subst hg;refine⟨h.out.alloc _,fun b hm=>?_,b6.2 ⟨fun b hm=>Nat.ne_of_gt (h.blk b hm).2.lt,h.apart⟩⟩;rcases cw.1 hm with rfl|hm
 ·exact⟨.inr h.size,jR.new w _ _⟩
 exact⟨(h.blk b hm).1,(h.blk b hm).2.alloc _⟩
theorem kj.put(h:kj X w0 w bs)(k i:Nat)(v:Value)(e:bs[k]? =some (g,t,cs):=by rfl):kj X w0 (w.setCell ⟨g,i,none⟩ v) (bs.set k (g,t,cs.set i v)):=by
 obtain⟨hk,ek⟩:=ci.1 e;have hm:(g,t,cs)∈bs:=ek▸ar hk;have hap:=cj.1 h.apart;refine⟨h.out.setCell (p:=⟨g,i,none⟩) (h.blk _ hm).1 v,fun b hb=>?_,cj.2 fun x y hx hy hxy=>?_⟩
 ·obtain⟨j,hj,rfl⟩:=dR hb;rw[eW];by_cases e:k=j
  ·rw[if_pos e];refine⟨(h.blk _ hm).1,?_⟩;have:=(h.blk _ hm).2.kY i v;simpa using this
  rw[if_neg e];have hj':j<bs.length:=by simpa using hj
  have hb:=h.blk _ (ar hj');refine⟨hb.1,hb.2.far (p:=⟨g,i,none⟩) (fun e2=>?_) v⟩;have e3:bs[k].1=g:=by rw[ek]
  rcases iD e with hl|hl
  ·exact hap _ _ hk hj' hl (e3.trans e2.symm)
  exact hap _ _ hj' hk hl (e2.trans e3.symm)
 have hx':x<bs.length:=by simpa using hx
 have hy':y<bs.length:=by simpa using hy
 have q:=hap x y hx' hy' hxy;have e1:∀(j:Nat)(hj:j<bs.length),((bs.set k (g,t,cs.set i v))[j]'(by simpa using hj)).1=bs[j].1:=fun j hj=>by
  rw[eW];split
  ·subst_vars;rw[ek]
  rfl
 rw[e1 x hx',e1 y hy'];exact q
end
section
variable{X:Nat→Prop}{w0 W:jC}{bs:List (Nat×jH×List jD)}{P:bi3}{a:Act}
theorem oO{c:bk9}{Q:bk7→Act→jC→Prop}(F:jC→Prop)(H:kj X w0 W bs)(h:F W)(k:∀V,Hid (kj X w0 V bs)→F V→c.wp P Q a V):c.wp P Q a W:=k W (ah H) h
variable{R:bi6→jC→Prop}
theorem kh{fn:Func}{x:bk7}(F:jC→Prop)(H:kj X w0 W bs)(h:F W)(k:∀V,Hid (kj X w0 V bs)→F V→bodyPost P fn R x a V):bodyPost P fn R x a W:=k W (ah H) h
theorem kq{f:bl9}{args:Array jD}(F:jC→Prop)(H:kj X w0 W bs)(h:F W)(k:∀V,Hid (kj X w0 V bs)→F V→jE P f args V R):jE P f args W R:=k W (ah H) h
end
theorem kj.fill{X:Nat→Prop}{w0:jC}{bs:List (Nat×jH×List jD)}{g:Nat}{t:jH}:∀(vs:List jD){w:jC}{cs:List jD}(i:Nat),kj X w0 w bs→∀k:Nat,bs[k]? =some (g,t,cs)→i+vs.length=cs.length→kj X w0 (lp w g i vs) (bs.set k (g,t,cs.take i++vs))
 |[],w,cs,i,h,k,e,hl=>by
  obtain⟨hk,ek⟩:=ci.1 e;have e2:cs.take i++([]:List jD)=cs:=by rw[eB,cl (by simp at hl;omega)]
  rw[e2,←ek,ie];exact h
 |v::vs,w,cs,i,h,k,e,hl=>by
  have hk:k<bs.length:=(ci.1 e).1;have:=kj.fill vs (i+1) (h.put k i v e) k (by rw[gM hk]) (by simp at hl⊢;omega);rw[List.set_set]at this;have e2:(cs.set i v).take (i+1)++vs=cs.take i++v::vs:=by
   have hi:i<cs.length:=by simp at hl;omega
   rw[aj (by simpa using hi),fP,gm aa,eH];rfl
  rw[e2]at this;exact this
variable{g:Nat}{t:TypeId}{cs:List Value}
theorem kj.all{X:Nat→Prop}{w0 w:World}{bs:List (Nat×TypeId×List Value)}(h:kj X w0 w bs)(k:Nat)(vs:List Value)(e:bs[k]? =some (g,t,cs):=by rfl)(hl:vs.length=cs.length:=by rfl):kj X w0 (lp w g 0 vs) (bs.set k (g,t,vs)):=by
 have:=kj.fill vs 0 h k e jS;simpa using this
instance(x0:jC)(x1:Nat)(x2:SkM):CoeOut (IP 10 x0 x1 x2) Prop:=⟨fun _=>x0.cell? ⟨x1,0,none⟩=some (.int .i64 x2.s.kind)∧x0.cell? ⟨x1,1,none⟩=some (.int .i64 x2.s.level)∧x0.cell? ⟨x1,2,none⟩=some (.slice x2.ea x2.s.e.length x2.ec)∧x0.cell? ⟨x1,3,none⟩=some (.int .i64 x2.s.bits)∧x0.cell? ⟨x1,4,none⟩=some (.string x2.s.regs)∧x0.cell? ⟨x1,5,none⟩=some (.int .i64 x2.s.rows)∧x0.cell? ⟨x1,6,none⟩=some (.int .i64 x2.s.cols)∧x0.cell? ⟨x1,7,none⟩=some (.slice x2.ca x2.s.c.length x2.cc)∧x0.cell? ⟨x1,8,none⟩=some (.int .i64 x2.s.fine)∧x0.cell? ⟨x1,9,none⟩=some (.slice x2.ga x2.s.g.length x2.gc)⟩
instance(x0:jC)(x1:Nat)(x2:SkM):CoeSort (IP 10 x0 x1 x2) Prop:=⟨fun _=>x0.cell? ⟨x1,0,none⟩=some (.int .i64 x2.s.kind)∧x0.cell? ⟨x1,1,none⟩=some (.int .i64 x2.s.level)∧x0.cell? ⟨x1,2,none⟩=some (.slice x2.ea x2.s.e.length x2.ec)∧x0.cell? ⟨x1,3,none⟩=some (.int .i64 x2.s.bits)∧x0.cell? ⟨x1,4,none⟩=some (.string x2.s.regs)∧x0.cell? ⟨x1,5,none⟩=some (.int .i64 x2.s.rows)∧x0.cell? ⟨x1,6,none⟩=some (.int .i64 x2.s.cols)∧x0.cell? ⟨x1,7,none⟩=some (.slice x2.ca x2.s.c.length x2.cc)∧x0.cell? ⟨x1,8,none⟩=some (.int .i64 x2.s.fine)∧x0.cell? ⟨x1,9,none⟩=some (.slice x2.ga x2.s.g.length x2.gc)⟩
instance(x0:jC)(x1:Nat)(x2:Nat)(x3:SkM):CoeOut (IN 11 x0 x1 x2 x3) jC:=⟨fun _=>(bj (bj (bj (bj (bj (bj (bj (bj (bj x0 ⟨x1,x2*12+1,none⟩ (.int .i64 x3.s.kind)) ⟨x1,x2*12+2,none⟩ (.int .i64 x3.s.level)) ⟨x1,x2*12+3,none⟩ (.slice x3.ea x3.s.e.length x3.ec)) ⟨x1,x2*12+4,none⟩ (.int .i64 x3.s.bits)) ⟨x1,x2*12+5,none⟩ (.string x3.s.regs)) ⟨x1,x2*12+6,none⟩ (.int .i64 x3.s.rows)) ⟨x1,x2*12+7,none⟩ (.int .i64 x3.s.cols)) ⟨x1,x2*12+8,none⟩ (.slice x3.ca x3.s.c.length x3.cc)) ⟨x1,x2*12+9,none⟩ (.int .i64 x3.s.fine))⟩
theorem VQ:∀(ms:List jZ)(i:Nat)(a1 a2 a3 a4 a5 a6 a7 a8 a9 a10:jD)(m:jZ)(h:i<ms.length),ng m=[(ng ms[i])[0]'(by rw[l7];omega),a1,a2,a3,a4,a5,a6,a7,a8,a9,a10,(ng ms[i])[11]'(by rw[l7];omega)]→(((((((((((lS ms).set (i*12+1) a1).set (i*12+2) a2).set (i*12+3) a3).set (i*12+4) a4).set (i*12+5) a5).set (i*12+6) a6).set (i*12+7) a7).set (i*12+8) a8).set (i*12+9) a9).set (i*12+10) a10)=lS (ms.set i m)
 |[],i,_,_,_,_,_,_,_,_,_,_,_,h,_=>WY
 |y::ms,0,_,_,_,_,_,_,_,_,_,_,m,_,he=>by
  rw[ak];unfold lS;rw[dg,dg,he];rfl
 |y::ms,i+1,a1,a2,a3,a4,a5,a6,a7,a8,a9,a10,m,h,he=>by
  have ih:=VQ ms i a1 a2 a3 a4 a5 a6 a7 a8 a9 a10 m S6 he;rw[am];have e:∀l:List jZ,lS (y::l)=ng y++lS l:=fun l=>by simp[lS]
  rw[e,e,←ih];have s:∀(l:List jD)(c:Nat)(u:jD),(ng y++l).set ((i+1)*12+c) u=ng y++l.set (i*12+c) u:=fun l c u=>by
   rw[iN _ _ (by rw[l7];omega),l7];congr 2;omega
  simp only[s]
def rc(m:jZ)(q:SkM):jZ:=⟨{m.s with k:=q.s},q,m.la,m.lc,rfl⟩
variable{n:Nat}{cs:List jZ}
theorem lF.ZS{cap:Nat}(h:lF w B (.slice (aC g) n cap) cs)(hn:n=cs.length)(i:Nat)(hi:i<cs.length)(q:SkM)(hok:jY w w q)(hap:Apart (some g) (rc cs[i] q)):
 ∃W,W=(bj (rU 11 w g i q) ⟨g,i*12+10,none⟩ (.slice q.ga q.s.g.length q.gc))∧lF W B (.slice (aC g) n cap) (cs.set i (rc cs[i] q))∧(bY w W g):=by
 subst hn
 have h1:=h.own.stored (i*12+1) (.int .i64 q.s.kind)
 have h2:=h1.1.stored (i*12+2) (.int .i64 q.s.level)
 have h3:=h2.1.stored (i*12+3) (.slice q.ea q.s.e.length q.ec)
 have h4:=h3.1.stored (i*12+4) (.int .i64 q.s.bits)
 have h5:=h4.1.stored (i*12+5) (.string q.s.regs)
 have h6:=h5.1.stored (i*12+6) (.int .i64 q.s.rows)
 have h7:=h6.1.stored (i*12+7) (.int .i64 q.s.cols)
 have h8:=h7.1.stored (i*12+8) (.slice q.ca q.s.c.length q.cc)
 have h9:=h8.1.stored (i*12+9) (.int .i64 q.s.fine)
 have h10:=h9.1.stored (i*12+10) (.slice q.ga q.s.g.length q.gc)
 have hS:=h10.1
 rw[VQ cs i (.int .i64 q.s.kind) (.int .i64 q.s.level) (.slice q.ea q.s.e.length q.ec) (.int .i64 q.s.bits) (.string q.s.regs) (.int .i64 q.s.rows) (.int .i64 q.s.cols) (.slice q.ca q.s.c.length q.cc) (.int .i64 q.s.fine) (.slice q.ga q.s.g.length q.gc) (rc cs[i] q) hi rfl]at hS
 have hg:=(jW (jW (jW (jW (jW (jW (jW (jW (jW h1.2 h2.2) h3.2) h4.2) h5.2) h6.2) h7.2) h8.2) h9.2) h10.2)
 refine⟨_,rfl,⟨by rw[eq];exact hS,fun x hx=>?_,fun x hx=>?_⟩,hg⟩
 ·rcases dO hx with hx|hx
  ·exact(h.ok x hx).grown hg (h.ap x hx)
  rw[hx];exact my.grown ⟨(h.ok _ (ar hi)).l,hok⟩ hg hap
 rcases dO hx with hx|hx
 ·exact h.ap x hx
 rw[hx];exact hap
theorem te(fb:Nat)(pv:jD)(ps:List Nat)(a:Nat)(hn:ps.length≤1000)(B:Nat)(w:jC)(hB:B≤w.heap.size)(hc:w.cell? ⟨fb,0,none⟩=some pv)(hfz:∀i,w.frozen? ⟨fb,i,none⟩=false)(ho:w.ownsRow B 3 1 pv ps.length (lC ps))(hne:∀r,pv.ownBlock=some r→r≠fb):
 jE Tryz.prog 144 #[jO fb,jJ (a:Int)] w fun e w'=>e=.returned (.tuple #[])∧∃v' W1,w'=W1.setCell ⟨fb,0,none⟩ v'∧W1.ownsRow B 3 1 v' (ps.length+1) (lC (ps++[a]))∧w.grownBy W1 pv.ownBlock∧(v'.ownBlock=pv.ownBlock∨∃r,v'.ownBlock=some r∧w.heap.size≤r):=by
 obtain⟨i0,hi0,hz0,hz1,hz2⟩:=bi5 Tryz.Ew
 have HO:=ah ho
 have hfw:fb<w.heap.size:=b8 _ _ hc
 obtain⟨A1,c1,rfl,-⟩:=li ho
 have OT:=ah hne
 clear ho hne
 go_in
 go_wp2_with(at_builtin;refine Stop.i ?_)
 unfold Stop
 refine kr _ rfl (.tmp 8) (.tmp 10) 52 rfl B 3 i0 (.int .i64 0) 1 8 Tryz.underlying52 hi0 hz0 hz1 hz2 rfl B8 (.slice A1 ps.length c1) ps.length _ rfl (HO.alloc _) _ _ 1 1 [jJ (a:Int)] rfl rfl (tY (jR.new w _ #[jJ (a:Int)])) (fun u hu=>by simp at hu;rw[hu];rfl) O0 jS mO ?_
 intro v' W hown hgrow hv
 obtain⟨A2,c2,rfl,-⟩:=lB hown
 have hblk:=(hgrow.block fb mO (fun e=>OT _ e.symm rfl)).trans (Below.heap_alloc w (.cells #[jJ (a:Int)] 3) fb hfw)
 have z0:=(co (a:=⟨fb,0,none⟩) hblk).trans hc
 have zf:=fun i=>(World.frozen?_of_block (a:=⟨fb,i,none⟩) hblk).trans (hfz i)
 have HG:Hid (w.grownBy W (eo A1 ps.length c1).ownBlock):=⟨hgrow.os,hgrow.tape,hgrow.output,by have:=hgrow.size;simp at this;omega,fun k hk hne=>(hgrow.block k mO hne).trans (Below.heap_alloc w _ k hk)⟩
 have HN:Hid (W.ownsRow B 3 1 (.slice A2 (ps.length+1) c2) (ps.length+1) (lC (ps++[a]))):=by
  show gX _ _ _ _ _ _ _;simpa[lC]using hown
 have HV:Hid ((eo A2 (ps.length+1) c2).ownBlock=(eo A1 ps.length c1).ownBlock∨∃r,(eo A2 (ps.length+1) c2).ownBlock=some r∧w.heap.size≤r):=by
  rcases hv with e|e
  ·exact .inl e
  exact .inr ⟨_,e,lV⟩
 clear hown hgrow hv hblk
 go_wp2
 refine bl6 (v:=.tuple #[]) (by simp[results,Tryz.results144,go_sem]) rfl ?_
 exact⟨rfl,_,W,rfl,HN,HG,HV⟩
def sJ(w:jC)(r:Option (List mq×List Nat))(e:bi6)(w':jC):Prop:=Below w w w'∧match r with
 |none=>e=.returned (.tuple #[jM,jM,jJ 130])
 |some (t,ps)=>∃A c cs A2 c2,e=.returned (.tuple #[jN A cs c,jN A2 ps c2,jJ 0])∧cs.map (·.s)=t∧lF w' w (cU A cs c) cs∧(∀m∈cs,mr w m)∧Rd w' w' A2 (lC ps)∧(aX A2 w)
variable{w':jC}{r:Option (List mq×List Nat)}
theorem sJ.no(h:r=none)(hb:Below w w w'):sJ w r (.returned (.tuple #[jM,jM,jJ 130])) w':=⟨hb,by rw[h]⟩
variable{ps:List Nat}
theorem sJ.yes{A2:Option jG}{c c2:Nat}(h:r=some (cs.map (·.s),ps))(hb:Below w w w')(ho:lF w' w (cU A cs c) cs)(hl:∀m∈cs,mr w m)(hr:w'.ownsRow w 3 1 (.slice A2 ps.length c2) ps.length (lC ps)):
 sJ w r (.returned (.tuple #[jN A cs c,jN A2 ps c2,jJ 0])) w':=by
 refine⟨hb,?_⟩
 rw[h]
 obtain⟨A',c',e,_,hrd,hlo⟩:=li hr
 cases e
 exact⟨A,c,cs,A2,c2,rfl,rfl,ho,hl,hrd,hlo⟩
structure uM(w:jC)(fb:Nat)(cs:List jZ)(ps:List Nat)(tv pv:jD)(W:jC):Prop where
 below:Below w w W
 blk:jR W fb 268 #[pv,tv]
 fbw:w.heap.size≤fb
 tab:lF W w tv cs
 row:W.ownsRow w 3 1 pv ps.length (lC ps)
 gt:GT (cs.map (·.s))
 lo:∀m∈cs,mr w m
 Zg:∀m∈cs,Apart (some fb) m
 app:∀m∈cs,Apart pv.ownBlock m
 BN:∀r,tv.ownBlock=some r→r≠fb∧pv.ownBlock≠some r
 YW:∀r,pv.ownBlock=some r→r≠fb
variable{W:jC}{fb:Nat}{pv:jD}
theorem uM.call{W':jC}{tv:jD}(h:uM w fb cs ps tv pv W)(hb:Below W W W'):uM w fb cs ps tv pv W':=
 ⟨h.below.trans (hb.mono h.below.size),h.blk.later hb,h.fbw,h.tab.later hb,lf h.row hb,h.gt,h.lo,h.Zg,h.app,h.BN,h.YW⟩
def TS:Option jD→Nat
 |some (.slice _ n _)=>n
 |_=>0
variable{xs:List jD}
theorem P8{v:jD}(h:W.ownsRow B 3 1 v n xs):TS (some v)=n:=by
 obtain⟨A,c,rfl,_⟩:=li h;rfl
theorem od{sz:Nat}{t:jH}{v:jD}{row:Option Nat}(h:w.ownsRow B t sz v n xs)(hg:w.grownBy w' row)(hne:∀r,v.ownBlock=some r→row≠some r):w'.ownsRow B t sz v n xs:=by
 obtain⟨h1,⟨h,e⟩|⟨g,cap,cur,hv,hb,hh,hr⟩⟩:=h
 ·exact⟨h1,.inl ⟨h,e⟩⟩
 refine⟨h1,.inr ⟨g,cap,cur,hv,hb,?_,hr⟩⟩;rw[hg.block g (aw.1 hh).1 (fun e=>hne g (by rw[hv];rfl) e.symm)];exact hh
theorem lF.grown{w w':jC}{B:Nat}{v:jD}{cs:List jZ}{row:Option Nat}(h:lF w B v cs)(hg:w.grownBy w' row)(hne:∀r,v.ownBlock=some r→row≠some r)(ha:∀m∈cs,Apart row m):lF w' B v cs:=
 ⟨od h.own hg hne,fun m hm=>(h.ok m hm).grown hg (ha m hm),h.ap⟩
theorem uM.drew{w W:jC}{fb:Nat}{cs:List jZ}{ps:List Nat}{tv pv:jD}(h:uM w fb cs ps tv pv W):uM w fb cs ps tv pv W.drew:=
 ⟨h.below.drew,h.blk,h.fbw,⟨h.tab.own,fun m hm=>⟨(h.tab.ok m hm).l,⟨(h.tab.ok m hm).k.e,(h.tab.ok m hm).k.c,(h.tab.ok m hm).k.g⟩⟩,h.tab.ap⟩,h.row,h.gt,h.lo,h.Zg,h.app,h.BN,h.YW⟩
theorem uM.told{W1:jC}{a:Nat}{tv v':jD}(h:uM w fb cs ps tv pv W)(hr:W1.ownsRow w 3 1 v' (ps.length+1) (lC (ps++[a])))(hg:W.grownBy W1 pv.ownBlock)(hv:v'.ownBlock=pv.ownBlock∨∃r,v'.ownBlock=some r∧W.heap.size≤r):
 uM w fb cs (ps++[a]) tv v' (W1.setCell ⟨fb,0,none⟩ v'):=by
 have hfw:=h.blk.lt
 have hv2:∀r,v'.ownBlock=some r→r≠fb:=fun r e=>by
  rcases hv with e2|⟨q,e2,hq⟩
  ·exact h.YW r (e2▸e)
  rw[e2]at e;cases e;omega
 have hb1:jR W1 fb 268 #[pv,tv]:=h.blk.grown hg (fun e=>h.YW _ e.symm rfl)
 have ht1:lF W1 w tv cs:=h.tab.grown hg (fun r e=>(h.BN r e).2) h.app
 have hs:=k6 W1 fb 0 v'
 refine⟨(h.below.grown hg h.below.size fun k e=>(pf h.row k e).1).setCell (p:=⟨fb,0,none⟩) h.fbw v',?_,h.fbw,ht1.grown hs (fun r e e2=>by cases e2;exact(h.BN _ e).1 rfl) h.Zg,?_,h.gt,h.lo,h.Zg,fun m hm=>?_,fun r e=>⟨(h.BN r e).1,fun e2=>?_⟩,hv2⟩
 ·have:=hb1.kY 0 v';simpa using this
 ·have:=od hr hs (fun r e e2=>by cases e2;exact hv2 _ e rfl);rwa[cd,fT]
 ·rcases hv with e2|⟨q,e2,hq⟩
  ·rw[e2];exact h.app m hm
  rw[e2];exact(h.tab.ok m hm).apart hq
 rcases hv with e3|⟨q,e3,hq⟩
 ·rw[e3]at e2;exact(h.BN r e).2 e2
 rw[e3]at e2;cases e2
 have:=(pf h.tab.own _ e).2;omega
theorem AV{M:Nat}{m:jZ}{q:SkM}{g:Option Nat}(hl:Apart g m)(hq:Fr M q)(hg:∀r,g=some r→r<M):Apart g (rc m q):=
 ⟨hl.1,fun _ ad e e2=>by have:=hq.e ad e;have:=hg _ e2.symm;omega,fun _ ad e e2=>by have:=hq.c ad e;have:=hg _ e2.symm;omega,fun _ ad e e2=>by have:=hq.g ad e;have:=hg _ e2.symm;omega⟩
theorem uM.low{cap M:Nat}(h:uM w fb cs ps (.slice (aC g) n cap) pv W)(hn:n=cs.length)(i:Nat)(hi:i<cs.length)(q:SkM)(hG:GK q.s)(hok:jY W W q)(hM:w.heap.size≤M)(hfb:fb<M)(hg:g<M)(hp:∀r,pv.ownBlock=some r→r<M)(hq:Fr M q):
 uM w fb (cs.set i (rc cs[i] q)) ps (.slice (aC g) n cap) pv (bj (rU 11 W g i q) ⟨g,i*12+10,none⟩ (.slice q.ga q.s.g.length q.gc)):=by
 have hc:=ar hi
 obtain⟨W',e,ho,hgr⟩:=h.tab.ZS hn i hi q hok (AV (h.tab.ap _ hc) hq (fun r e=>by cases e;exact hg))
 rw[←e]
 have mem:∀{p:jZ→Prop},(∀m∈cs,p m)→p (rc cs[i] q)→∀x∈cs.set i (rc cs[i] q),p x:=fun h1 h2 x hx=>by
  rcases dO hx with hx|hx
  ·exact h1 x hx
  rw[hx];exact h2
 have hgg:=pf h.tab.own g rfl
 refine⟨h.below.grown hgr h.below.size fun k e=>by cases e;exact hgg.1,h.blk.grown hgr (fun e=>by cases e;exact(h.BN _ rfl).1 rfl),h.fbw,ho,od h.row hgr (fun r e e2=>by cases e2;exact(h.BN _ rfl).2 e),?_,mem h.lo ⟨(h.lo _ hc).l,hq.mono hM⟩,mem h.Zg (AV (h.Zg _ hc) hq (fun r e=>by cases e;exact hfb)),mem h.app (AV (h.app _ hc) hq hp),h.BN,h.YW⟩
 have:=h.gt.kY i (by simpa using hi) hG
 rw[iJ]
 simpa[rc]using this
theorem Gg(A:Option jG)(ms:List jZ)(cap:Nat)(budget:Int)(h0:0≤budget)(h1:budget≤1000000)(w:jC)(hT:Tb w)(hS:oI w A ms):
 jE Tryz.prog 97 #[jN A ms cap,jJ budget] w (sJ w (pI budget 100 (ms.map (·.s)) [])):=by
 have h20:=hS.len
 have HT:=ah hT
 have hf:∀m∈ms,n_ m.s:=fun x hx=>(hS.g.all _ (dq.2 ⟨x,hx,rfl⟩)).fit
 have QR:=ah (ql A ms cap w hT hS)
 have QC:Hid (∀w',Below w w w'→jE Tryz.prog 141 #[jN A ms cap] w' fun e w''=>(∃v cs,e=.returned v∧cs.map (·.s)=ms.map (·.s)∧lF w'' w' v cs∧∀m∈cs,mr w' m)∧Below w' w' w''):=fun w' h=>Gh A ms cap h20 hf w' (hS.tab.later h)
 have hb:ux budget=true:=by simp[ux];omega
 have QB:Hid (∀w',jE Tryz.prog 140 #[jJ budget] w' fun e w''=>e=.returned (.bool true)∧w''=w'):=fun w'=>by have:=Ev budget w';rwa[hb]at this
 have HG:=ah hS.g
 have ak7:=ah (Qy hS.g)
 clear hT hS hf hb
 go_in
 go_wp2_with fail
 refine QR.mono ?_
 rintro e w1⟨rfl,hb1⟩
 have HB1:=ah hb1
 clear hb1 QR
 go_wp2_with fail
 refine(QB w1).mono ?_
 rintro e w2⟨rfl,rfl⟩
 go_wp2_with fail
 refine(QC w2 HB1).mono ?_
 rintro e w3⟨⟨v,cs0,rfl,hm0,ho0,hl0⟩,hb3⟩
 obtain⟨A0,c0,rfl,-⟩:=lB ho0.own
 have hs2:=HB1.size
 have hs3:=hb3.size
 have hba:=jP (jQ w3) (.cells #[jM,jN A0 cs0 c0] 268)
 have HI0:Hid (uM w w3 cs0 [] (cU A0 cs0 c0) aO (w3.alloc (.cells #[jM,jN A0 cs0 c0] 268))):=
  ⟨(HB1.trans (hb3.mono hs2)).trans (hba.mono jS),jR.new _ _ _,jS,(ho0.later hba).base hs2,dY _ _ _ _,by rw[hm0];exact HG,fun m hm=>(hl0 m hm).mono hs2,fun m hm=>(ho0.ok m hm).apart aa,fun m hm=>⟨fun _ ad _ h=>qch,fun _ ad _ h=>qch,fun _ ad _ h=>qch,fun _ ad _ h=>qch⟩,fun r e=>⟨by have:=(pf ho0.own r e).2;omega,by simp[gy]⟩,fun r e=>by simp[gy]at e⟩
 have Zs:=ah hm0
 clear QB QC hb3 ho0 hl0 hba hm0 HB1
 go_wp2_with fail
 generalize w3.heap.size=fb at*
 go_loopw[8] (fun _ wr=>∃(cs:List jZ)(ps:List Nat)(tv pv:jD)(n:Nat),Hid (uM w fb cs ps tv pv wr)∧Hid (pI budget 100 (ms.map (·.s)) []=pI budget n (cs.map (·.s)) ps)∧Hid (pg (cs.map (·.s))<n∧pg (cs.map (·.s))+ps.length≤80)) (fun _ wr=>100-TS (wr.cell? ⟨fb,0,none⟩))
 case atStart=>exact⟨cs0,[],_,_,100,HI0,by show _=_;rw[Zs],by show _∧_;rw[Zs];have:=ak7.out;simp;omega⟩
 clear HI0 Zs ak7
 obtain⟨cs,ps,tv,pv,n,HI,HE,HL⟩:=hrel
 obtain⟨A1,c1,rfl,hcc,-,-⟩:=lB HI.tab.own
 obtain⟨A2,c2,rfl,-⟩:=li HI.row
 have f0:=ce HI.blk 0
 have f1:=ce HI.blk 1
 have hfw:=HI.blk.lt
 have HPL:Hid (TS (wr.cell? ⟨fb,0,none⟩)=ps.length):=by show _=_;rw[f0];rfl
 obtain⟨m,rfl⟩:∃m,n=m+1:=⟨n-1,by have:=HL.1;omega⟩
 have YH:Hid (pI budget (m+1) (cs.map (·.s)) ps=if kJ (cs.map (·.s))≤budget then some (cs.map (·.s),ps)else if(rC (cs.map (·.s))).2=true then pI budget m (Aw (cs.map (·.s)) (rC (cs.map (·.s))).1) (ps++[(rC (cs.map (·.s))).1])else none):=rfl
 have QCO:=ah (DX A1 cs c1 wr (HT.later HI.below) ⟨HI.tab.tab,HI.gt⟩)
 have hcl:0≤kJ (cs.map (·.s))∨True:=.inr trivial
 clear hcl
 go_wp2_with fail
 refine QCO.mono ?_
 rintro e w4⟨rfl,hb4⟩
 have HI4:=ah (HI.call hb4)
 clear hb4 QCO f0 f1 hfw
 have f0:=ce HI4.blk 0
 have f1:=ce HI4.blk 1
 have hfw:=HI4.blk.lt
 by_cases hct:kJ (cs.map (·.s))≤budget
 ·have HR:Hid (pI budget 100 (ms.map (·.s)) []=some (cs.map (·.s),ps)):=by show _=_;rw[HE,YH,if_pos hct]
  have d1:decide (budget<kJ (cs.map (·.s)))=false:=ag;have IY:=ah HI4.below.drew;have HTD:Hid (lF w4.drew w (cU A1 cs c1) cs):=⟨HI4.tab.own,fun m hm=>⟨(HI4.tab.ok m hm).l,⟨(HI4.tab.ok m hm).k.e,(HI4.tab.ok m hm).k.c,(HI4.tab.ok m hm).k.g⟩⟩,HI4.tab.ap⟩;clear hct YH HE HL;go_wp2;go_region_held(fun w'=>w'.cell? ⟨fb,0,none⟩=some (.slice A2 ps.length c2)∧w'.cell? ⟨fb,1,none⟩=some (cU A1 cs c1)) (first|assumption|exact⟨f0,f1⟩|go_keep) (fail);go_wp2;go_ret3;exact sJ.yes HR IY HTD HI4.lo HI4.row
 have d1:decide (budget<kJ (cs.map (·.s)))=true:=ae
 rw[if_neg hct]at YH
 have QV:=ah (I_ A1 cs c1 hcc w4 (HT.later HI4.below) ⟨HI4.tab.tab,HI4.gt⟩)
 have HVL:=ah (DL (cs.map (·.s)) (cs.map (·.s)).length aa)
 have HVF:Hid (rC (cs.map (·.s))=((nM (cs.map (·.s)) (cs.map (·.s)).length).1,(nM (cs.map (·.s)) (cs.map (·.s)).length).2.2)):=rfl
 clear hct
 go_wp2_with fail
 refine QV.mono ?_
 rintro e w5⟨rfl,hb5⟩
 have MS:=ah (HI4.call hb5)
 clear hb5 QV f0 f1 hfw HI4
 have f0:=ce MS.blk 0
 have f1:=ce MS.blk 1
 have hfw:=MS.blk.lt
 cases hv2:(rC (cs.map (·.s))).2 with
 |false=>
  have HR:Hid (pI budget 100 (ms.map (·.s)) []=none):=by show _=_;rw[HE,YH,hv2,if_neg lV]
  clear hv2 YH HE HL HVL HVF;go_wp2;go_ret3;exact sJ.no HR MS.below
 |true=>
  have hvl:∃h:(rC (cs.map (·.s))).1<(cs.map (·.s)).length,(cs.map fun x:jZ=>x.s)[(rC (cs.map (·.s))).1].k.level<kn (cs.map fun x:jZ=>x.s)[(rC (cs.map (·.s))).1].k.kind:=by
   have e:=HVF;rw[e]at hv2⊢;exact HVL hv2
  rw[hv2,if_pos rfl]at YH;clear hv2 HVL HVF;generalize(rC (cs.map (·.s))).1=k at*
  obtain⟨hk,hlv⟩:=hvl;have hkc:k<cs.length:=by simpa using hk
  have hlow:=GF MS.gt hk hlv;have Fl:Hid (Aw (cs.map (·.s)) k=(cs.map (·.s)).set k {(cs.map fun x:jZ=>x.s)[k]with k:=mG (cs.map fun x:jZ=>x.s)[k].k}):=En hk;obtain⟨g,cp,arr,e1,hgb,hgw,aa9,_⟩:=se MS.tab.own jS;injection e1 with e1 _ e3;subst e1;subst e3;have hsa:=MS.tab.PL k hkc;have hi1:(0:Int)≤k:=jS;have hi2:(k:Int)<cs.length:=jS;have hgk:GK cs[k].m.s:=by rw[cs[k].hk];exact(MS.gt.all _ (dq.2 ⟨_,ar hkc,rfl⟩)).k
  have hlv2:cs[k].m.s.level<kn cs[k].m.s.kind:=by rw[cs[k].hk];simpa using hlv
  have QLO:=ah (Ki cs[k].m hgk hlv2 w5 (MS.tab.ok _ (ar hkc)).k);have HLK:Hid (mG cs[k].m.s=mG (cs.map fun x:jZ=>x.s)[k].k∧GK (mG cs[k].m.s)):=⟨by rw[cs[k].hk];simp,(uW hgk hlv2).1⟩;have MP:Hid (pg (Aw (cs.map (·.s)) k)+1=pg (cs.map (·.s))):=hlow;obtain⟨-,j1,j2,j3,j4,j5,j6,j7,j8,j9,j10,-⟩:=hsa;obtain⟨q0,hq0⟩:∃q,q=cs[k]:=⟨_,rfl⟩;rw[←hq0]at j1 j2 j3 j4 j5 j6 j7 j8 j9 j10 QLO HLK;have Yr:=ah hq0;unfold nT at QLO;clear hlow hgk hlv2 hlv aa9 hq0;go_wp2_with fail;refine QLO.mono ?_;rintro e w6⟨q,hq,rfl,Z_,ab1,hb6⟩;have HI6:=ah (MS.call hb6);have HS5:Hid (w.heap.size≤w5.heap.size∧fb<w5.heap.size∧g<w5.heap.size):=⟨MS.below.size,MS.blk.lt,hgw⟩;have hpb:∀r,(eo A2 ps.length c2).ownBlock=some r→r<w5.heap.size:=fun r e=>(pf MS.row r e).2;have hs6:=hb6.size;have hba:=jP (jQ w6) (.cells (aB q) 136);have HI7:=ah (HI6.call hba);have aj6:=ah (Z_.later hba);have HFR:=ah ab1;have HQK:=ah hq;have hNB:=jR.new w6 136 (aB q);clear hb6 QLO f0 f1 hfw MS j1 j2 j3 j4 j5 j6 j7 j8 j9 j10 Z_ ab1 hq hba;have f0:=ce HI6.blk 0;have f1:=ce HI6.blk 1;have hfw:=HI6.blk.lt;unfold nT;go_wp2_with fail;refine Ql (fun V=>uM w fb cs ps (.slice (aC g) cs.length c1) (.slice A2 ps.length c2) V∧jY V V q∧jR V w6 136 (aB q)) ⟨HI7,aj6,hNB⟩ (fun V hV=>?_);obtain⟨hV1,hV2,AQ⟩:=hV;have O8:=ah hV1.drew;have aj3:Hid (jY V.drew V.drew.heap.size q):=⟨hV2.e,hV2.c,hV2.g⟩;have AP:jR V.drew w6 136 (aB q):=AQ;clear f0 f1 hfw hNB HI7 aj6 HI6 hV1 hV2 AQ;generalize w6.heap.size=lb at*
  have f1:=ce O8.blk 1;have y0:=ce AP 0;have y1:=ce AP 1;have y2:=ce AP 2;have y3:=ce AP 3;have y4:=ce AP 4;have y5:=ce AP 5;have y6:=ce AP 6;have y7:=ce AP 7;have y8:=ce AP 8;have y9:=ce AP 9;obtain⟨-,z1,z2,z3,z4,z5,z6,z7,z8,z9,z10,-⟩:=O8.tab.PL k hkc;obtain⟨g',cp',arr',e1',_,au6,Ro,_⟩:=se O8.tab.own jS;injection e1' with e1' _ _
  cases e1'
  have fz:=Ro.frozen;rw[←Yr]at z1 z2 z3 z4 z5 z6 z7 z8 z9 z10;clear AP Ro;refine kG (S:=(fun w'=>w'.cell? ⟨fb,1,none⟩=some (.slice (aC g) cs.length c1)∧(oZ 10 w' lb q))) (s:=8) oo ?_;refine sU ⟨f1,y0,y1,y2,y3,y4,y5,y6,y7,y8,y9⟩ ?_;generalize V.drew=V3 at*
  refine oY 8 fun K hK=>?_;go_simp;refine hK.out _ _ (fun h=>qch) ?_;clear hK K;refine az ?_;refine yi ?_;have HI9:=O8.low rfl k hkc q (HQK▸HLK.2) aj3 (M:=w5.heap.size) HS5.1 HS5.2.1 HS5.2.2 hpb HFR;clear f1 y0 y1 y2 y3 y4 y5 y6 y7 y8 y9 z1 z2 z3 z4 z5 z6 z7 z8 z9 z10 fz au6 O8 aj3;go_wp2_with fail;refine zi (fun V=>uM w fb (cs.set k (rc cs[k] q)) ps (.slice (aC g) cs.length c1) (.slice A2 ps.length c2) V) HI9 (fun V4 H4=>?_);clear HI9;have HB4:=ah H4.below.size;have hf0:=H4.blk.cell 0;simp only[bh,bm]at hf0;refine(te fb _ ps k (by have:=HL.2;omega) w V4 HB4 hf0 H4.blk.frozen H4.row H4.YW).mono ?_;rintro e w9⟨rfl,v',W1,rfl,hr,hg,hv⟩;have al3:=ah (H4.told hr hg hv);have HNP:Hid (TS ((W1.setCell ⟨fb,0,none⟩ v').cell? ⟨fb,0,none⟩)=ps.length+1):=by
   have:=al3.blk.cell 0;simp only[bh,bm]at this;show _=_;rw[this];exact P8 hr
  have IU:Hid ((cs.set k (rc cs[k] q)).map (·.s)=Aw (cs.map (·.s)) k):=by
   show _=_;rw[Fl,iJ];congr 1;show({cs[k].s with k:=q.s}:mq)=_;rw[HQK,HLK.1];simp
  clear hr hg hv hf0 H4;go_wp2;go_roundw
  case rel=>exact⟨_,ps++[k],_,v',m,al3,by show _=_;rw[IU,HE,YH],by show _∧_;rw[IU,cd,fT];have:=MP.out;have:=HL.out;omega⟩
  rw[HNP,HPL];have:=HL.2;omega
def BJ(w:jC)(t:List mq)(e:bi6)(w':jC):Prop:=Below w w w'∧∃A c cs d,e=.returned (.tuple #[jN A cs c,jJ d,jJ 0])∧cs.map (·.s)=t∧lF w' w (cU A cs c) cs∧∀m∈cs,mr w m
variable{t:List mq}
theorem BJ.yes{c:Nat}{d:Int}(h:cs.map (·.s)=t)(hb:Below w w w')(ho:lF w' w (cU A cs c) cs)(hl:∀m∈cs,mr w m):
 BJ w t (.returned (.tuple #[jN A cs c,jJ d,jJ 0])) w':=⟨hb,A,c,cs,d,rfl,h,ho,hl⟩
theorem RV(A:Option jG)(ms:List jZ)(cap:Nat)(now life:Int)(hu:U now)(w:jC)(hT:Tb w)(hS:oI w A ms):
 jE Tryz.prog 124 #[jN A ms cap,jK now,jK life] w (BJ w ((ms.map (·.s)).filter (vD now life))):=by
 have hl:=hS.len
 have QR:=ah (ql A ms cap w hT hS)
 have HF:Hid (∀m∈ms,n_ m.s):=fun x hx=>(hS.g.all _ (dq.2 ⟨x,hx,rfl⟩)).fit
 have HS:=ah hS.tab
 clear hS hT
 go_in
 go_wp2_with fail
 refine QR.mono ?_
 rintro r w1⟨rfl,hb⟩
 have HB1:=ah (Below.two hb (jP (jQ w1) (.cells #[jK now,jK life] 306)))
 have WB:=ah (jR.new w1 306 #[jK now,jK life])
 have hz1:=hb.size
 clear hb QR
 go_wp2_with fail
 generalize w1.heap.size=bx at*
 generalize w1.alloc (.cells #[jK now,jK life] 306)=V at*
 have x0:=ce WB 0
 have x1:=ce WB 1
 refine bi1 (S:=fun w9=>(bI w9 bx now)∧w9.cell? ⟨bx,1,none⟩=some (.int .u64 life)) oo ⟨x0,x1⟩ (fun hHeld=>?_)
 have WD:=ah WB.drew
 have HD:=ah HB1.drew
 clear WB HB1 x0 x1
 generalize V.drew=V2 at*
 refine re hHeld ?_
 refine pL 1 fun K0 hK=>?_
 go_simp
 refine(K5 A ms cap hl HF V2 (HS.later HD)).mono ?_
 rintro e w2⟨⟨v,cs,rfl,hmap,hot,hlo⟩,hb2⟩
 have BG:=ah hlo
 have HB2:=ah (Below.two HD hb2)
 have W2:=ah (WD.later hb2)
 have xd:=ah hot
 have Xy:=WD.lt
 have hwV:=HD.size
 have hV2:=hb2.size
 have IU:=ah hmap
 have hcl:cs.length=ms.length:=by have:=congrArg ez hmap;rwa[ax,ax]at this
 clear hb2 hot hmap WD HD hlo
 have x0:=ce W2 0
 have x1:=ce W2 1
 refine hK.out _ _ ⟨x0,x1⟩ (fun hHeld=>?_)
 clear hK K0
 refine az ?_
 refine pL 4 fun K0 hK=>?_
 go_simp
 refine(KW v cs now life hu jS (RO IU HF) V2 w2 hV2 xd).mono ?_
 rintro e w3⟨⟨v3,rfl,EE⟩,hb3⟩
 have HB3:(bB w w3):=HB2.trans (hb3.mono hwV)
 have w_:=ah EE
 obtain⟨A3,c3,rfl,_,_,_⟩:=li EE.own
 have W3:Hid ((bI w3 bx now)∧w3.cell? ⟨bx,1,none⟩=some (.int .u64 life)):=⟨(hb3.cell (p:=⟨bx,0,none⟩) Xy).trans x0,(hb3.cell (p:=⟨bx,1,none⟩) Xy).trans x1⟩
 clear hb3 EE x0 x1 W2 HB2 xd Xy
 have hfl:=fe (nv now life) cs
 have HFM:Hid ((cs.filter (nv now life)).map (·.s)=(ms.map (·.s)).filter (vD now life)):=by show _=_;rw[wI,IU]
 have HLF:Hid (∀m∈cs.filter (nv now life),mr V2 m):=fun m hm=>BG m (eN.1 hm).1
 generalize cs.filter (nv now life)=fs at*
 refine hK.out _ _ W3 (fun hHeld=>?_)
 clear hK K0
 refine az ?_
 refine pL 5 fun K0 hK=>?_
 go_simp
 refine hK.out _ _ W3 (fun hHeld=>?_)
 clear hK K0
 refine az ?_
 refine hdn ?_
 clear hHeld W3
 have Up:IntKind.i64.wrap ((ms.length:Int)-(fs.length:Int))=(ms.length:Int)-(fs.length:Int):=dv _ jS
 go_wp2
 go_ret3
 exact BJ.yes HFM HB3 ⟨own_base w_.own jS,w_.ok,w_.ap⟩ (fun m hm=>(HLF m hm).mono jS)
theorem IZ.below{b o:Nat}{x:mV}(h:IZ w b o x)(hb:Below B w w')(hl:b<B):IZ w' b o x:=by
 have q:∀(i:Nat)(v:jD),w.cell? ⟨b,i,none⟩=some v→w'.cell? ⟨b,i,none⟩=some v:=fun i v hv=>(hb.cell (p:=⟨b,i,none⟩) hl).trans hv;exact⟨q _ _ h.c0,q _ _ h.c1,q _ _ h.c2,q _ _ h.c3⟩
def lA(l:List mV)(seq:Int):List mV:=l.filter fun x=>decide (seq≤x.seq)
theorem Og{l:List mV}{seq:Int}(h:k<l.length):lA (l.take (k+1)) seq=lA (l.take k) seq++if seq≤l[k].seq then[l[k]]else[]:=by
 unfold lA;rw[aj h,gQ];congr 1;rw[eC];simp
theorem OL(b:Int)(A:Option jG)(l:List mV)(cap:Nat)(seq:Int)(hl:l.length≤1000)(w:jC)(hS:Eb w w A l):
 jE Tryz.prog 84 #[.agg #[jK b,jN A l cap],jK seq] w fun e w'=>(∃A' c,e=.returned (.slice A' (lA l seq).length c)∧w'.ownsRow w 59 4 (.slice A' (lA l seq).length c) (lA l seq).length ((lA l seq).flatMap nE))∧Below w w w':=by
 obtain⟨i0,hi0,hz0,hz1,hz2⟩:=bi5 Tryz.Md
 have HS:=ah hS
 clear hS
 go_in
 go_wp2_with fail
 go_loopw[5,11] (fun v i wr=>∃k:Nat,i=(aJ k)∧k≤l.length∧Hid (wr.ownsRow w 59 4 v (lA (l.take k) seq).length ((lA (l.take k) seq).flatMap nE))∧(bB w wr)) (fun _ i _=>l.length-(av i).toNat)
 case atStart=>exact⟨0,rfl,be _,dY _ _ _ _,jP (jQ w) _⟩
 obtain⟨k,rfl,hk,HO,HB⟩:=hrel
 by_cases h1:k<l.length
 ·have d1:decide ((k:Int)<l.length)=true:=ae;obtain⟨bb,off,rfl,hb,hc⟩:=HS.at_ jS;obtain⟨Y_,i1,i2,i3⟩:=(hc k h1).below HB hb;have hbw:bb<wr.heap.size:=qes;have hi1:(0:Int)≤k:=jS;have hi2:(k:Int)<l.length:=jS;have HU:=ah (Og (seq:=seq) h1);have hln:(lA (l.take k) seq).length≤1000:=by unfold lA;exact a_ (fe _ _) qlt
  obtain⟨A2,c2,rfl,-,-,-⟩:=li HO;clear hc;generalize l[k]=x at*
  generalize lA (l.take k) seq=fl at*
  by_cases hq:seq≤x.seq
  ·have d2:decide (seq≤x.seq)=true:=decide_eq_true hq;rw[if_pos hq]at HU;have O_:=ah (jP HB (.cells (bL x) 59));have Ct:=ah (jP O_ (.cells (bL x) 59));have hsz:=HB.size;have hNB:jR ((wr.alloc (.cells (bL x) 59)).alloc (.cells (bL x) 59)) (dE wr) 59 (bL x):=by
    have:=jR.new (wr.alloc (.cells (bL x) 59)) 59 (bL x);rwa[show(wr.alloc (.cells (bL x) 59)).heap.size=wr.heap.size+1 by simp]at this
   go_wp2_with(at_builtin;refine Stop.i ?_);unfold Stop;refine kr _ rfl (.tmp 19) (.tmp 21) 53 rfl w 59 i0 _ 4 40 Tryz.underlying53 hi0 hz0 hz1 hz2 rfl B8 (.slice A2 fl.length c2) fl.length _ rfl ((HO.alloc (.cells (bL x) 59)).alloc _) _ _ 1 1 [jK x.seq,jK x.tm,jL x.text,jK x.sum] rfl rfl (tY hNB) (fun u hu=>by simp at hu;rcases hu with rfl|rfl|rfl|rfl<;>rfl) O0 jS mO ?_;intro v' W hown hgrow _;have HB4:(bB w W):=Ct.grown hgrow Ct.size (fun j e=>qp HO j e);have IS:Hid (W.ownsRow w 59 4 v' (lA (l.take (k+1)) seq).length ((lA (l.take (k+1)) seq).flatMap nE)):=by
    show gX _ _ _ _ _ _ _;rw[HU,cd];simpa[eZ,nE]using hown
   clear hown hgrow HO HB O_ Ct hNB;go_wp2;go_roundw
   case rel=>exact⟨k+1,CJ,jS,IS,HB4⟩
   exact No
  have d2:decide (seq≤x.seq)=false:=decide_eq_false hq;rw[if_neg hq,eB]at HU;have O_:=ah (jP HB (.cells (bL x) 59));have HOA:=ah (HO.alloc (.cells (bL x) 59));clear HO HB hq;go_wp2;go_roundw
  case rel=>exact⟨k+1,CJ,jS,by rw[HU];exact HOA,O_⟩
  exact No
 have hkk:k=l.length:=jS
 subst hkk
 have d1:decide ((l.length:Int)<l.length)=false:=lV
 rw[dP]at HO
 obtain⟨A2,c2,rfl,-,-,-⟩:=li HO
 go_wp2
 go_ret
 exact⟨⟨A2,c2,rfl,HO⟩,HB⟩
def mU(w:jC)(r:Except Int Sk)(e:bi6)(w':jC):Prop:=Below w w w'∧match r with
 |.error n=>e=.returned (.tuple #[cL,jJ n])
 |.ok s=>∃m:SkM,m.s=s∧e=.returned (.tuple #[nT m,jJ 0])∧jY w' w' m∧lY (w.heap.size≤ ·) m
variable{r:Except Int Sk}
theorem mU.no{n:Int}(h:r=.error n)(hb:Below w w w'):mU w r (.returned (.tuple #[cL,jJ n])) w':=⟨hb,by rw[h]⟩
variable{m:SkM}
theorem mU.yes(h:r=.ok m.s)(hb:Below w w w')(hk:jY w' w' m)(hi:lY (w.heap.size≤ ·) m):mU w r (.returned (.tuple #[nT m,jJ 0])) w':=⟨hb,by rw[h];exact⟨m,rfl,rfl,hk,hi⟩⟩
variable{ks:List Nat}
theorem za(h:Rd w B A (lC ks))(h0:0<ks.length):∃b off,A=some ⟨b,off,none⟩∧b<B∧∀k(hk:k<ks.length),w.cell? ⟨b,off+k,none⟩=some (.int .i64 (ks[k]:Int)):=by
 obtain⟨b,off,e,hb,hc⟩:=Rd.at_ h (by simpa[lC]using h0);exact⟨b,off,e,hb,fun k hk=>hc k _ (by simp[lC,hk])⟩
theorem Pw{kind:Int}(h:k<ks.length)(a:Sk):nN t kind (ks.take (k+1)) a=if(t[ks[k]]?.map (·.k.kind))=some kind then mZ (nN t kind (ks.take k) a) ((t[ks[k]]?.map (·.k)).getD (nN t kind (ks.take k) a))else nN t kind (ks.take k) a:=by
 have ap:∀(l m:List Nat)(a:Sk),nN t kind (l++m) a=nN t kind m (nN t kind l a):=fun l=>by
  induction l with
  |nil=>intro m a;rfl
  |cons x l ih=>intro m a;rw[dj,nN,nN,ih]
 rw[aj h,ap];rfl
theorem lY.both{p q:Nat→Prop}(h:lY p m)(k:lY q m):lY (fun b=>p b∧q b) m:=⟨fun x a e=>⟨h.e x a e,k.e x a e⟩,fun x a e=>⟨h.c x a e,k.c x a e⟩,fun x a e=>⟨h.g x a e,k.g x a e⟩⟩
structure ag6(m:SkM) where
def Js(m:SkM):ag6 m:=⟨⟩
instance(m:SkM):CoeOut (ag6 m) (List jD):=⟨fun _=>[jJ m.s.kind,jJ m.s.level,jN m.ea m.s.e m.ec,jJ m.s.bits,jL m.s.regs,jJ m.s.rows,jJ m.s.cols,jN m.ca m.s.c m.cc,jJ m.s.fine,jN m.ga m.s.g m.gc]⟩
structure ag7(m:SkM) where
def Tv(m:SkM):ag7 m:=⟨⟩
instance(m:SkM):CoeOut (ag7 m) (Array jD):=⟨fun _=>#[jJ m.s.kind,jJ m.s.level,jN m.ea m.s.e m.ec,jJ m.s.bits,jL m.s.regs,jJ m.s.rows,jJ m.s.cols,jN m.ca m.s.c m.cc,jJ m.s.fine,jN m.ga m.s.g m.gc]⟩
structure ag5 where
def Nf:ag5:=⟨⟩
instance:CoeOut ag5 (List jD):=⟨fun _=>[jJ 0,jJ 0,jM,jJ 0,.string ⟨#[]⟩,jJ 0,jJ 0,jM,jJ 0,jM]⟩
noncomputable def Tt(lk:Option (List Nat))(ms:List jZ)(kind:Int):Except Int Sk:=match lk with|none=>.error 50|some ks=>if 1≤kind∧kind≤3 then .ok (nN (ms.map (·.s)) kind ks (nC kind))else .error 101
abbrev ag4(w:jC)(z bs:Nat)(R:List (Nat×jH×List jD))(A1:Option jG)(ms:List jZ)(kind:Int)(ks:List Nat)(i:jD)(wr:jC):Prop:=∃(k:Nat)(m:SkM),i=.int .i64 (k:Int)∧k≤ks.length∧Hid (m.s=nN (ms.map (·.s)) kind (ks.take k) (nC kind))∧Hid (Hold w wr ((bs,136,Js m)::(z,136,Nf)::R))∧Hid (jY wr wr m)∧Hid (lY (fun b=>z<b∧b≠bs) m)∧Hid (Rd wr wr A1 (lC ks))
theorem FG(A:Option jG)(ms:List jZ)(cap:Nat)(sc:ByteArray)(kind:Int)(lk:Option (List Nat))(hml:∀ks,lk=some ks→ks.length≤20∧∀k∈ks,k<ms.length)(w:jC)(hE:Er w)(hS:oI w A ms):
 ((∀w',Below w w w'→jE Tryz.prog 148 #[jN A ms cap,jL sc] w' (pA w' lk))→jE Tryz.prog 101 #[jN A ms cap,jL sc,jJ kind] w (mU w (Tt lk ms kind)))∧(∀(n:Int)(GA:Option jG)(l:List Gr)(gc:Nat)(to:Int),(∀w',Below w w w'→jE Tryz.prog 153 #[.agg #[jK n,jN GA l gc],jK to,jN A ms cap,jL sc] w' (pA w' lk))→jE Tryz.prog 108 #[.agg #[jK n,jN GA l gc],jK to,jN A ms cap,jL sc,jJ kind] w (mU w (Tt lk ms kind))):=by
 have h20:=hS.len
 have HS:=ah hS
 have HE:=ah hE
 have Vy:Hid (Tt lk ms kind=match(generalizing:=false) lk with|none=>.error 50|some ks=>if 1≤kind∧kind≤3 then .ok (nN (ms.map (·.s)) kind ks (nC kind))else .error 101):=rfl
 generalize Tt lk ms kind=rr at*
 clear hS hE
 refine⟨fun qm=>?a,fun n GA l gc to qm=>?b⟩
 case' a=>
  have QM:=ah qm;have hA:=trivial;clear qm;go_in;go_wp2_with fail;refine kf (fun _=>True) ((Hold.nil w).alloc w 136 Nf) trivial (fun V HV _=>?_);refine(QM V HV.below).mono ?_;obtain⟨z,hz⟩:∃z,w.heap.size=z:=⟨_,rfl⟩;obtain⟨R,hR⟩:∃R,([]:List (Nat×jH×List jD))=R:=⟨_,rfl⟩;rw[hz,hR]at HV;rw[hz]
 case' b=>
  have QM:=ah qm;clear qm;go_in;go_wp2_with fail;refine kf (fun _=>True) (((Hold.nil w).alloc w 111 [jK n,jN GA l gc]).alloc (w.heap.size+1) 136 Nf) trivial (fun V HV _=>?_);refine(QM V HV.below).mono ?_;obtain⟨z,hz⟩:∃z,w.heap.size+1=z:=⟨_,rfl⟩;rw[hz]at HV;rw[hz];obtain⟨R,hR⟩:∃R,[(w.heap.size,(111:jH),([jK n,jN GA l gc]:List jD))]=R:=⟨_,rfl⟩;rw[hR]at HV
 all_goals
  have hzw:w.heap.size≤z:=by omega
  clear hz hR;rintro e w1⟨hb1,h⟩;replace HV:=ah (HV.call hb1);have hz0:z<w1.heap.size:=(HV.blk _ ab).2.lt;have hs1:=hb1.size;clear hb1 QM;rcases lk with _|ks
  ·obtain rfl:=h;have HF:Hid (rr=.error 50):=Vy;clear Vy;have HRR:=aS (HV.all 0 Nf);have x:=fk (HV.facts);go_wp2_with fail;refine kw (fun _=>True) HRR trivial (fun V9 H9 _=>?_);have hq:=fk (H9.at_ 0);clear x HRR;refine jF (v:=.tuple #[.agg (xl 0 0).toArray,jJ 50]) (by simp[results,Tryz.results101,Tryz.results108,go_sem,hq]) rfl ?_;exact mU.no HF H9.below
  obtain⟨A1,c1,rfl,hrd,hlo⟩:=h;have wZ:=ah hrd;have HA1:=ah (uS hrd);obtain⟨hks,hlt⟩:=hml ks rfl;have Fl:=ah hlt;have HF1:Hid (rr=if 1≤kind∧kind≤3 then .ok (nN (ms.map (·.s)) kind ks (nC kind))else .error 101):=Vy;clear Vy hrd hlo hlt;go_wp2_with fail;by_cases hk:1≤kind∧kind≤3
  ·have HF:Hid (rr=.ok (nN (ms.map (·.s)) kind ks (nC kind))):=by show _=_;rw[HF1,if_pos hk]
   have HNK:=ah (wj hk);clear HF1;refine(AE kind hk w1).mono ?_;rintro e w2⟨m0,hm0,rfl,hok0,hfr0,hb2⟩;replace HV:=ah (HV.call hb2);have Vq:Hid (Rd w2 w2 A1 (lC ks)):=(Rd.below wZ hb2).more hb2.size;have hin0:=lY.both hfr0.inn hok0.inn;have HA2:Hid (lC ks≠[]→∀ad,A1=some ad→ad.block<w2.heap.size):=fun h ad e=>cn (HA1 h ad e) hb2.size;have hin1:Hid (lY (fun b=>z<b∧b≠w2.heap.size) m0):=hin0.mono fun b hb=>by omega
   have HA:=ah (HV.alloc w2 136 (Js m0) rfl);have hba:=jP (jQ w2) (.cells (Tv m0) 136);have aj7:=ah (hok0.later hba);have ai7:Hid (Rd (w2.alloc (.cells (Tv m0) 136)) (w2.alloc (.cells (Tv m0) 136)).heap.size A1 (lC ks)):=(Rd.below Vq hba).more hba.size;have Zs:=ah hm0;have x:=fk (HV.facts);have hbs:z<w2.heap.size:=x.1;clear hb2 wZ Vq hin0 hba hok0 hfr0 hm0 HV;unfold nT;go_wp2_with fail;clear x;first|(have:=hA;go_loopw[34] (fun i wr=>ag4 w z w2 R A1 ms kind ks i wr) (fun i _=>ks.length-(av i).toNat))|go_loopw[40] (fun i wr=>ag4 w z w2 R A1 ms kind ks i wr) (fun i _=>ks.length-(av i).toNat)
   case atStart=>exact⟨0,m0,rfl,be _,Zs,HA,aj7,hin1.out,ai7⟩
   clear HA aj7 hin1 ai7 Zs;obtain⟨k,m,rfl,hkk,uL,H,oH,I4,wZ⟩:=hrel;generalize w2.heap.size=bs at*
   by_cases h1:k<ks.length
   ·have d1:decide ((k:Int)<ks.length)=true:=ae;obtain⟨b1,off1,rfl,hb1,hc1⟩:=za wZ (by omega);have aT8:b1<bs:=HA2 (fun e=>by have:=congrArg ez e;unfold lC at this;rw[ax]at this;simp only[dp]at this;omega) _ rfl;have i0:=hc1 k h1;have ha:=Fl _ (ar h1);have xO:(0:Int)≤k:=by omega
    have xN:(k:Int)<ks.length:=by omega
    have hst:=Pw (t:=ms.map (·.s)) (kind:=kind) h1 (nC kind);have hga:(ms.map (·.s))[ks[k]]? =some ms[ks[k]].s:=by rw[eD,an ha];rfl
    rw[hga]at hst;simp only[jb,Option.some.injEq,jz]at hst;have HST:=ah hst;have HG:=ah (HS.gs ha);have HPK:=ah ((HS.ok ha).later H.below).k;obtain⟨b,off,rfl,hb,hc⟩:=HS.tab.at_ (by omega);have Yq:=ah (hc _ ha);have hbw:b<wr.heap.size:=by have:=H.size;omega
    have ha1:(0:Int)≤(ks[k]:Int):=by omega
    have ha2:(ks[k]:Int)<(ms.length:Int):=by omega
    have hmk:ms[ks[k]].m.s=ms[ks[k]].s.k:=ms[ks[k]].hk;have jw:=(Yq.below H.below hb).c1;clear hst hga hc hc1;generalize hae:ks[k]=a at*
    clear hae;generalize ms[a]=q at*
    by_cases hq:q.m.s.kind=kind
    ·have HQ:Hid (q.s.k.kind=kind):=by rw[←hmk];exact hq
     have E_:Hid (nN (ms.map (·.s)) kind (ks.take (k+1)) (nC kind)=mZ m.s q.m.s):=by show _=_;rw[HST.out,if_pos HQ.out,←uL.out,hmk]
     have hgq:GK q.m.s:=by rw[hmk];exact HG.k
     have Lt:Hid (GK m.s∧m.s.kind=kind):=by show _∧_;rw[uL];exact LI HS.g _ (fun j hj=>by rw[ax];exact Fl j (dy hj)) HNK.1 HNK.2.1
     have hke:m.s.kind=q.m.s.kind:=by rw[Lt.2,hq]
     have n1:(q.m.s.kind !=kind)=false:=by simp[hq]
     have n2:(q.m.s.kind==kind)=true:=by simp[hq]
     have n3:decide (q.m.s.kind=kind)=true:=by simp[hq]
     have QM1:Hid (jE Tryz.prog 78 #[nT m,nT q.m] wr.drew (wW wr.drew (mZ m.s q.m.s))):=vC m q.m Lt.1 hgq hke wr.drew (HE.later H.below.drew) ⟨oH.e,oH.c,oH.g⟩ ⟨HPK.e,HPK.c,HPK.g⟩;unfold nT at QM1;have Ls:=ah ((Yq.below H.below.drew hb));have hHD:=H.drew;clear HST HG HPK Yq hmk hgq hke Lt HQ oH I4;rw[hq]at jw;clear hq;have hRD:Hid (Rd wr.drew wr.drew.heap.size (some ⟨b1,off1,none⟩) (lC ks)):=wZ;obtain⟨-,j1,j2,j3,j4,j5,j6,j7,j8,j9,j10,-⟩:=Ls.out;clear Ls;generalize q.m=p at*
     go_wp2_with fail;clear n1 n2 n3 jw i0 d1;replace H:=ah hHD;have y:=fk (H.at_ 0);obtain⟨y0,y1,y2,y3,y4,y5,y6,y7,y8,y9⟩:=y;clear hHD;refine kG (S:=(fun w'=>w'.cell? ⟨bs,0,none⟩=some (.int .i64 m.s.kind)∧w'.cell? ⟨bs,1,none⟩=some (.int .i64 m.s.level)∧w'.cell? ⟨bs,2,none⟩=some (.slice m.ea m.s.e.length m.ec)∧w'.cell? ⟨bs,3,none⟩=some (.int .i64 m.s.bits)∧w'.cell? ⟨bs,4,none⟩=some (.string m.s.regs)∧w'.cell? ⟨bs,5,none⟩=some (.int .i64 m.s.rows)∧w'.cell? ⟨bs,6,none⟩=some (.int .i64 m.s.cols)∧w'.cell? ⟨bs,7,none⟩=some (.slice m.ca m.s.c.length m.cc)∧w'.cell? ⟨bs,8,none⟩=some (.int .i64 m.s.fine)∧w'.cell? ⟨bs,9,none⟩=some (.slice m.ga m.s.g.length m.gc)∧w'.cell? ⟨b,off+a*12+1,none⟩=some (.int .i64 p.s.kind)∧w'.cell? ⟨b,off+a*12+2,none⟩=some (.int .i64 p.s.level)∧w'.cell? ⟨b,off+a*12+3,none⟩=some (.slice p.ea p.s.e.length p.ec)∧w'.cell? ⟨b,off+a*12+4,none⟩=some (.int .i64 p.s.bits)∧w'.cell? ⟨b,off+a*12+5,none⟩=some (.string p.s.regs)∧w'.cell? ⟨b,off+a*12+6,none⟩=some (.int .i64 p.s.rows)∧w'.cell? ⟨b,off+a*12+7,none⟩=some (.int .i64 p.s.cols)∧w'.cell? ⟨b,off+a*12+8,none⟩=some (.slice p.ca p.s.c.length p.cc)∧w'.cell? ⟨b,off+a*12+9,none⟩=some (.int .i64 p.s.fine)∧w'.cell? ⟨b,off+a*12+10,none⟩=some (.slice p.ga p.s.g.length p.gc))) (s:=6) oo ?_;refine sU ⟨y0,y1,y2,y3,y4,y5,y6,y7,y8,y9,j1,j2,j3,j4,j5,j6,j7,j8,j9,j10⟩ ?_;generalize wr.drew=V3 at*
     refine oY 6 fun K hK=>?_;go_simp;refine QM1.mono ?_;rintro e w8⟨m8,Mh,rfl,tQ,wC,hb8⟩;have hz3:bs<V3.heap.size:=(H.blk _ ab).2.lt;replace H:=ah (H.call hb8);have Vv:=ah Mh;have ac6:=(Rd.below hRD hb8).more hb8.size;unfold nT;clear hb8 QM1 Mh y0 y1 y2 y3 y4 y5 y6 y7 y8 y9 j1 j2 j3 j4 j5 j6 j7 j8 j9 j10;refine hK.out _ _ (fun h=>qch) ?_;clear hK K;refine az ?_;refine MZ ?_;have x:=fk (H.facts);refine oY 10 fun K hK=>?_;go_simp;have HR:=aS (H.all 0 (Js m8));have qO:lY (fun b=>z<b∧b≠bs) m8:=wC.inn.mono fun b(hb:V3.heap.size≤b)=>jS;have nZ:=aS (jY.lp (g:=bs) (qO.mono fun b hb=>hb.2) (Js m8) 0 tQ);have XG:=xr (g:=bs) (fun ad e=>by cases e;show b1≠bs;omega) (Js m8) 0 ac6;simp only[lp,au,ao,ak,am]at XG;refine hK.out _ _ (fun h=>qch) ?_;clear hK K;refine az ?_;refine MZ ?_;refine yi ?_;have Yo:Hid (m8.s=nN (ms.map (·.s)) kind (ks.take (k+1)) (nC kind)):=by show _=_;rw[Vv,E_]
     have HRh:=ah HR;have HKh:=ah nZ;have HIh:=ah qO;have HDh:=ah XG;clear HR nZ qO XG x tQ wC H ac6;go_wp2;go_roundw
     case rel=>exact⟨k+1,m8,CJ,jS,Yo,HRh,HKh,HIh,HDh⟩
     exact No
    have HQ:Hid (¬q.s.k.kind=kind):=by rw[←hmk];exact hq
    have E_:Hid (nN (ms.map (·.s)) kind (ks.take (k+1)) (nC kind)=m.s):=by show _=_;rw[HST,if_neg HQ,←uL]
    have n1:(q.m.s.kind !=kind)=true:=by simp[hq]
    have n2:(q.m.s.kind==kind)=false:=by simp[hq]
    have n3:decide (q.m.s.kind=kind)=false:=by simp[hq]
    clear HST HG HPK Yq hmk hq;go_wp2;go_roundw
    case rel=>exact⟨k+1,m,CJ,jS,E_.symm,H,oH,I4,wZ⟩
    exact No
   have hkn:k=ks.length:=jS;subst hkn;have d1:decide ((ks.length:Int)<ks.length)=false:=lV;have Yo:Hid (rr=.ok m.s):=by show _=_;rw[HF,uL,dP]
   have HRR:=aS (H.all 1 (Js m));have hok:=aS (jY.lp (g:=z) (I4.mono fun b hb=>jS) (Js m) 0 oH);have x:=fk (H.facts);go_wp2_with fail;refine kw (fun V=>jY V V m) HRR hok (fun V9 H9 nZ=>?_);have hq:=fk (H9.at_ 1);clear x HRR hok;refine jF (v:=.tuple #[.agg (Tv m),jJ 0]) (by simp[results,Tryz.results101,Tryz.results108,go_sem,hq]) rfl ?_;exact mU.yes Yo H9.below nZ (I4.mono fun b hb=>jS)
  have HF:Hid (rr=.error 101):=by show _=_;rw[HF1,if_neg hk]
  clear HF1 wZ Fl;have hnn:=JX kind hk w1;simp only[xl]at hnn;refine hnn.mono ?_;rintro e w2⟨rfl,hb2⟩;replace HV:=ah (HV.call hb2);clear hb2;have ai6:=aS (HV.all 0 Nf);have x:=fk (HV.facts);have HRR:=ai6.alloc w2 136 Nf lV;go_wp2_with fail;refine kw (fun _=>True) HRR trivial (fun V9 H9 _=>?_);have hq:=fk (H9.at_ 1);clear x HRR ai6;refine jF (v:=.tuple #[cL,jJ 101]) (by simp[results,Tryz.results101,Tryz.results108,go_sem,hq]) rfl ?_;exact mU.no HF H9.below
theorem FQ(A:Option jG)(ms:List jZ)(cap:Nat)(sc:ByteArray)(kind:Int)(hs:sc.size≤100000)(w:jC)(hT:Tb w)(hE:Er w)(hS:oI w A ms):
 jE Tryz.prog 101 #[jN A ms cap,jL sc,jJ kind] w (mU w (kA (ms.map (·.s)) sc kind)):=by
 have hk:∀ks,nj sc (ms.map (·.s))=some ks→ks.length≤20∧∀k∈ks,k<ms.length:=fun ks h=>by
  have:=hS.len;unfold nj at h;split at h
  ·cases h;exact⟨a_ (qU sc _ _) qlm,fun k hk=>by have:=qw hk;rwa[ax]at this⟩
  cases h
 exact(FG A ms cap sc kind _ hk w hE hS).1 fun w' h=>L7 A ms cap sc hs w' (hT.later h) (hS.later h)
end Go.Proofs.YtfcnedcahoifoaaGreatDoor

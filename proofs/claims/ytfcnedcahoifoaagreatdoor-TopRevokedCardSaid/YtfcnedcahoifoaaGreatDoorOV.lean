import Derived.Deep.Slices
import Derived.Deep.Fields
import Derived.ChangeSame
import Derived.ShutString
import Derived.ProofKit
import Derived.Lib.SmallJoins
import Derived.Lib.LaidIn
import Derived.Lib.LaidU8T
import Derived.LaidHandle
import Derived.Stop.Joined
import Derived.Deep.DeepHandedRow
import Derived.Deep.DeepWitnessRowRef
import Derived.Test.YtfcnedcahoifoaaGreatDoorON
namespace Go.Proofs.YtfcnedcahoifoaaGreatDoor
open Go.RowKit
open _root_.Array renaming getElem?_eq_none→fH,getElem?_eq_some_iff→aw
open _root_.Bool renaming true_and→eF
open _root_.ByteArray renaming mk→jf,size_extract→fI
open _root_.Go renaming Act→gG,Addr→jG,Calls→jE,Code→bk9,Ending→bi6,Exit→bk7,FuncId→bl9,Operand→bl7,Oper→bk0,Program→bi3,TypeId→jH,Value→jD,World→jC,bodyPost_ret→jF,info_parts→bi5,wpAnyH_done→ax8,wpAnyH_ready→aQ,wpAnyH_take→bk5,wp_region_held_drew→bi1
open _root_.Go.Act renaming put→gL
open _root_.Go.Addr renaming add→iU
open _root_.Go.AllReadyH renaming cons→jm,nil→aP
open _root_.Go.Code renaming region→jo,wp_mono→jg
open _root_.Go.DataW renaming trod→iQ
open _root_.Go.Lib renaming hid→ai
open _root_.Go.Lit renaming int→iK
open _root_.Go.Oper renaming wp→je
open _root_.Go.Region renaming Mode→fD,free→iV,noSelect→gS,ready→eE,wanted→eQ
open _root_.Go.Result renaming andThen_ok→iF
open _root_.Go.RowKit renaming intOf→av
open _root_.Go.Sem renaming run_bind→eT,run_pure→fX
open _root_.Go.Value renaming int→br,slice→eo
open _root_.Go.World renaming block_lt_of_cell?→b8,cell?→fJ,ownsRow_nil→dY,ownsRow→gX
open _root_.List renaming append_eq_nil_iff→iM,cons_append→dj,eq_nil_of_length_eq_zero→da,ext_getElem→iO,findIdx?_cons→jl,findIdx?_eq_none_iff→fU,flatMap_append→eZ,flatMap_cons→dg,getElem?_append_left→eL,getElem?_append_right→d7,getElem?_cons_succ→bo,getElem?_cons_zero→bm,getElem?_eq_getElem→an,getElem?_eq_some_iff→ci,getElem?_set_self→gM,getElem_cons_succ→ej,getElem_cons_zero→dQ,getElem_mem→ar,getElem_of_mem→dR,getElem_set→eW,getElem_take→jt,getElem_toArray→eK,length_append→cd,length_cons→c_,length_filter_le→fe,length_map→ax,length_nil→dp,length_singleton→fT,length_take→cv,length→ez,map_append→dH,map_cons→df,map_map→fY,map_nil→jA,map_set→iJ,map_take→iR,mem_append→ed,mem_cons_of_mem→dS,mem_cons_self→di,mem_cons→cw,mem_filter→eN,mem_map→dq,mem_of_getElem?→cm,mem_of_mem_take→dy,mem_or_eq_of_mem_set→dO,mem_range→dh,mem_singleton→eM,nil_append→dz,pairwise_cons→b6,pairwise_iff_getElem→cj,range→bu,setIfInBounds_toArray→bd,set_cons_succ→am,set_cons_zero→ak,take_append_drop→fQ,take_length→dP,take_of_length_le→cl,take_prefix→eS,take_succ_eq_append_getElem→aj
open _root_.Nat renaming add_mul→iY,add_zero→ip,eq_zero_or_pos→fM,le_refl→ay,le_trans→a_,lt_or_ge→fB,lt_or_gt_of_ne→iD,reduceAdd→ao,zero_add→au,zero_le→be
open _root_.Option renaming map_some→jb
open _root_.Or renaming inl→ge
set_option maxRecDepth 100000
set_option maxHeartbeats 16000000
set_option linter.unusedVariables false
set_option linter.unusedSimpArgs false
def Yl(w:jC)(c:lO)(e:bi6)(w':jC):Prop:=Below w w w'∧
 ((0≤c.budget∧c.budget≤1000000∧∃g,w.heap.size≤g∧e=.returned (.tuple #[jO g,jJ 0])∧kB w' (fun _=>False) g c newT)∨(¬(0≤c.budget∧c.budget≤1000000)∧e=.returned (.tuple #[.pointer none,jJ 180])))
theorem Fz(c:lO)(w:jC):
 jE Tryz.prog 27 #[.agg #[jK c.id,jJ c.budget,jK c.life],.agg #[jK c.ka,jK c.kb]] w (Yl w c):=by
 have HH:=ah (((kj.nil (fun _=>False) w).alloc w 63 [jK c.id,jJ c.budget,jK c.life]).alloc (w.heap.size+1) 24 [jK c.ka,jK c.kb])
 rcases(by omega:c.budget<0∨(¬c.budget<0∧1000000<c.budget)∨(¬c.budget<0∧¬1000000<c.budget))with hb|⟨hb,hb2⟩|⟨hb,hb2⟩
 ·have HB:=ah hb;go_in;go_wp2_with fail;refine kh (fun _=>True) HH trivial (fun V9 H9 _=>?_);clear HH;go_ret2;exact⟨H9.out.out.below aa fun _ h=>h.elim,.inr ⟨fun h=>by have:=HB.out;omega,rfl⟩⟩
 ·have HB:=ah hb2;go_in;go_wp2_with fail;refine kh (fun _=>True) HH trivial (fun V9 H9 _=>?_);clear HH;go_ret2;exact⟨H9.out.out.below aa fun _ h=>h.elim,.inr ⟨fun h=>by have:=HB.out;omega,rfl⟩⟩
 have HB:=ah hb
 have HB2:=ah hb2
 go_in
 have HH2:=ah (HH.alloc (aN w) 117 [jM,jK 0,jM,jK 0,jM,jK 0,jK c.id,jJ c.budget,jK c.life,jK c.ka,jK c.kb])
 clear HH
 go_wp2_with fail
 refine kq (fun _=>True) HH2 trivial (fun V HV _=>?_)
 clear HH2
 refine(Ry V).mono ?_
 rintro e w2⟨rfl,hb2⟩
 replace HV:=ah (HV.call hb2)
 clear hb2
 have x:=fk (HV.facts)
 have HZ:=aT (ah ((HV.put 0 1 (.int .u64 1)).put 0 2 aO))
 go_wp2_with fail
 refine kh (fun _=>True) HZ trivial (fun V9 H9 _=>?_)
 clear x HZ HV
 go_ret2
 refine⟨H9.out.out.below aa fun _ h=>h.elim,.inl ⟨by have:=HB.out;omega,by have:=HB2.out;omega,w.heap.size+1+1,jS,rfl,none,0,[],none,0,none,0,(H9.blk _ ab).2,rfl,⟨fun h=>absurd rfl h,fun _ h=>WY⟩,⟨fun h=>absurd rfl h,fun _ h=>WY⟩,ay _,fun h=>absurd rfl h,fun h=>absurd rfl h,fun h=>absurd rfl h,fun h=>absurd rfl h,ay _⟩⟩
structure Pb where
 id:Int
 budget:Int
 life:Int
def OA(x:Pb):List jD:=[jK x.id,jJ x.budget,jK x.life]
noncomputable def qF(ka kb:Int)(x:Pb):lO:=⟨x.id,x.budget,x.life,(Kl ka kb x.id).1,(Kl ka kb x.id).2⟩
noncomputable def lE(ka kb:Int)(l:List Pb):Col:=l.map fun x=>(qF ka kb x,newT)
structure pP(B:Nat)(W:jC)(cb:Nat)(ka kb:Int)(ids:List Int)(G:List Nat)(cs:List lO)(iv tv:jD):Prop where
 blk:jR W cb 81 #[jK ka,jK kb,iv,tv]
 cbB:B≤cb
 zW:W.ownsRow B 22 1 iv ids.length (qM ids)
 BX:W.ownsRow B 82 1 tv G.length (wh G)
 len:G.length=cs.length
 nd:G.Nodup
 gB:∀g∈G,B≤g∧g≠cb
 NU:∀r,iv.ownBlock=some r→r≠cb∧r∉G∧tv.ownBlock≠some r
 BN:∀r,tv.ownBlock=some r→r≠cb∧r∉G
 ten:∀(k:Nat)(hk:k<G.length)(hc:k<cs.length),kB W (fun _=>False) G[k] cs[k] newT
section
variable{B:Nat}{W W1 W':jC}{cb:Nat}{ka kb:Int}{ids:List Int}{G:List Nat}{cs:List lO}{iv tv:jD}
variable{g:Nat}
theorem pP.XJ(h:pP B W cb ka kb ids G cs iv tv)(hg:g∈G):g<W.heap.size:=by
 obtain⟨k,hk,rfl⟩:=dR hg;obtain⟨_,_,_,_,_,_,_,ht⟩:=h.ten k hk (by rw[←h.len];exact hk);exact ht.blk.lt
theorem pP.call(h:pP B W cb ka kb ids G cs iv tv)(hb:Below W W W'):pP B W' cb ka kb ids G cs iv tv:=
 ⟨h.blk.later hb,h.cbB,lf h.zW hb,lf h.BX hb,h.len,h.nd,h.gB,h.NU,h.BN,fun k hk hc=>(h.ten k hk hc).later hb⟩
theorem pP.drew(h:pP B W cb ka kb ids G cs iv tv):pP B W.drew cb ka kb ids G cs iv tv:=h.call (Below.refl _ W).drew
theorem pP.ag1(h:pP B W cb ka kb ids G cs iv tv){id:Int}{v':jD}(hr:W1.ownsRow B 22 1 v' (ids.length+1) (qM ids++[.int .u64 id]))(hg:W.grownBy W1 iv.ownBlock)(hv:v'.ownBlock=iv.ownBlock∨∃r,v'.ownBlock=some r∧W.heap.size≤r):
 pP B (W1.setCell ⟨cb,2,none⟩ v') cb ka kb (ids++[id]) G cs v' tv:=by
 have hcw:=h.blk.lt
 have hv2:∀r,v'.ownBlock=some r→r≠cb∧r∉G∧tv.ownBlock≠some r:=fun r e=>by
  rcases hv with e2|⟨q,e2,hq⟩
  ·exact h.NU r (e2▸e)
  rw[e2]at e;cases e;exact⟨by omega,fun hm=>by have:=h.XJ hm;omega,fun e3=>by have:=(pf h.BX _ e3).2;omega⟩
 have hs:=k6 W1 cb 2 v'
 have hb1:jR W1 cb 81 #[jK ka,jK kb,iv,tv]:=h.blk.grown hg (fun e=>(h.NU _ e.symm).1 rfl)
 have ht1:=od h.BX hg (fun r e e2=>(h.NU r e2).2.2 e)
 refine⟨?_,h.cbB,?_,od ht1 hs (fun r e e2=>by cases e2;exact(h.BN _ e).1 rfl),h.len,h.nd,h.gB,hv2,h.BN,fun k hk hc=>?_⟩
 ·have:=hb1.kY 2 v';simpa using this
 ·have:=od hr hs (fun r e e2=>by cases e2;exact(hv2 _ e).1 rfl);rw[cd,fT,show qM (ids++[id])=qM ids++[.int .u64 id] by simp[qM]];exact this
 have hgm:=ar hk
 have h1:Out (fun b=>iv.ownBlock=some b) W W1:=⟨hg.os,hg.tape,hg.output,hg.size,fun i hi hx=>hg.block i hi fun e=>hx e.symm⟩
 have h2:Out (fun b=>b=cb) W1 (W1.setCell ⟨cb,2,none⟩ v'):=(Out.refl (fun b=>b=cb) W1).setCell (p:=⟨cb,2,none⟩) (.inl rfl) _
 exact((h.ten k hk hc).out h1 (fun _ e=>e.elim) fun e=>(h.NU _ e).2.1 hgm).out h2 (fun _ e=>e.elim) (h.gB _ hgm).2
variable{c:lO}
theorem pP.Ye(h:pP B W cb ka kb ids G cs iv tv){v':jD}(hr:W1.ownsRow B 82 1 v' (G.length+1) (wh G++[.pointer (aC g)]))(hg:W.grownBy W1 tv.ownBlock)(hv:v'.ownBlock=tv.ownBlock∨∃r,v'.ownBlock=some r∧W.heap.size≤r)
 (mo:kB W (fun _=>False) g c newT) (hgB:B≤g) (hgc:g≠cb) (Xx:g∉G) (hgi:iv.ownBlock≠some g) (hgt:tv.ownBlock≠some g):
 pP B (W1.setCell ⟨cb,3,none⟩ v') cb ka kb ids (G++[g]) (cs++[c]) iv v':=by
 have hcw:=h.blk.lt
 have hgw:g<W.heap.size:=by obtain⟨_,_,_,_,_,_,_,ht⟩:=mo;exact ht.blk.lt
 have hv2:∀r,v'.ownBlock=some r→r≠cb∧r∉G∧iv.ownBlock≠some r∧r≠g:=fun r e=>by
  rcases hv with e2|⟨q,e2,hq⟩
  ·have e3:tv.ownBlock=some r:=e2▸e;exact⟨(h.BN r e3).1,(h.BN r e3).2,fun e4=>(h.NU r e4).2.2 e3,fun e4=>hgt (e4▸e3)⟩
  rw[e2]at e;cases e;exact⟨jS,fun hm=>by have:=h.XJ hm;omega,fun e3=>by have:=(pf h.zW _ e3).2;omega,jS⟩
 have hs:=k6 W1 cb 3 v'
 have hb1:jR W1 cb 81 #[jK ka,jK kb,iv,tv]:=h.blk.grown hg (fun e=>(h.BN _ e.symm).1 rfl)
 have ht1:=od h.zW hg (fun r e e2=>(h.NU r e).2.2 e2)
 have h1:Out (fun b=>tv.ownBlock=some b) W W1:=⟨hg.os,hg.tape,hg.output,hg.size,fun i hi hx=>hg.block i hi fun e=>hx e.symm⟩
 have h2:Out (fun b=>b=cb) W1 (W1.setCell ⟨cb,3,none⟩ v'):=(Out.refl (fun b=>b=cb) W1).setCell (p:=⟨cb,3,none⟩) (.inl rfl) _
 refine⟨?_,h.cbB,od ht1 hs (fun r e e2=>by cases e2;exact(h.NU _ e).1 rfl),?_,by simp[h.len],?_,fun x hx=>?_,fun r e=>⟨(h.NU r e).1,fun hm=>?_,fun e2=>(hv2 r e2).2.2.1 e⟩,fun r e=>⟨(hv2 r e).1,fun hm=>?_⟩,fun k hk hc=>?_⟩
 ·have:=hb1.kY 3 v';simpa using this
 ·have:=od hr hs (fun r e e2=>by cases e2;exact(hv2 _ e).1 rfl);rw[cd,fT,show wh (G++[g])=wh G++[.pointer (aC g)] by simp[wh]];exact this
 ·refine List.nodup_append.2 ⟨h.nd,lV,fun a ha b hb e=>?_⟩;simp at hb;exact Xx (by rw[←hb,←e];exact ha)
 ·rcases ed.1 hx with hx|hx
  ·exact h.gB x hx
  simp at hx;rw[hx];exact⟨hgB,hgc⟩
 ·rcases ed.1 hm with hm|hm
  ·exact(h.NU r e).2.1 hm
  simp at hm;rw[hm]at e;exact hgi e
 ·rcases ed.1 hm with hm|hm
  ·exact(hv2 r e).2.1 hm
  simp at hm;exact(hv2 r e).2.2.2 hm
 by_cases hkl:k<G.length
 ·have hgm:=ar hkl;rw[List.getElem_append_left hkl,List.getElem_append_left (by rw[←h.len];exact hkl)];exact((h.ten k hkl (by rw[←h.len];exact hkl)).out h1 (fun _ e=>e.elim) fun e=>(h.BN _ e).2 hgm).out h2 (fun _ e=>e.elim) (h.gB _ hgm).2
 have hkk:k=G.length:=by simp at hk;omega
 subst hkk
 rw[List.getElem_append_right aa,List.getElem_append_right (by rw[h.len];exact ay _)]
 simp only[Nat.sub_self,dQ,show G.length-cs.length=0 by rw[h.len];omega]
 exact(mo.out h1 (fun _ e=>e.elim) fun e=>hgt e).out h2 (fun _ e=>e.elim) hgc
variable{C:Col}
theorem pP.col(h:pP B W cb ka kb ids G cs iv tv)(hi:ids=C.map (·.1.id))(hc:C=cs.map fun c=>(c,newT))(hB:4≤B):kE (·∈G) W cb G ka kb C:=by
 have hcl:C.length=G.length:=by rw[hc,ax,h.len]
 have hil:ids.length=C.length:=by rw[hi,ax]
 obtain⟨IA,ic,e1,_,hr1,ha1⟩:=li h.zW;obtain⟨TA,tc,e2,_,hr2,ha2⟩:=li h.BX;refine⟨⟨IA,ic,TA,tc,?_,⟨?_,fun _ ad e hm=>?_⟩,⟨hr2,fun _ ad e hm=>?_⟩⟩,fun hm=>(h.gB _ hm).2 rfl,hcl.symm,h.nd,fun g hg=>hg,fun g hg=>by have:=(h.gB g hg).1;omega,fun k hk hg=>?_⟩
 ·have:=h.blk;rw[e1,e2,hil,←hcl]at this;exact this
 ·rw[EB,←hi];exact hr1
 ·subst e;rw[e1]at h;exact(h.NU ad.block rfl).2.1 hm
 ·subst e;rw[e2]at h;exact(h.BN ad.block rfl).2 hm
 have e3:C[k]=(cs[k]'(by rw[←h.len];exact hg),newT):=by simp[hc]
 rw[e3];exact(h.ten k hg (by rw[←h.len];exact hg)).mono fun _ e=>e.elim
end
theorem nH.new(c:lO):nH c newT:=⟨GT.nil,GG.new,GL.new _ _,⟨by show(0:Int)≤0;omega,by show(0:Int)≤_;omega⟩,rfl⟩
instance(x0:Pb):CoeOut (sH 21 x0) (Array jD):=⟨fun _=>#[jK x0.id,jJ x0.budget,jK x0.life]⟩
theorem Tryz.Rb:(Tryz.prog.info? 82).map (fun i=>(i.zero,i.size,i.bytes))=some (some (.pointer none),1,8):=oo
variable{w:jC}{ops:Array bk0}{o:bk0}{a:gG}{Q:bk7→gG→jC→Prop}
theorem ti{P:bi3}{K:gG→jC→Prop}{E:Prop}(hgd:o.guard=none)(s x:bl7)(t:jH)
 (ho:o.op=.call {callee:=.builtin .append,args:=#[s,x],argTypes:=#[t,t]})
 (base:Nat) (e:jH) (i:TypeInfo) (z:jD) (size bytes:Nat) (ht:P.underlying t=some (.slice e)) (hi:P.info? e=some i) (hz:i.zero=some z)
 (hsize:i.size=size) (hby:i.bytes=bytes) (hzs:z.cells.size=size) (hsz:0<size)
 (v:jD) (n:Nat) (xs:List jD) (hs:a.eval s=v) (hown:w.ownsRow base e size v n xs)
 (B:Nat) (A:Option jG) (m c:Nat) (news:List jD) (hx:a.eval x=.slice A m c) (hm:news.length=m*size) (hr:Rd w B A news) (h1:∀u∈news,u.oneCell'=true)
 (h63:n+m≤maxLen) (hbytes:(n+m)*bytes≤140737488355328) (hbase:base≤w.heap.size)
 (h:∀A' c' w',w'.ownsRow base e size (.slice A' (n+m) c') (n+m) (xs++news)→w.grownBy w' v.ownBlock→((eo A' (n+m) c').ownBlock=v.ownBlock∨(eo A' (n+m) c').ownBlock=some w)→K (a.put o.dst (.slice A' (n+m) c')) w'):
 if eQ o (yielded ops a.tmps)=true then je P o a w K Q else E:=by
 have hw:eQ o (yielded ops a.tmps)=true:=by simp[eQ,hgd]
 rw[if_pos hw]
 obtain⟨v',w',hrun,h2,h3,h4⟩:=rg (P:=P) w base t o.type e i z size bytes ht hi hz hsize hby hzs hsz v n xs hown B A m c news hm hr h1 h63 hbytes hbase
 obtain⟨A',c',rfl,_⟩:=lB h2
 unfold je execOp
 simp only[ho,resolve,invoke,builtin,eT,fX,iF,List.map_toArray,df,jA,hs,hx,hrun]
 exact h A' c' w' h2 h3 h4
variable{ka kb:Int}{k:Nat}
theorem Hp{l:List Pb}(hk:k<l.length)(hnd:l.Pairwise fun a b=>a.id≠b.id):m6 (lE ka kb (l.take k)) l[k].id=none:=by
 unfold m6 lE;rw[fU];intro x hx;obtain⟨y,hy,rfl⟩:=dq.1 hx;obtain⟨j,hj,rfl⟩:=dR hy;have hjk:j<k:=by simp at hj;omega
 rw[jt];have:=cj.1 hnd j k jS hk hjk;simpa[qF]using this
variable{ids:List Int}{G:List Nat}{C:Col}{X:Nat→Prop}
theorem pP.ax6{B:Nat}{W:jC}{cb:Nat}{cs:List lO}{iv tv:jD}(h:pP B W cb ka kb ids G cs iv tv)(hi:ids=C.map (·.1.id))(hc:C=cs.map fun c=>(c,newT))(hB:4≤B)(hX:∀b,X b→b∈G∨b<B)(hGX:∀g∈G,X g):kE X W cb G ka kb C:=by
 have hcl:C.length=G.length:=by rw[hc,ax,h.len]
 have hil:ids.length=C.length:=by rw[hi,ax]
 obtain⟨IA,ic,e1,_,hr1,ha1⟩:=li h.zW;obtain⟨TA,tc,e2,_,hr2,ha2⟩:=li h.BX;refine⟨⟨IA,ic,TA,tc,?_,⟨?_,fun _ ad e hm=>?_⟩,⟨hr2,fun _ ad e hm=>?_⟩⟩,fun hm=>?_,hcl.symm,h.nd,hGX,fun g hg=>by have:=(h.gB g hg).1;omega,fun k hk hg=>?_⟩
 ·have:=h.blk;rw[e1,e2,hil,←hcl]at this;exact this
 ·rw[EB,←hi];exact hr1
 ·rcases hX _ hm with hm|hm
  ·subst e;rw[e1]at h;exact(h.NU ad.block rfl).2.1 hm
  have:=ha1 ad e;omega
 ·rcases hX _ hm with hm|hm
  ·subst e;rw[e2]at h;exact(h.BN ad.block rfl).2 hm
  have:=ha2 ad e;omega
 ·rcases hX _ hm with hm|hm
  ·exact(h.gB _ hm).2 rfl
  have:=h.cbB;omega
 have e3:C[k]=(cs[k]'(by rw[←h.len];exact hg),newT):=by simp[hc]
 rw[e3];exact(h.ten k hg (by rw[←h.len];exact hg)).mono fun _ e=>e.elim
def VF(w:jC)(ka kb:Int)(l:List Pb)(e:bi6)(w':jC):Prop:=Below w w w'∧∃cb G,e=.returned (.tuple #[jO cb,jJ 0])∧kE (·∈G) w' cb G ka kb (lE ka kb l)∧∀g∈G,w.heap.size≤g
def S4(w:jC)(ka kb:Int)(l:List Pb)(e:bi6)(w':jC):Prop:=Below w w w'∧∃cb G,e=.returned (.tuple #[jO cb,jJ 0])∧(∀X:Nat→Prop,(∀b,X b→b∈G∨b<w.heap.size)→(∀g∈G,X g)→kE X w' cb G ka kb (lE ka kb l))∧∀g∈G,w.heap.size≤g
theorem Ds(ka kb:Int)(A:Option jG)(l:List Pb)(cap:Nat)(h1l:1≤l.length)(h8l:l.length≤8)(hnd:l.Pairwise fun a b=>a.id≠b.id)(hbd:∀x∈l,0≤x.budget∧x.budget≤1000000)(hu:∀x∈l,U x.id)(w:jC)(hw:4≤w.heap.size)(hS:Rd w w A (l.flatMap OA)):
 jE Tryz.prog 15 #[cI ka kb,jN A l cap] w (S4 w ka kb l):=by
 obtain⟨t0,ht0,tz0,tz1,tz2⟩:=bi5 Tryz.p_
 obtain⟨t1,ht1,hy0,hy1,hy2⟩:=bi5 Tryz.Rb
 have HS:=ah hS
 have HND:=ah hnd
 have IY:=ah hbd
 have HU:=ah hu
 have d1:decide ((l.length:Int)<1)=false:=ag
 have d2:decide ((8:Int)<l.length)=false:=ag
 have HB0:=ah (jP (jQ (w.alloc (aW ka kb))) (.cells #[jK ka,jK kb,jM,jM] 81))
 have IT:Hid (pP (w.heap.size+1) ((w.alloc (aW ka kb)).alloc (.cells #[jK ka,jK kb,jM,jM] 81)) (w.heap.size+1) ka kb [] [] [] aO aO):=
  ⟨jR.new2 w _ _ _,ay _,dY _ _ _ _,dY _ _ _ _,rfl,List.nodup_nil,(fun _ h=>qch),(fun _ h=>qch),(fun _ h=>qch),(fun _ h=>qch)⟩
 have HKB:=ah (jR.new w 24 #[jK ka,jK kb])
 obtain⟨W0,hW0⟩:∃W0,W0=w.alloc (aW ka kb):=⟨_,rfl⟩
 have hWs:W0.heap.size=w.heap.size+1:=by rw[hW0];simp
 have HWS:=ah hWs
 have HWB:(bB w W0):=by show Below _ _ _;rw[hW0];exact jP (jQ w) _
 clear hS hnd hbd hu
 go_in
 go_wp2_with fail
 rw[←hW0]at HB0 IT HKB
 clear d1 d2
 go_loopw[24] (fun i wr=>∃(k:Nat)(G:List Nat)(iv tv:jD),i=(aJ k)∧k≤l.length∧Hid (pP (w.heap.size+1) wr (w.heap.size+1) ka kb ((l.take k).map (·.id)) G ((l.take k).map (qF ka kb)) iv tv)∧(bB W0 wr)) (fun i _=>l.length-(av i).toNat)
 case atStart=>
  rw[←hW0];exact⟨0,[],_,_,rfl,be _,IT,HB0⟩
 clear IT HB0 hW0
 obtain⟨k,G,iv,tv,rfl,hkk,HN,HB⟩:=hrel
 obtain⟨ids,EF⟩:∃ids,ids=(l.take k).map (·.id):=⟨_,rfl⟩
 rw[←EF]at HN
 have SW:=ah EF
 have hil:ids.length≤8:=by rw[EF,ax,cv];omega
 clear EF
 obtain⟨IA,ic,rfl,-⟩:=li HN.zW
 obtain⟨TA,tc,rfl,-⟩:=li HN.BX
 have hcw:=HN.blk.lt
 by_cases h1:k<l.length
 ·have d1:decide ((k:Int)<l.length)=true:=ae;obtain⟨b,off,rfl,hb,hc⟩:=oP (n:=3) (fun _=>rfl) B8 HS jS;have hs0:=HB.size;have S1:(bB w wr):=HWB.trans (HB.mono jS);have i0:wr.cell? ⟨b,off+k*3,none⟩=some (.int .u64 l[k].id):=(S1.cell (p:=⟨b,off+k*3+0,none⟩) hb).trans (hc k h1 0 _ B8 rfl);have i1':wr.cell? ⟨b,off+k*3+1,none⟩=some (.int .i64 l[k].budget):=(S1.cell (p:=⟨b,off+k*3+1,none⟩) hb).trans (hc k h1 1 _ B8 rfl);have i2':wr.cell? ⟨b,off+k*3+2,none⟩=some (.int .u64 l[k].life):=(S1.cell (p:=⟨b,off+k*3+2,none⟩) hb).trans (hc k h1 2 _ B8 rfl);have xO:(0:Int)≤k:=jS;have xN:(k:Int)<l.length:=jS;have hbw:b<wr.heap.size:=by have:=S1.size;omega
  have Ww:Hid (m6 (lE ka kb (l.take k)) l[k].id=none):=Hp h1 HND;have Fi:Hid (l.take (k+1)=l.take k++[l[k]]):=aj h1;have HXB:Hid (0≤l[k].budget∧l[k].budget≤1000000):=IY _ (ar h1);have HXU:Hid (U l[k].id):=HU _ (ar h1);clear hc;generalize l[k]=c0 at*
  have S0:Hid (kE (·∈G) wr (w.heap.size+1) G ka kb (lE ka kb (l.take k))):=HN.col (by rw[SW];unfold lE;rw[fY];try rfl) (by unfold lE;rw[fY];try rfl) jS;have I1:(lE ka kb (l.take k)).length≤100:=by unfold lE;rw[ax,cv];omega
  have hba:=jP (jQ wr) (.cells (lz 21 c0) 63);have BE:=ah (jR.new wr 63 (lz 21 c0));have MQ:=ah (HN.call hba);have HB1:Hid (Below W0 W0 (wr.alloc (.cells (lz 21 c0) 63))):=HB.trans (hba.mono hs0);have QF:=ah (uA (·∈G) (w.heap.size+1) G ka kb (lE ka kb (l.take k)) c0.id I1 _ (S0.later hba));rw[Ww]at QF;unfold Ad at QF;clear hba;go_wp2_with fail;refine QF.mono ?_;rintro e w1⟨rfl,rfl⟩;clear QF i0 i1' i2' d1 S0 Ww;go_wp2_with fail;refine Ql (fun V=>jR V wr 63 (lz 21 c0)∧pP (w.heap.size+1) V (w.heap.size+1) ka kb ids G ((l.take k).map (qF ka kb)) (cZ IA ids ic) (.slice TA G.length tc)∧Below W0 W0 V) ⟨BE,MQ,HB1⟩ (fun V hV=>?_);obtain⟨hV1,hV2,AQ⟩:=hV;clear BE MQ HB1;generalize wr.heap.size=bx at*
  have BE:=ah hV1.drew;have MQ:=ah hV2.drew;have HB1:Hid (Below W0 W0 V.drew):=AQ.drew;clear hV1 hV2 AQ;have c0':=ce BE 0;have c1':=ce BE 1;have c2':=ce BE 2;have SU:Hid (jR V.drew w 24 #[jK ka,jK kb]):=HKB.below HB1 jS;have c3':=ce SU 0;have Ip:=ce SU 1;have hbx:bx<V.drew.heap.size:=BE.lt;have hkx:w.heap.size<V.drew.heap.size:=SU.lt;refine bi1 (S:=(fun w'=>w'.cell? ⟨bx,0,none⟩=some (.int .u64 c0.id)∧w'.cell? ⟨bx,1,none⟩=some (.int .i64 c0.budget)∧w'.cell? ⟨bx,2,none⟩=some (.int .u64 c0.life)∧(rU 8 w' w ka kb))) oo ⟨c0',c1',c2',c3',Ip⟩ (fun hHeld=>?_);refine re hHeld ?_;generalize V.drew=V2 at*
  refine pL 4 fun K hK=>?_;go_simp;refine(Mb ka kb c0.id HXU V2).mono ?_;rintro e w3⟨rfl,hb3⟩;have BD:=ah (BE.later hb3);have Wt:=ah (MQ.call hb3);have hz2:=HB1.size;have HB3:(bB W0 w3):=HB1.trans (hb3.mono hz2);have Cs:=ah (SU.later hb3);have hz3:=hb3.size;clear BE MQ HB1 SU hb3 c0' c1' c2' c3' Ip;have c0':=ce BD 0;have c1':=ce BD 1;have c2':=ce BD 2;have c3':=ce Cs 0;have Ip:=ce Cs 1;refine hK.out _ _ ⟨c0',c1',c2',c3',Ip⟩ (fun hHeld=>?_);clear hK K;refine az ?_;refine pL 5 fun K hK=>?_;go_simp;refine(Fz (qF ka kb c0) w3).mono ?_;rintro e w4⟨hb4,h4⟩;obtain⟨-,-,g,hg3,rfl,mo⟩|⟨hbad,-⟩:=h4
  rotate_left
  ·exact absurd HXB hbad
  have xc:=ah mo;have Cq:=ah (BD.later hb4);have HN4:=ah (Wt.call hb4);have HB4:(bB W0 w4):=HB3.trans (hb4.mono HB3.size);have MR:=ah (Cs.later hb4);have Rg:=hb4.size;have Zu:Hid ((∀r,(eo IA ids.length ic).ownBlock=some r→r<w3.heap.size)∧(∀r,(eo TA G.length tc).ownBlock=some r→r<w3.heap.size)∧(∀x∈G,x<w3.heap.size)∧w.heap.size+1<w3.heap.size):=⟨fun r e=>(pf Wt.zW r e).2,fun r e=>(pf Wt.BX r e).2,fun x hx=>Wt.XJ hx,Wt.blk.lt⟩;clear BD Wt HB3 Cs hb4 c0' c1' c2' c3' Ip mo;have c0':=ce Cq 0;have c1':=ce Cq 1;have c2':=ce Cq 2;have c3':=ce MR 0;have Ip:=ce MR 1;refine hK.out _ _ ⟨c0',c1',c2',c3',Ip⟩ (fun hHeld=>?_);clear hK K;refine az ?_;refine re hHeld ?_;refine hdn ?_;clear hHeld;go_wp2_with fail;clear c0' c1' c2' c3' Ip;have HN5:=ah HN4.drew;have Yv:Hid (jR w4.drew bx 63 (lz 21 c0)):=Cq.drew;have y_:Hid (Below W0 W0 w4.drew):=HB4.drew;have HT5:Hid (kB w4.drew (fun _=>False) g (qF ka kb c0) newT):=xc.later (Below.refl _ w4).drew;have hz5:w3.heap.size≤w4.drew.heap.size:=Rg;have k0:w4.drew.cell? (bW w)=some (cZ IA ids ic):=HN5.blk.cell 2;have k1:w4.drew.cell? ⟨bx,0,none⟩=some (.int .u64 c0.id):=Yv.cell 0;clear HN4 Cq HB4 xc MR Rg;refine kG (S:=(fun w'=>w'.cell? (bW w)=some (cZ IA ids ic)∧w'.cell? ⟨bx,0,none⟩=some (.int .u64 c0.id))) (s:=11) oo ?_;refine sU ⟨k0,k1⟩ ?_;generalize w4.drew=w5 at*
  refine oY 7 fun K hK=>?_;go_simp;have hba:Below w5 w5 (w5.alloc (.cells #[jK c0.id] 22)):=jP (jQ w5) _;have HRA:Hid (Rd (w5.alloc (.cells #[jK c0.id] 22)) (dE w5) (aM w5) [jK c0.id]):=JJ (cs:=[jK c0.id]) (jR.new w5 _ _);have Vt:=ah (HN5.call hba);have Vr:=ah (Yv.later hba);have HT6:=ah (HT5.later hba);have VA:Hid (Below W0 W0 (w5.alloc (.cells #[jK c0.id] 22))):=y_.trans (hba.mono y_.size);have hz6:w5.heap.size≤(w5.alloc (.cells #[jK c0.id] 22)).heap.size:=hba.size;have hgx:g<w5.heap.size:=by obtain⟨_,_,_,_,_,_,_,ht⟩:=HT5;exact ht.blk.lt
  clear hba k0 k1 HN5 Yv HT5 y_;generalize w5.alloc (.cells #[jK c0.id] 22)=w6 at*
  have k0:w6.cell? (bW w)=some (cZ IA ids ic):=Vt.blk.cell 2;have k1:w6.cell? ⟨bx,0,none⟩=some (.int .u64 c0.id):=Vr.cell 0;refine hK.out _ _ (fun _=>⟨k0,k1⟩) ?_;clear hK K;try try simp only[gL,eK,ej,dQ,bd,ak,am]
  refine oY 8 fun K hK=>?_;refine ti rfl (.tmp 48) (.tmp 51) 33 rfl (w.heap.size+1) 22 t0 (.int .u64 0) 1 8 Tryz.underlying33 ht0 tz0 tz1 tz2 rfl B8 (cZ IA ids ic) ids.length _ rfl Vt.zW (dE w5) (aM w5) 1 1 [jK c0.id] rfl lV HRA (by intro u hu;simp at hu;subst hu;rfl) O0 jS (by have:=Vt.blk.lt;omega) ?_;intro A3 c3 w8 hown hgrow hv;have Zo:=ah (Vt.ag1 (v':=.slice A3 (ids.length+1) c3) hown hgrow (by rcases hv with e|e;exact .inl e;exact .inr ⟨_,e,ay _⟩));have sZ:=Vt.blk.grown hgrow (fun e=>(Vt.NU _ e.symm).1 rfl);have aa4:∀r,(eo IA ids.length ic).ownBlock=some r→r≠bx:=fun r hr e=>by
   obtain⟨_,⟨h9,_⟩|⟨r',cap',cur',hv',hb',hh',_⟩⟩:=Vt.zW
   ·rw[h9]at hr;cases hr
   rw[hv']at hr
   cases hr
   have e9:r'=bx:=e;rw[e9]at hh';rw[show w6.heap[bx]? =_ from Vr]at hh';injection hh' with hh';injection hh' with _ hh';exact absurd hh' B8
  have ak1:Hid (jR w8 bx 63 (lz 21 c0)):=Vr.grown hgrow (fun e=>aa4 _ e.symm rfl);have hgi:(eo IA ids.length ic).ownBlock≠some g:=fun e=>by have:=Zu.1 g e;omega
  have HT7:Hid (kB (w8.setCell (bW w) (.slice A3 (ids.length+1) c3)) (fun _=>False) g (qF ka kb c0) newT):=
   (HT6.out.out (w':=w8) (X:=fun b=>(eo IA ids.length ic).ownBlock=some b) ⟨hgrow.os,hgrow.tape,hgrow.output,hgrow.size,fun i hi hx=>hgrow.block i hi fun e=>hx e.symm⟩ (fun _ e=>e.elim) hgi).out (X:=fun b=>b=w.heap.size+1) ((Out.refl (fun b=>b=w.heap.size+1) w8).setCell (p:=(bW w)) (.inl rfl) _) (fun _ e=>e.elim) (by have:=Zu.2.2.2;omega)
  have HB7:Hid (Below W0 W0 (w8.setCell (bW w) (.slice A3 (ids.length+1) c3))):=(VA.grown hgrow VA.size (fun r e=>by have:=(pf Vt.zW r e).1;have:=HWS;omega)).setCell (p:=(bW w)) (by show W0.heap.size≤w.heap.size+1;have:=HWS;omega) _;have HGX:Hid ((eo A3 (ids.length+1) c3).ownBlock≠some g):=fun e=>by
   rcases hv with e2|e2
   ·exact hgi (e2▸e)
   rw[e2]at e;cases e;omega
  have fz:w8.frozen? (bW w)=false:=sZ.frozen 2;have zl:w.heap.size+1<w8.heap.size:=sZ.lt;have zn:(eo A3 (ids.length+1) c3)=.slice A3 (ids.length+1) c3:=rfl;clear k0 k1 hown hgrow hv HRA zn;have k0:w8.cell? (bW w)=some (cZ IA ids ic):=sZ.cell 2;have k1:w8.cell? ⟨bx,0,none⟩=some (.int .u64 c0.id):=ak1.cell 0;clear sZ aa4 hgi Vt Vr HT6 VA;refine hK.out _ _ (fun _=>⟨k0,k1⟩) ?_;clear hK K;try try simp only[gL,eK,ej,dQ,bd,ak,am]
  refine sU ⟨k0,k1⟩ ?_;refine oY 11 fun K hK=>?_;go_simp;refine hK.out _ _ (fun h=>qch) ?_;clear hK K;try try simp only[gL,eK,ej,dQ,bd,ak,am]
  refine yi ?_;clear k0 k1 fz ak1;have hz7:w8.heap.size=(w8.setCell (bW w) (.slice A3 (ids.length+1) c3)).heap.size:=lV;generalize w8.setCell (bW w) (.slice A3 (ids.length+1) c3)=w7 at*
  have hm2:w7.cell? (lz 51 w)=some (.slice TA G.length tc):=Zo.blk.cell 3;go_wp2_with(at_builtin;refine Stop.i ?_);unfold Stop;have HOT:Hid ((w7.alloc (.cells #[jO g] 82)).ownsRow (w.heap.size+1) 82 1 (.slice TA G.length tc) G.length (wh G)):=Zo.BX.alloc _;refine kr _ rfl (.tmp 59) (.tmp 61) 79 rfl (w.heap.size+1) 82 t1 (.pointer none) 1 8 Tryz.underlying79 ht1 hy0 hy1 hy2 rfl B8 (.slice TA G.length tc) G.length _ rfl HOT _ _ 1 1 [jO g] rfl rfl (tY (jR.new w7 _ #[jO g])) (fun u hu=>by simp at hu;rw[hu];try rfl) (by have:=Zo.len;rw[ax,cv]at this;unfold maxLen;omega) (by have:=Zo.len;rw[ax,cv]at this;omega) mO ?_;intro v' W hown hgrow hv;obtain⟨A2,c2,rfl,-⟩:=lB hown;have Ws:=ah (Zo.call (jP (jQ w7) (.cells #[jO g] 82)));have aT0:g<w7.heap.size:=by obtain⟨_,_,_,_,_,_,_,ht⟩:=HT7;exact ht.blk.lt
  have HN9:=ah (Ws.Ye (c:=qF ka kb c0) (v':=.slice A2 (G.length+1) c2) hown hgrow (by rcases hv with e|e;exact .inl e;exact .inr ⟨_,e,ay _⟩) (HT7.later (jP (jQ w7) _)) (by have:=Zu.2.2.2;omega) (by have:=Zu.2.2.2;omega) (fun hm=>by have:=Zu.2.2.1 g hm;omega) HGX (fun e=>by have:=Zu.2.1 g e;omega));have BI:Hid (Below W0 W0 (W.setCell (lz 51 w) (.slice A2 (G.length+1) c2))):=((jP HB7 (.cells #[jO g] 82)).grown hgrow (by simp;have:=HB7.size;omega) (fun r e=>by have:=(pf Zo.BX r e).1;have:=HWS;omega)).setCell (p:=(lz 51 w)) (by show W0.heap.size≤w.heap.size+1;have:=HWS;omega) _;have zc:W.cell? (lz 51 w)=some (.slice TA G.length tc):=by
   have h9:=Ws.blk.grown hgrow (fun e=>(Ws.BN _ e.symm).1 rfl);have:=h9.cell 3;simpa using this
  have zf:W.frozen? (lz 51 w)=false:=(Ws.blk.grown hgrow (fun e=>(Ws.BN _ e.symm).1 rfl)).frozen 3;have zl:w.heap.size+1<W.heap.size:=(Ws.blk.grown hgrow (fun e=>(Ws.BN _ e.symm).1 rfl)).lt;clear hown hgrow hv HOT Ws;go_wp2;go_roundw
  case rel=>
   refine⟨k+1,G++[g],.slice A3 (ids.length+1) c3,.slice A2 (G.length+1) c2,CJ,jS,?_,BI⟩;show pP _ _ _ _ _ _ _ _ _ _;rw[Fi,dH,dH,←SW];exact HN9
  exact No
 have hkn:k=l.length:=jS
 subst hkn
 have d1:decide ((l.length:Int)<l.length)=false:=lV
 have OT:=HN
 rw[SW,dP]at OT
 have HBE:=ah (HWB.trans (HB.mono jS))
 clear HN HB
 go_wp2
 go_ret2
 exact⟨HBE,_,G,rfl,fun X hX hGX=>OT.ax6 (by unfold lE;rw[fY];try rfl) (by unfold lE;rw[fY];try rfl) jS (fun b hb=>(hX b hb).imp id fun q=>jS) hGX,fun g hg=>by have:=(OT.gB g hg).1;omega⟩
theorem Sa(ka kb:Int)(A:Option jG)(l:List Pb)(cap:Nat)(h1l:1≤l.length)(h8l:l.length≤8)(hnd:l.Pairwise fun a b=>a.id≠b.id)(hbd:∀x∈l,0≤x.budget∧x.budget≤1000000)(hu:∀x∈l,U x.id)(w:jC)(hw:4≤w.heap.size)(hS:Rd w w A (l.flatMap OA)):
 jE Tryz.prog 15 #[cI ka kb,jN A l cap] w (VF w ka kb l):=by
 refine(Ds ka kb A l cap h1l h8l hnd hbd hu w hw hS).mono ?_
 rintro e w'⟨h1,cb,G,h2,h3,h4⟩
 exact⟨h1,cb,G,h2,h3 _ (fun _ h=>.inl h) (fun _ h=>h),h4⟩
instance(x0:Int)(x1:Int):CoeOut (wU 49 x0 x1) Obj:=⟨fun _=>(.cells #[.int .u64 1,.int .i64 x0,.int .u64 x1,.int .u64 2,.int .i64 x0,.int .u64 x1] 63)⟩
theorem zv(s:ByteArray)(hs:s.size≤maxLen)(w:jC):jE Tryz.prog 38 #[.string s] w fun e w'=>e=.returned (.string (rp s 300))∧w'=w:=by
 unfold maxLen at hs;unfold rp;obtain⟨a1,ha1⟩:∃a:Nat,min s.size 300=a:=⟨_,rfl⟩;have m1:min (s.size:Int) 300=(a1:Int):=jS;have l1:(0:Int)≤a1:=jS;have l3:(a1:Int)≤(s.size:Int):=jS;rw[ha1];clear ha1;go_in;go_wp2;go_ret;exact⟨rfl,rfl⟩
def KH(m:ReqM):ReqM:=⟨lu m.r,m.ia,m.ic,m.ta,m.tc⟩
theorem Do(m:ReqM)(hr:ReqRaw m)(hi:m.r.items.length≤m.ic)(ht:m.r.jV.length≤m.tc)(w:jC):jE Tryz.prog 17 #[.agg (uD m).toArray] w fun e w'=>e=.returned (.agg (uD (KH m)).toArray)∧(bJ w w'):=by
 obtain⟨⟨op,now,labels,scope,kind,items,h,to,id,jV⟩,ia,ic,ta,tc⟩:=m;have H1:=ah (zv labels hr.labels);have H2:=ah (zv scope hr.scope);have hic:=hr.items;have htc:=hr.jV;simp only[uD,KH,lu]at hi ht hic htc⊢;unfold maxLen at hic htc;generalize rp labels 300=l2 at*
 generalize rp scope 300=s2 at*
 obtain⟨a3,S8⟩:∃a:Nat,(items.take 52).length=a:=⟨_,rfl⟩;obtain⟨a4,XD⟩:∃a:Nat,(jV.take 10).length=a:=⟨_,rfl⟩;rw[S8,XD];rw[cv]at S8 XD;have m3:min (items.length:Int) 52=(a3:Int):=jS;have m4:min (jV.length:Int) 10=(a4:Int):=jS;have l1:(0:Int)≤a3:=jS;have l2':(0:Int)≤a4:=jS;have l3:(a3:Int)≤(ic:Int):=jS;have l4:(a4:Int)≤(tc:Int):=jS;have HB:=ah (jP (jP (jQ w) (.cells #[jJ op,jK now,jL l2,jL s2,jJ kind,.slice ia a3 ic,jK h,jK to,jK id,.slice ta a4 tc] 35)) (.cells #[jJ op,jK now,jL l2,jL s2,jJ kind,.slice ia a3 ic,jK h,jK to,jK id,.slice ta a4 tc] 35));clear S8 XD hr;go_in;go_wp2_with fail;refine(H1 _).mono ?_;rintro e w1⟨rfl,rfl⟩;go_wp2_with fail;refine(H2 _).mono ?_;rintro e w1⟨rfl,rfl⟩;go_wp2;refine jF (v:=.agg #[jJ op,jK now,jL l2,jL s2,jJ kind,.slice ia a3 ic,jK h,jK to,jK id,.slice ta a4 tc]) (by simp[results,Tryz.results17,go_sem]) rfl ?_;exact⟨rfl,HB⟩
variable{m:ReqM}
theorem nG.few(h:nG X w m):nG X w (KH m):=by
 have e1:(m.r.items.take 52).flatMap Q8 <+: m.r.items.flatMap Q8:=by
  conv=>rhs;rw[←fQ 52 m.r.items,eZ]
  exact List.prefix_append _ _
 have e2:qM (m.r.jV.take 10) <+: qM m.r.jV:=by
  unfold qM;rw[iR];exact eS _ _
 have key:∀{A:Option jG}{xs ys:List jD},pO X w A xs→ys <+: xs→pO X w A ys:=fun{A xs ys} h hp=>by
  obtain⟨t,rfl⟩:=hp;refine⟨fun hn=>?_,fun hn=>h.x (by intro e;exact hn (iM.1 e).1)⟩;obtain⟨b,off,e,hb,hc⟩:=h.rd (by intro e;exact hn (iM.1 e).1);exact⟨b,off,e,hb,fun j v hj=>hc j v (by rw[eL (ci.1 hj).1];exact hj)⟩
 exact⟨key h.i e1,key h.t e2,by show(List.take _ _).length≤m.ic;rw[cv];have:=h.ic;omega,by show(List.take _ _).length≤m.tc;rw[cv];have:=h.tc;omega⟩
theorem two_any(b l:Int)(w:jC):jE Tryz.prog 13 #[.int .i64 b,.int .u64 l] w fun e w'=>e=.returned (.slice (some (lz 43 w)) 2 2)∧w'=w.alloc (lI 49 b l):=by
 go_in;go_wp2;go_ret;exact⟨rfl,rfl⟩
theorem nK(id:Int)(w:jC):jE Tryz.prog 10 #[.int .u64 id] w fun e w'=>e=.returned (.agg #[.int .u64 id,.int .i64 3,.int .u64 0])∧(bJ w w'):=by
 have HB:=ah (jP (jQ w) (.cells #[jK id,jJ 3,jK 0] 30));go_in;go_wp2;refine jF (v:=.agg #[jK id,jJ 3,jK 0]) (by simp[results,Tryz.results10,go_sem]) rfl ?_;exact⟨rfl,HB⟩
def m9(b l:Int):List Pb:=[⟨1,b,l⟩,⟨2,b,l⟩]
theorem Jb(b l:Int)(w:jC):Rd (w.alloc (lI 49 b l)) (w.alloc (lI 49 b l)).heap.size (some (lz 43 w)) ((m9 b l).flatMap OA):=tY (jR.new w _ _)
theorem vR(b l:Int):(m9 b l).Pairwise fun x y=>x.id≠y.id:=by simp[m9]
theorem zL(b l:Int):∀x∈m9 b l,U x.id:=fun x hx=>by
 simp[m9]at hx;rcases hx with rfl|rfl
 ·exact⟨by show(0:Int)≤1;omega,by show(1:Int)≤18446744073709551615;omega⟩
 exact⟨by show(0:Int)≤2;omega,by show(2:Int)≤18446744073709551615;omega⟩
theorem Um(A B:Option jG)(l:List Nat)(ca cb:Nat)(hl:l.length≤9223372036854775807)(w:jC)(hA:Rd w w.heap.size A (lC l))(hB:Rd w w.heap.size B (lC l)):
 jE Tryz.prog 39 #[.slice A l.length ca,.slice B l.length cb] w fun e w'=>e=.returned (.bool true)∧(bJ w w'):=by
 have HA:=ah hA
 have HB:=ah hB
 have n1:((l.length:Int)!=(l.length:Int))=false:=lV
 clear hA hB
 go_in
 go_wp2_with fail
 clear n1
 go_loopw[5] (fun i wr=>∃k:Nat,i=(aJ k)∧k≤l.length∧Hid (bJ w wr)) (fun i _=>l.length-(av i).toNat)
 case atStart=>exact⟨0,rfl,be _,jQ _⟩
 obtain⟨k,rfl,hk,HW⟩:=hrel
 by_cases h1:k<l.length
 ·have d1:decide ((k:Int)<l.length)=true:=ae;obtain⟨b,off,rfl,hb,hc⟩:=za HA jS;obtain⟨b',off',rfl,hb',hc'⟩:=za HB jS;have i0:=(HW.cell (p:=⟨b,off+k,none⟩) hb).trans (hc k h1);have j0:=(HW.cell (p:=⟨b',off'+k,none⟩) hb').trans (hc' k h1);have xO:(0:Int)≤k:=jS;have xN:(k:Int)<l.length:=jS;have HWD:=ah HW.drew;clear hc hc';generalize l[k]=y at*
  go_wp2;go_region_held(fun w'=>w'.cell? ⟨b,off+k,none⟩=some (aJ y)∧w'.cell? ⟨b',off'+k,none⟩=some (aJ y)) (first|assumption|exact⟨i0,j0⟩|go_keep) (fail);go_wp2;go_roundw
  case rel=>exact⟨k+1,CJ,jS,HWD⟩
  exact No
 have hkk:k=l.length:=jS
 subst hkk
 have d1:decide ((l.length:Int)<l.length)=false:=lV
 go_wp2
 go_ret
 exact⟨rfl,HW⟩
theorem KL(A B:Option jG)(l:List mV)(ca cb:Nat)(hl:l.length≤9223372036854775807)(w:jC)(hA:Rd w w.heap.size A (l.flatMap nE))(hB:Rd w w.heap.size B (l.flatMap nE)):
 jE Tryz.prog 40 #[.slice A l.length ca,.slice B l.length cb] w fun e w'=>e=.returned (.bool true)∧(bJ w w'):=by
 have HA:=ah hA
 have HB:=ah hB
 have n1:((l.length:Int)!=(l.length:Int))=false:=lV
 clear hA hB
 go_in
 go_wp2_with fail
 clear n1
 go_loopw[5] (fun i wr=>∃k:Nat,i=(aJ k)∧k≤l.length∧Hid (bJ w wr)) (fun i _=>l.length-(av i).toNat)
 case atStart=>exact⟨0,rfl,be _,jQ _⟩
 obtain⟨k,rfl,hk,HW⟩:=hrel
 by_cases h1:k<l.length
 ·have d1:decide ((k:Int)<l.length)=true:=ae;obtain⟨b,off,rfl,hb,hc⟩:=oP (n:=4) (fun _=>rfl) B8 HA jS;obtain⟨b',off',rfl,hb',hc'⟩:=oP (n:=4) (fun _=>rfl) B8 HB jS;have i0:wr.cell? ⟨b,off+k*4+0,none⟩=some (.int .u64 l[k].seq):=(HW.cell (p:=⟨b,off+k*4+0,none⟩) hb).trans (hc k h1 0 _ B8 rfl);have i1:wr.cell? ⟨b,off+k*4+1,none⟩=some (.int .u64 l[k].tm):=(HW.cell (p:=⟨b,off+k*4+1,none⟩) hb).trans (hc k h1 1 _ B8 rfl);have i2:wr.cell? ⟨b,off+k*4+2,none⟩=some (.string l[k].text):=(HW.cell (p:=⟨b,off+k*4+2,none⟩) hb).trans (hc k h1 2 _ B8 rfl);have i3:wr.cell? ⟨b,off+k*4+3,none⟩=some (.int .u64 l[k].sum):=(HW.cell (p:=⟨b,off+k*4+3,none⟩) hb).trans (hc k h1 3 _ B8 rfl);have j0:wr.cell? ⟨b',off'+k*4+0,none⟩=some (.int .u64 l[k].seq):=(HW.cell (p:=⟨b',off'+k*4+0,none⟩) hb').trans (hc' k h1 0 _ B8 rfl);have j1:wr.cell? ⟨b',off'+k*4+1,none⟩=some (.int .u64 l[k].tm):=(HW.cell (p:=⟨b',off'+k*4+1,none⟩) hb').trans (hc' k h1 1 _ B8 rfl);have j2:wr.cell? ⟨b',off'+k*4+2,none⟩=some (.string l[k].text):=(HW.cell (p:=⟨b',off'+k*4+2,none⟩) hb').trans (hc' k h1 2 _ B8 rfl);have j3:wr.cell? ⟨b',off'+k*4+3,none⟩=some (.int .u64 l[k].sum):=(HW.cell (p:=⟨b',off'+k*4+3,none⟩) hb').trans (hc' k h1 3 _ B8 rfl);rw[ip]at i0 j0;have xO:(0:Int)≤k:=jS;have xN:(k:Int)<l.length:=jS;have HWD:=ah HW.drew;clear hc hc';generalize l[k]=y at*
  obtain⟨ys,yt,yx,ym⟩:=y;simp only at i0 i1 i2 i3 j0 j1 j2 j3;go_wp2;go_region_held(fun w'=>w'.cell? ⟨b,off+k*4,none⟩=some (.int .u64 ys)∧w'.cell? ⟨b,off+k*4+1,none⟩=some (.int .u64 yt)∧w'.cell? ⟨b,off+k*4+2,none⟩=some (.string yx)∧w'.cell? ⟨b,off+k*4+3,none⟩=some (.int .u64 ym)∧w'.cell? ⟨b',off'+k*4,none⟩=some (.int .u64 ys)∧w'.cell? ⟨b',off'+k*4+1,none⟩=some (.int .u64 yt)∧w'.cell? ⟨b',off'+k*4+2,none⟩=some (.string yx)∧w'.cell? ⟨b',off'+k*4+3,none⟩=some (.int .u64 ym)) (first|assumption|exact⟨i0,i1,i2,i3,j0,j1,j2,j3⟩|go_keep) (fail);go_wp2;go_roundw
  case rel=>exact⟨k+1,CJ,jS,HWD⟩
  exact No
 have hkk:k=l.length:=jS
 subst hkk
 have d1:decide ((l.length:Int)<l.length)=false:=lV
 go_wp2
 go_ret
 exact⟨rfl,HW⟩
structure Bx(w:jC)(v:jD)(r:Rep):Prop where
 at_:∃A k E k2,v=.agg #[.int .i64 r.e,.int .u64 r.n,.slice A r.notices.length k,.slice E r.entries.length k2]∧Rd w w.heap.size A (lC r.notices)∧Rd w w.heap.size E (r.entries.flatMap nE)
theorem FZ(v u:jD)(r:Rep)(hn:r.notices.length≤1000)(he:r.entries.length≤1000)(w:jC)(h:Bx w v r)(k:Bx w u r):
 jE Tryz.prog 18 #[v,u] w fun e w'=>e=.returned (.bool true)∧(bJ w w'):=by
 obtain⟨A,ka,E,ke,rfl,h1,h2⟩:=h.at_
 obtain⟨A',ka',E',ke',rfl,k1,k2⟩:=k.at_
 have Q1:Hid (∀W,(bJ w W)→jE Tryz.prog 39 #[jN A r.notices ka,jN A' r.notices ka'] W fun e w'=>e=.returned (.bool true)∧(bJ W w')):=fun W hb=>Um A A' r.notices ka ka' jS W ((Rd.below h1 hb).more hb.size) ((Rd.below k1 hb).more hb.size)
 have Q2:Hid (∀W,(bJ w W)→jE Tryz.prog 40 #[jN E r.entries ke,jN E' r.entries ke'] W fun e w'=>e=.returned (.bool true)∧(bJ W w')):=fun W hb=>KL E E' r.entries ke ke' jS W ((Rd.below h2 hb).more hb.size) ((Rd.below k2 hb).more hb.size)
 have HH:=ah (((Hold.nil w).alloc w 55 [jJ r.e,jK r.n,jN A r.notices ka,jN E r.entries ke]).alloc (w.heap.size+1) 55 [jJ r.e,jK r.n,jN A' r.notices ka',jN E' r.entries ke'])
 clear h h1 h2 k k1 k2
 go_in
 go_wp2_with fail
 refine kf (fun _=>True) HH trivial (fun V HV _=>?_)
 clear HH
 refine(Q1 V HV.below).mono ?_
 rintro e w1⟨rfl,hb1⟩
 replace HV:=ah (HV.call hb1)
 clear hb1
 have x:=fk (HV.facts)
 go_wp2_with fail
 refine(Q2 w1 HV.below).mono ?_
 rintro e w2⟨rfl,hb2⟩
 replace HV:=ah (HV.call hb2)
 clear hb2 x
 go_wp2
 go_ret
 exact⟨rfl,HV.below⟩
def MD:ByteArray:=⟨#[97,61,120]⟩
def O4:List kI:=[(⟨#[97]⟩,⟨#[120]⟩)]
theorem TH:pE (tx MD)=some O4:=TO
theorem WQ:setB O4=true:=TO
theorem Qg:vt (tx MD)=some O4:=by
 refine Gk ?_;unfold mW;rw[TH];exact⟨O4,List.Perm.refl _,fun a b h1 h2=>by simp[O4]at h2;omega,by rw[if_pos WQ]⟩
theorem VR:Sc.lU (tx MD)=some [((⟨#[97]⟩:ByteArray),(⟨#[120]⟩:ByteArray))]:=TO
theorem FW:mw MD=true:=by unfold mw;rw[VR];try rfl
theorem Qr:nX MD O4=true:=by
 unfold nX;rw[VR];have h1:Sc.k8 O4 ⟨#[97]⟩=(⟨#[120]⟩,true):=TO;have h2:Sc.mu (tx ⟨#[120]⟩)=some [Sc.Sg.that 120]:=TO;have h3:Sc.rn (tx ⟨#[120]⟩)=[120]:=TO;simp only[Sc.allM,List.all_cons,List.all_nil,Bool.and_true,h1,eF];rw[Sc.vE h2 TO,h3];exact .for_ _ _ _ _ rfl .nil
theorem NI{l:List mV}{a b:Int}(h:late l a=false)(hab:a≤b):late l b=false:=by
 unfold late at h⊢
 cases hl:l.getLast? with
 |none=>rfl
 |some x=>rw[hl]at h;simp only[decide_eq_false_iff_not]at h⊢;omega
variable{α:Type}{c:lO}{T T2:kM}{now:Int}{text:ByteArray}
theorem Wg{step:kM→Except Int (kM×α)}{a:α}(hG:nH c T)(hu:U now)(hn:T.tm≤now)(hs:step (ko c T now)=.ok (T2,a))(h1:T2.lb=T.lb)(h2:T2.ll=T.ll)(h3:T2.tm=now)(ht:text.size≤200)(hl:kO T.ll<18446744073709551615):
 ∃b l,EQ c T now text step=.ok ({T2 with lb:=b,ll:=l},a):=by
 obtain⟨b,l,e,-⟩:=Wj hG.lg hu ht (NI hG.late hn) hl
 refine⟨b,l,?_⟩
 unfold EQ
 rw[if_neg jS,hs]
 simp only
 rw[h1,h2,h3,e]
variable{labels:ByteArray}{kind:Int}{items:List Item}
theorem Pp{l:List kI}(h0:T.tb=[])(hi:items.length≤50)(hp:vt (tx labels)=some l)(hk:1≤kind∧kind≤3)(hc:kJ [⟨l,mF (nC kind) items,T.tm⟩]≤c.budget):
 me c T labels kind items=.ok ({T with tb:=[⟨l,mF (nC kind) items,T.tm⟩]},[]):=by
 have e1:mf T.tb l kind=nC kind:=by rw[h0];simp[mf,mQ,o_]
 have e2:we T.tb ⟨l,mF (nC kind) items,T.tm⟩=some [⟨l,mF (nC kind) items,T.tm⟩]:=by rw[h0];simp[we,Dm,CL,mQ,o_]
 unfold me
 rw[if_neg jS,hp]
 simp only
 rw[if_pos hk,e1,if_pos (wj hk).2.1,e2]
 simp only
 rw[show pI c.budget 100 [⟨l,mF (nC kind) items,T.tm⟩] []=some ([⟨l,mF (nC kind) items,T.tm⟩],[])from by show(if _ then _ else _)=_;rw[if_pos hc]]
theorem J1(sc:ByteArray)(hs:mw sc=true)(hk:1≤kind∧kind≤3):kA [] sc kind=.ok (nC kind):=by
 unfold kA nj;rw[if_pos hs];simp only;rw[if_pos hk];rfl
variable{sc:ByteArray}
theorem J0{s:mq}(hs:mw sc=true)(hm:nX sc s.l=true)(hk:1≤kind∧kind≤3)(hkk:s.k.kind=kind):kA [s] sc kind=.ok (mZ (nC kind) s.k):=by
 unfold kA nj;rw[if_pos hs];simp only;rw[if_pos hk];have:mj sc [s] 1=[0]:=by simp[mj,uo,hm]
 rw[show[s].length=1 from rfl,this];simp[nN,hkk]
variable{r:s9}
theorem ae6(h:nR C)(hk:C[k]? =some (c,T))(hf:lN r):nR (Hz C k c T r).1∧(Hz C k c T r).1.map (·.1)=C.map (·.1):=by
 obtain⟨hkl,hke⟩:=ci.1 hk;have hT:=(h.at_ hk).2;have key:∀T',nH c T'→nR (C.set k (c,T'))∧(C.set k (c,T')).map (·.1)=C.map (·.1):=fun T' g=>by
  have h1:=h.set hkl (T:=T') (by rw[hke];exact g);rw[hke]at h1;refine⟨h1,?_⟩;rw[iJ];refine iO lV fun i hi hj=>?_;rw[eW];split
  ·subst_vars;simp[hke]
  rfl
 unfold Hz;split
 ·cases hn:qt c T r with
  |error e=>exact⟨h,rfl⟩
  |ok x=>exact key _ (T_ (T2:=x.1) (a:=x.2) hT hf hn).1.g
 cases ho:p6 c T r with
 |error e=>exact⟨h,rfl⟩
 |ok x=>exact key _ (ZT (T2:=x.1) (y:=x.2) hT hf ho).1
variable{x:Cu}
theorem Ia(h:nR C)(hf:lN r):nR (tW C x r).1∧(tW C x r).1.map (·.1)=C.map (·.1):=by
 unfold tW;split
 ·exact⟨h,rfl⟩
 split
 ·exact⟨h,rfl⟩
 rename_i c T he;split
 ·exact⟨h,rfl⟩
 split
 ·exact⟨h,rfl⟩
 exact ae6 h he hf
theorem ER(h:nR C)(hf:lN r):(tW C x r).1.length=C.length:=by
 have:=congrArg ez (Ia (x:=x) h hf).2;simpa using this
theorem Q7(a b id:Int):U (Kl a b id).1∧U (Kl a b id).2:=⟨Sp.Jk _ _ _,Sp.Jk _ _ _⟩
theorem nR.new{ka kb:Int}{l:List Pb}(hnd:l.Pairwise fun a b=>a.id≠b.id)(hb:∀x∈l,0≤x.budget∧x.budget≤1000000)(hu:∀x∈l,U x.id∧U x.life):nR (lE ka kb l):=by
 refine⟨fun x hx=>?_,fun x hx=>?_,?_⟩
 ·obtain⟨y,hy,rfl⟩:=dq.1 hx;exact⟨(hu y hy).1,(hb y hy).1,(hb y hy).2,(hu y hy).2,(Q7 _ _ _).1,(Q7 _ _ _).2⟩
 ·obtain⟨y,hy,rfl⟩:=dq.1 hx;exact nH.new _
 unfold lE;rw[List.pairwise_map];exact hnd.imp fun h=>h
theorem qh{id:Int}(hf:m6 C id=some k)(hk:C[k]? =some (c,T))(ho:1≤r.op∧r.op≤7):tW C ⟨id,3,0⟩ r=Hz C k c T r:=
 R6 hf hk ho (by
  show zZ 3 r.op=true;have:r.op=1∨r.op=2∨r.op=3∨r.op=4∨r.op=5∨r.op=6∨r.op=7:=jS;rcases this with e|e|e|e|e|e|e<;>rw[e]<;>decide)
structure SbX where
def bX:SbX:=⟨⟩
instance:CoeOut SbX Sk:=⟨fun _=>mF (nC 1) [⟨5,0⟩,⟨6,0⟩,⟨5,0⟩]⟩
def DV:s9:=⟨1,0,MD,⟨#[]⟩,1,[⟨5,0⟩,⟨6,0⟩,⟨5,0⟩],0,0,0,[]⟩
def xn:s9:=⟨2,0,⟨#[]⟩,MD,1,[],0,0,0,[]⟩
variable{n:Nat}
theorem U.nat(h:n≤18446744073709551615):U (n:Int):=⟨by show(0:Int)≤_;omega,by show(n:Int)≤18446744073709551615;omega⟩
theorem U.zero:U 0:=U.nat (n:=0) jS
theorem vU:lN DV:=⟨U.zero,B8,B8,B8,fun x hx=>by
 simp[DV]at hx;rcases hx with rfl|rfl|rfl
 ·exact⟨U.nat (n:=5) jS,U.zero⟩
 ·exact⟨U.nat (n:=6) jS,U.zero⟩
 exact⟨U.nat (n:=5) jS,U.zero⟩,U.zero,U.zero,U.zero,B8,fun x hx=>by simp[DV]at hx⟩
theorem vT:lN xn:=⟨U.zero,B8,B8,B8,fun x hx=>by simp[xn]at hx,U.zero,U.zero,U.zero,B8,fun x hx=>by simp[xn]at hx⟩
theorem WI: "query".toByteArray.size≤200:=TO
theorem WJ: "ingest".toByteArray.size≤200:=TO
theorem ar4: "grant".toByteArray.size≤200:=TO
theorem ar2: "revoke".toByteArray.size≤200:=TO
theorem Gf{h:Int}{s:Sk}(hG:nH c T)(hu:U now)(hn:T.tm≤now)(hm:kA (ko c T now).tb sc kind=.ok s)(hl:kO T.ll<18446744073709551615):∃b l,pM c T now sc kind h=.ok ({ko c T now with lb:=b,ll:=l},rt s h):=
 Wg (T2:=ko c T now) (a:=rt s h) hG hu hn (by show(kA (ko c T now).tb sc kind).map _=_;rw[hm];try rfl) rfl rfl rfl WI hl
variable{ps:List Nat}
theorem NT(hG:nH c T)(hu:U now)(hn:T.tm≤now)(ht:me c (ko c T now) labels kind items=.ok (T2,ps))(hl:kO T.ll<18446744073709551615):∃b l,nl c T now labels kind items=.ok ({T2 with lb:=b,ll:=l},ps):=by
 obtain⟨h1,h2,h3,_⟩:=zQ ht;exact Wg (T2:=T2) (a:=ps) hG hu hn ht h2 h1 h3 WJ hl
theorem Tw:∃C1 C2 C3 n,tW (lE 3 4 (m9 1000 9)) ⟨1,3,0⟩ DV=(C1,⟨0,n,[],[]⟩)∧tW C1 ⟨1,3,0⟩ xn=(C2,⟨0,2,[],[]⟩)∧tW C2 ⟨2,3,0⟩ xn=(C3,⟨0,0,[],[]⟩):=by
 obtain⟨c1,hc1⟩:∃c,c=qF 3 4 ⟨1,1000,9⟩:=⟨_,rfl⟩;obtain⟨c2,hc2⟩:∃c,c=qF 3 4 ⟨2,1000,9⟩:=⟨_,rfl⟩;have e0:lE 3 4 (m9 1000 9)=[(c1,newT),(c2,newT)]:=by rw[hc1,hc2];try rfl
 have i1:c1.id=1:=by rw[hc1];try rfl
 have i2:c2.id=2:=by rw[hc2];try rfl
 have b1:c1.budget=1000:=by rw[hc1];try rfl
 have l1:c1.life=9:=by rw[hc1];try rfl
 have f1:∀T U:kM,m6 [(c1,T),(c2,U)] 1=some 0:=fun T U=>by simp[m6,i1,jl]
 have f2:∀T U:kM,m6 [(c1,T),(c2,U)] 2=some 1:=fun T U=>by simp[m6,i1,i2,jl]
 rw[e0];have ab3:kJ [⟨O4,bX,0⟩]≤c1.budget:=by rw[b1];decide+kernel
 have ht:me c1 (ko c1 newT 0) MD 1 [⟨5,0⟩,⟨6,0⟩,⟨5,0⟩]=.ok ({ko c1 newT 0 with tb:=[⟨O4,bX,0⟩]},[]):=Pp (T:=ko c1 newT 0) rfl B8 Qg B8 ab3;obtain⟨b,l,hi⟩:=NT (nH.new c1) U.zero (by show(0:Int)≤0;omega) ht (by show(0:Int)<_;omega);have g1:=wy (nH.new c1) U.zero vU.iu hi;generalize hT1:({({ko c1 newT 0 with tb:=[⟨O4,bX,0⟩]}:kM)with lb:=b,ll:=l}:kM)=T1 at*
 have hb1:T1.tb=[⟨O4,bX,0⟩]:=by rw[←hT1]
 have hl1:kO T1.ll=1:=by rw[g1.1.last];try rfl
 have d1:tW [(c1,newT),(c2,newT)] ⟨1,3,0⟩ DV=([(c1,T1),(c2,newT)],⟨0,kJ T1.tb,[],[]⟩):=by
  rw[qh (f1 _ _) rfl B8];exact xR B8 (by show p6 c1 newT DV=_;unfold p6;rw[if_pos (show DV.op=1 from rfl)];show(nl c1 newT 0 MD 1 [⟨5,0⟩,⟨6,0⟩,⟨5,0⟩]).map _=_;rw[hi];try rfl)
 have ab4:(ko c1 T1 0).tb=[⟨O4,bX,0⟩]:=by
  show T1.tb.filter _=_;rw[hb1,l1];try rfl
 have hm1:kA (ko c1 T1 0).tb MD 1=.ok (mZ (nC 1) (bX)):=by
  rw[ab4];exact J0 FW Qr B8 TO
 obtain⟨b2,l2,hq⟩:=Gf (h:=0) g1.1.g U.zero (by rw[g1.1.tm];omega) hm1 (by rw[hl1];omega);have hask:rt (mZ (nC 1) (bX)) 0=2:=TO;rw[hask]at hq;generalize({ko c1 T1 0 with lb:=b2,ll:=l2}:kM)=T2 at*
 have d2:tW [(c1,T1),(c2,newT)] ⟨1,3,0⟩ xn=([(c1,T2),(c2,newT)],⟨0,2,[],[]⟩):=by
  rw[qh (f1 _ _) rfl B8];exact xR B8 (by show p6 c1 T1 xn=_;unfold p6;rw[if_neg B8,if_pos (show xn.op=2 from rfl)];show(pM c1 T1 0 MD 1 0).map _=_;rw[hq];try rfl)
 have hm2:kA (ko c2 newT 0).tb MD 1=.ok (nC 1):=J1 MD FW B8;obtain⟨b3,l3,hq3⟩:=Gf (h:=0) (nH.new c2) U.zero (by show(0:Int)≤0;omega) hm2 (by show(0:Int)<_;omega);have ac1:rt (nC 1) 0=0:=TO;rw[ac1]at hq3;generalize({ko c2 newT 0 with lb:=b3,ll:=l3}:kM)=T3 at*
 have d3:tW [(c1,T2),(c2,newT)] ⟨2,3,0⟩ xn=([(c1,T2),(c2,T3)],⟨0,0,[],[]⟩):=by
  rw[qh (f2 _ _) rfl B8];exact xR B8 (by show p6 c2 newT xn=_;unfold p6;rw[if_neg B8,if_pos (show xn.op=2 from rfl)];show(pM c2 newT 0 MD 1 0).map _=_;rw[hq3];try rfl)
 exact⟨_,_,_,_,d1,d2,d3⟩
instance:CoeOut (Cp 35) Obj:=⟨fun _=>(.cells #[.int .u64 5,.int .u64 0,.int .u64 6,.int .u64 0,.int .u64 5,.int .u64 0] 39)⟩
theorem nG.nil(X:Nat→Prop)(w:jC)(r:s9)(hi:r.items=[])(ht:r.jV=[]):nG X w ⟨r,none,0,none,0⟩:=
 ⟨⟨by rw[hi];exact Rd.none_,fun _ _ e=>LS⟩,⟨by rw[ht];exact Rd.none_,fun _ _ e=>LS⟩,by simp[hi],by simp[ht]⟩
variable{C':Col}{y:Rep}
theorem EP{V:jC}{cb:Nat}{bs:List (Nat×jH×List jD)}(hG:nR C)(I1:C.length≤100)(hf:lN m.r)(hw:4≤w.heap.size)(hT:Tb w)(hE:Er w)(hg:∀g∈G,w.heap.size≤g)(H:kj (·∈G) w V bs)(hC:kE (·∈G) V cb G ka kb C)(hbs:∀b∈bs,b.1∉G)(hM:nG (·∈G) V m)(hd:tW C x m.r=(C',y)):
 jE Tryz.prog 16 #[.pointer (aC cb),.agg (Ij x).toArray,.agg (uD m).toArray] V fun e W=>kj (·∈G) w W bs∧kE (·∈G) W cb G ka kb C'∧∃A k E k2,e=.returned (.agg #[.int .i64 y.e,.int .u64 y.n,.slice A y.notices.length k,.slice E y.entries.length k2])∧Rd W W.heap.size A (lC y.notices)∧Rd W W.heap.size E (y.entries.flatMap nE)∧(aX A V)∧(aX E V)∧Out (·∈G) V W:=by
 have hb:(bJ w V):=H.out.below (ay _) hg
 have hs:=H.size
 have Q:=MB (·∈G) cb G ka kb C x m hG I1 hf V jS (fun b hb=>hC.XJ hb) (hT.later hb) (hE.later hb) hC hM
 rw[hd]at Q
 refine Q.mono ?_
 rintro e W⟨ho,sZ,v,rfl,A,k,E,k2,rfl,⟨h1,h2⟩,h3,h4⟩
 exact⟨H.wP ho (fun k e=>.inl e) hbs,sZ,A,k,E,k2,rfl,h1,h3,h2,h4,ho⟩
theorem CC(w:jC)(hw:4≤w.heap.size)(hT:Tb w)(hE:Er w):jE Tryz.prog 7 #[] w fun e w'=>e=.returned (.bool true)∧(bJ w w'):=by
 obtain⟨C1,C2,C3,n,d1,d2,d3⟩:=Tw;have g0:nR (lE 3 4 (m9 1000 9)):=nR.new (vR _ _) (fun x hx=>by simp[m9]at hx;rcases hx with rfl|rfl<;>decide) (fun x hx=>⟨zL _ _ x hx,by simp[m9]at hx;rcases hx with rfl|rfl<;>exact U.nat (n:=9) jS⟩);have g1:=(Ia (x:=⟨1,3,0⟩) g0 vU).1;have c1:=ER (x:=⟨1,3,0⟩) g0 vU;rw[d1]at g1 c1;have g2:=(Ia (x:=⟨1,3,0⟩) g1 vT).1;have c2:=ER (x:=⟨1,3,0⟩) g1 vT;rw[d2]at g2 c2;have c0:(lE 3 4 (m9 1000 9)).length=2:=rfl;have HT:=ah hT;have HE:=ah hE;have HD1:=ah d1;have HD2:=ah d2;have HD3:=ah d3;have HG0:=ah g0;have DH:=ah g1;have HG2:=ah g2;have yT:Hid (C1.length≤100∧C2.length≤100∧(lE 3 4 (m9 1000 9)).length≤100):=by simp only at c1 c2;exact⟨jS,jS,jS⟩
 clear d1 d2 d3 g0 g1 g2 c0 c1 c2 hT hE;generalize hC0:lE 3 4 (m9 1000 9)=C0 at*
 go_in;go_wp2_with fail;refine(two_any 1000 9 w).mono ?_;rintro e w1⟨rfl,rfl⟩;go_wp2_with fail;have hba:=jP (jQ w) (.cells #[jK 1,jJ 1000,jK 9,jK 2,jJ 1000,jK 9] 63);refine(Sa 3 4 _ (m9 1000 9) 2 B8 B8 (vR _ _) (fun x hx=>by simp[m9]at hx;rcases hx with rfl|rfl<;>decide) (zL _ _) _ (by have:=hba.size;omega) (Jb 1000 9 w)).mono ?_;rintro e w2⟨hb2,cb,G,rfl,sZ,hG⟩;rw[hC0]at sZ;clear hC0;have hb0:(bJ w w2):=hba.trans (hb2.mono hba.size);have YG:Hid ((∀g∈G,w.heap.size≤g)∧∀g∈G,g<w2.heap.size):=⟨fun g hg=>by have:=hG g hg;have:=hba.size;omega,fun g hg=>sZ.XJ hg⟩;have HV:=ah ((kj.nil (·∈G) w).call hb0);have Lv:=ah sZ;clear hb2 sZ hG hba hb0;go_wp2_with fail;refine(nK 1 w2).mono ?_;rintro e w3⟨rfl,hb3⟩;replace HV:=ah (HV.call hb3);replace Lv:=ah (Lv.later hb3);have hz3:=hb3.size;clear hb3;have HA:=ah (HV.al (rO 35));have HCA:=ah (Lv.later (jP (jQ w3) (rO 35)));have Zq:Hid (nG (·∈G) (w3.alloc (rO 35)) ⟨DV,some (lz 43 w3),3,none,0⟩):=
  ⟨⟨tY (jR.new w3 _ _),fun _ ad e hm=>by cases e;have:=YG.2 _ hm;simp only at this;omega⟩,⟨Rd.none_,fun _ _ e=>LS⟩,ay 3,ay 0⟩
 go_wp2_with fail;refine(EP (x:=⟨1,3,0⟩) (m:=⟨DV,some (lz 43 w3),3,none,0⟩) HG0 yT.2.2 vU hw HT HE YG.1 HA HCA (fun b hb=>by cases hb) Zq HD1).mono ?_;rintro e w4⟨h4,hc4,A1,k1,E1,l1,rfl,-,-,-,-,Mg⟩;have Rg:=Mg.size;have aR6:w3.heap.size≤w4.heap.size:=by simp at Rg;omega
 have HV4:=ah (h4.alloc w4 55 [jJ 0,jK n,.slice A1 0 k1,.slice E1 0 l1]);have HC4:=ah (hc4.later (jP (jQ w4) (.cells #[jJ 0,jK n,.slice A1 0 k1,.slice E1 0 l1] 55)));simp only[dp];clear h4 hc4 Mg Zq HA HCA HV Lv Rg;go_wp2_with fail;refine kq (fun V=>kE (·∈G) V cb G 3 4 C1) HV4 HC4 (fun V5 H5 hc5=>?_);clear HV4 HC4;refine(nK 1 V5).mono ?_;rintro e w6⟨rfl,hb6⟩;replace H5:=ah (H5.call hb6);have Vz:=ah (hc5.later hb6);clear hc5 hb6;go_wp2_with fail;refine(EP (x:=⟨1,3,0⟩) (m:=⟨xn,none,0,none,0⟩) DH yT.1 vT hw HT HE YG.1 H5 Vz (fun b hb hm=>by simp at hb;subst hb;have:=YG.2 _ hm;simp only at this;omega) (nG.nil _ _ _ rfl rfl) HD2).mono ?_;rintro e w7⟨h7,hc7,A2,k2,E2,l2,rfl,-,-,-,-,ho7⟩;have hz7:w4.heap.size<w7.heap.size:=(h7.blk _ ab).2.lt;have Vk:=ah (h7.alloc w7 55 [jJ 0,jK 2,.slice A2 0 k2,.slice E2 0 l2]);have Wz:=ah (hc7.later (jP (jQ w7) (.cells #[jJ 0,jK 2,.slice A2 0 k2,.slice E2 0 l2] 55)));simp only[dp];clear h7 hc7 ho7 H5 Vz;go_wp2_with fail;refine kq (fun V=>kE (·∈G) V cb G 3 4 C2) Vk Wz (fun V8 H8 hc8=>?_);clear Vk Wz;refine(nK 2 V8).mono ?_;rintro e w9⟨rfl,nu⟩;replace H8:=ah (H8.call nu);have HC9:=ah (hc8.later nu);clear hc8 nu;go_wp2_with fail;refine(EP (x:=⟨2,3,0⟩) (m:=⟨xn,none,0,none,0⟩) HG2 yT.2.1 vT hw HT HE YG.1 H8 HC9 (fun b hb hm=>by simp at hb;rcases hb with rfl|rfl<;>(have:=YG.2 _ hm;simp only at this;omega)) (nG.nil _ _ _ rfl rfl) HD3).mono ?_;rintro e w10⟨h10,au9,A3,k3,E3,l3,rfl,-,-,-,-,au2⟩;have aA3:=ah (h10.alloc w10 55 [jJ 0,jK 0,.slice A3 0 k3,.slice E3 0 l3]);have x:=fk (h10.facts);simp only[dp];clear h10 au9 au2 H8 HC9;go_wp2;go_ret;exact⟨rfl,aA3.out.out.below aa YG.1⟩
instance(x0:ActM):CoeOut (sH 2 x0) (Array jD):=⟨fun _=>#[.int .u64 x0.x.oK,.int .i64 x0.x.role,.int .u64 x0.x.YR,.int .i64 (lu x0.m.r).op,.int .u64 (lu x0.m.r).now,.string (lu x0.m.r).labels,.string (lu x0.m.r).scope,.int .i64 (lu x0.m.r).kind,.slice x0.m.ia (lu x0.m.r).items.length x0.m.ic,.int .u64 (lu x0.m.r).h,.int .u64 (lu x0.m.r).to,.int .u64 (lu x0.m.r).id,.slice x0.m.ta (lu x0.m.r).jV.length x0.m.tc]⟩
theorem Tryz.Rc:(Tryz.prog.info? 37).map (fun i=>(i.zero,i.size,i.bytes))=some (some (.agg #[.int .u64 0,.int .i64 0,.int .u64 0,.int .i64 0,.int .u64 0,.string (jf #[]),.string (jf #[]),.int .i64 0,.slice none 0 0,.int .u64 0,.int .u64 0,.int .u64 0,.slice none 0 0]),13,152):=oo
def sQ(a:ActM):ActM:=⟨a.x,KH a.m⟩
theorem Sy(a:ActM):∀u∈xY a,u.oneCell'=true:=fun u hu=>by
 simp only[xY,Ij,uD,dj,dz,cw,List.not_mem_nil,or_false]at hu;rcases hu with rfl|rfl|rfl|rfl|rfl|rfl|rfl|rfl|rfl|rfl|rfl|rfl|rfl<;>rfl
def YM(w:jC)(l:List ActM)(n:Nat)(e:bi6)(w':jC):Prop:=(bJ w w')∧∃A c,e=.returned (.slice A ((l.take n).map sQ).length c)∧Rd w' w'.heap.size A (((l.take n).map sQ).flatMap xY)∧(aX A w)
theorem RT(A:Option jG)(l:List ActM)(cap n:Nat)(hl:l.length≤maxLen)(hn:n≤1000)(hr:∀a∈l,ReqRaw a.m∧a.m.r.items.length≤a.m.ic∧a.m.r.jV.length≤a.m.tc)(w:jC)(hS:Rd w w.heap.size A (l.flatMap xY)):
 jE Tryz.prog 8 #[.slice A l.length cap,.int .i64 n] w (YM w l n):=by
 obtain⟨t0,ht0,tz0,tz1,tz2⟩:=bi5 Tryz.Rc
 have HS:=ah hS
 have HR:=ah hr
 have HB0:=ah (jQ w)
 have hl':l.length≤9223372036854775807:=by unfold maxLen at hl;omega
 clear hS hr hl
 go_in
 go_wp2_with fail
 go_loopw[5,6] (fun v i wr=>∃(k:Nat)(A2:Option jG)(c2:Nat),i=(aJ k)∧v=.slice A2 k c2∧k≤l.length∧k≤n∧Hid (wr.ownsRow w 37 13 (.slice A2 k c2) k (((l.take k).map sQ).flatMap xY))∧Hid (bJ w wr)) (fun _ i _=>l.length-(av i).toNat)
 case atStart=>exact⟨0,none,0,rfl,rfl,be _,be _,dY _ _ _ _,HB0⟩
 clear HB0
 obtain⟨k,A2,c2,rfl,rfl,hk,hkn,HO,HB⟩:=hrel
 by_cases h1:k<l.length
 ·by_cases h2:k<n
  ·have d1:decide ((k:Int)<l.length)=true:=ae;have d2:decide ((k:Int)<n)=true:=ae;obtain⟨b,off,rfl,hb,hc⟩:=oP (n:=13) Bt B8 HS jS;have hs0:=HB.size;have hbw:b<wr.heap.size:=jS;have Fi:Hid (l.take (k+1)=l.take k++[l[k]]):=aj h1;have HXR:=ah (HR _ (ar h1));have xO:(0:Int)≤k:=jS;have xN:(k:Int)<l.length:=jS;have JS:Hid (∀W,(bJ w W)→W.cell? ⟨b,off+k*13,none⟩=some (.int .u64 l[k].x.oK)∧W.cell? ⟨b,off+k*13+1,none⟩=some (.int .i64 l[k].x.role)∧W.cell? ⟨b,off+k*13+2,none⟩=some (.int .u64 l[k].x.YR)∧W.cell? ⟨b,off+k*13+3,none⟩=some (.int .i64 l[k].m.r.op)∧W.cell? ⟨b,off+k*13+4,none⟩=some (.int .u64 l[k].m.r.now)∧W.cell? ⟨b,off+k*13+5,none⟩=some (.string l[k].m.r.labels)∧W.cell? ⟨b,off+k*13+6,none⟩=some (.string l[k].m.r.scope)∧W.cell? ⟨b,off+k*13+7,none⟩=some (.int .i64 l[k].m.r.kind)∧W.cell? ⟨b,off+k*13+8,none⟩=some (.slice l[k].m.ia l[k].m.r.items.length l[k].m.ic)∧W.cell? ⟨b,off+k*13+9,none⟩=some (.int .u64 l[k].m.r.h)∧W.cell? ⟨b,off+k*13+10,none⟩=some (.int .u64 l[k].m.r.to)∧W.cell? ⟨b,off+k*13+11,none⟩=some (.int .u64 l[k].m.r.id)∧W.cell? ⟨b,off+k*13+12,none⟩=some (.slice l[k].m.ta l[k].m.r.jV.length l[k].m.tc)):=fun W hW=>⟨(hW.cell (p:=⟨b,off+k*13+0,none⟩) hb).trans (hc k h1 0 _ B8 rfl),(hW.cell (p:=⟨b,off+k*13+1,none⟩) hb).trans (hc k h1 1 _ B8 rfl),(hW.cell (p:=⟨b,off+k*13+2,none⟩) hb).trans (hc k h1 2 _ B8 rfl),(hW.cell (p:=⟨b,off+k*13+3,none⟩) hb).trans (hc k h1 3 _ B8 rfl),(hW.cell (p:=⟨b,off+k*13+4,none⟩) hb).trans (hc k h1 4 _ B8 rfl),(hW.cell (p:=⟨b,off+k*13+5,none⟩) hb).trans (hc k h1 5 _ B8 rfl),(hW.cell (p:=⟨b,off+k*13+6,none⟩) hb).trans (hc k h1 6 _ B8 rfl),(hW.cell (p:=⟨b,off+k*13+7,none⟩) hb).trans (hc k h1 7 _ B8 rfl),(hW.cell (p:=⟨b,off+k*13+8,none⟩) hb).trans (hc k h1 8 _ B8 rfl),(hW.cell (p:=⟨b,off+k*13+9,none⟩) hb).trans (hc k h1 9 _ B8 rfl),(hW.cell (p:=⟨b,off+k*13+10,none⟩) hb).trans (hc k h1 10 _ B8 rfl),(hW.cell (p:=⟨b,off+k*13+11,none⟩) hb).trans (hc k h1 11 _ B8 rfl),(hW.cell (p:=⟨b,off+k*13+12,none⟩) hb).trans (hc k h1 12 _ B8 rfl)⟩;clear hc;generalize l[k]=a0 at*
   have al8:Hid (∀W,jE Tryz.prog 17 #[.agg (uD a0.m).toArray] W fun e w'=>e=.returned (.agg (uD (KH a0.m)).toArray)∧(bJ W w')):=fun W=>Do a0.m HXR.1 HXR.2.1 HXR.2.2 W;simp only[uD,KH]at al8;obtain⟨i0,i1,i2,i3,i4,i5,i6,i7,i8,i9,i10,i11,i12⟩:=JS _ HB;go_wp2;refine bi1 (S:=(fun w'=>w'.cell? ⟨b,off+k*13,none⟩=some (.int .u64 a0.x.oK)∧w'.cell? ⟨b,off+k*13+1,none⟩=some (.int .i64 a0.x.role)∧w'.cell? ⟨b,off+k*13+2,none⟩=some (.int .u64 a0.x.YR)∧w'.cell? ⟨b,off+k*13+3,none⟩=some (.int .i64 a0.m.r.op)∧w'.cell? ⟨b,off+k*13+4,none⟩=some (.int .u64 a0.m.r.now)∧w'.cell? ⟨b,off+k*13+5,none⟩=some (.string a0.m.r.labels)∧w'.cell? ⟨b,off+k*13+6,none⟩=some (.string a0.m.r.scope)∧w'.cell? ⟨b,off+k*13+7,none⟩=some (.int .i64 a0.m.r.kind)∧w'.cell? ⟨b,off+k*13+8,none⟩=some (.slice a0.m.ia a0.m.r.items.length a0.m.ic)∧w'.cell? ⟨b,off+k*13+9,none⟩=some (.int .u64 a0.m.r.h)∧w'.cell? ⟨b,off+k*13+10,none⟩=some (.int .u64 a0.m.r.to)∧w'.cell? ⟨b,off+k*13+11,none⟩=some (.int .u64 a0.m.r.id)∧w'.cell? ⟨b,off+k*13+12,none⟩=some (.slice a0.m.ta a0.m.r.jV.length a0.m.tc))) oo ⟨i0,i1,i2,i3,i4,i5,i6,i7,i8,i9,i10,i11,i12⟩ (fun hHeld=>?_);refine re hHeld ?_;have HB1:Hid (Below w w wr.drew):=HB.drew;have xe:Hid (wr.drew.ownsRow w 37 13 (.slice A2 k c2) k (((l.take k).map sQ).flatMap xY)):=lf HO (Below.refl _ wr).drew;refine pL 11 fun K hK=>?_;go_simp;refine(al8 _).mono ?_;rintro e w3⟨rfl,hb3⟩;have HB3:Hid (bJ w w3):=HB1.trans (hb3.mono HB1.size);have w_:=ah (lf xe hb3);clear hb3 HB1 xe i0 i1 i2 i3 i4 i5 i6 i7 i8 i9 i10 i11 i12;obtain⟨i0,i1,i2,i3,i4,i5,i6,i7,i8,i9,i10,i11,i12⟩:=JS _ HB3;refine hK.out _ _ ⟨i0,i1,i2,i3,i4,i5,i6,i7,i8,i9,i10,i11,i12⟩ (fun hHeld=>?_);clear hK K;refine az ?_;refine re hHeld ?_;refine pL 13 fun K hK=>?_;go_simp;have HX4:=ah (jR.new w3 37 (lz 2 a0));have HB4:Hid (Below w w (w3.alloc (.cells (lz 2 a0) 37))):=jP HB3 _;have IS:Hid ((w3.alloc (.cells (lz 2 a0) 37)).ownsRow w 37 13 (.slice A2 k c2) k (((l.take k).map sQ).flatMap xY)):=w_.alloc _;have Rg:(w3.alloc (.cells (lz 2 a0) 37)).heap.size=w3.heap.size+1:=lV;clear HB3 w_ i0 i1 i2 i3 i4 i5 i6 i7 i8 i9 i10 i11 i12;generalize w3.alloc (.cells (lz 2 a0) 37)=w4 at*
   obtain⟨i0,i1,i2,i3,i4,i5,i6,i7,i8,i9,i10,i11,i12⟩:=JS _ HB4;refine hK.out _ _ ⟨i0,i1,i2,i3,i4,i5,i6,i7,i8,i9,i10,i11,i12⟩ (fun hHeld=>?_);clear hK K;refine az ?_;refine pL 14 fun K hK=>?_;have hwz:w.heap.size≤w4.heap.size:=HB4.size;refine ti rfl (.tmp 18) (.tmp 31) 25 rfl w 37 t0 _ 13 152 Tryz.underlying25 ht0 tz0 tz1 tz2 rfl B8 (.slice A2 k c2) k _ rfl IS w4 (some (lz 43 w3)) 1 1 [jK a0.x.oK,jJ a0.x.role,jK a0.x.YR,jJ (lu a0.m.r).op,jK (lu a0.m.r).now,jL (lu a0.m.r).labels,jL (lu a0.m.r).scope,jJ (lu a0.m.r).kind,.slice a0.m.ia (lu a0.m.r).items.length a0.m.ic,jK (lu a0.m.r).h,jK (lu a0.m.r).to,jK (lu a0.m.r).id,.slice a0.m.ta (lu a0.m.r).jV.length a0.m.tc] rfl lV (tY HX4) (Sy (sQ a0)) O0 jS jS ?_;intro A3 c3 w8 hown hgrow hv;have SM:=ah hown;have BI:Hid (bJ w w8):=HB4.grown hgrow HB4.size (fun r e=>(pf IS r e).1);clear hown hgrow hv HB4 IS i0 i1 i2 i3 i4 i5 i6 i7 i8 i9 i10 i11 i12;obtain⟨i0,i1,i2,i3,i4,i5,i6,i7,i8,i9,i10,i11,i12⟩:=JS _ BI;refine hK.out _ _ ⟨i0,i1,i2,i3,i4,i5,i6,i7,i8,i9,i10,i11,i12⟩ (fun hHeld=>?_);clear hK K;refine az ?_;refine re hHeld ?_;refine hdn ?_;clear hHeld;clear i0 i1 i2 i3 i4 i5 i6 i7 i8 i9 i10 i11 i12;go_wp2;go_roundw
   case rel=>
    refine⟨k+1,A3,c3,CJ,CJ,jS,jS,?_,BI⟩;show gX _ _ _ _ _ _ _;rw[Fi,dH,eZ];exact SM
   exact No
  have d1:decide ((k:Int)<l.length)=true:=ae;have d2:decide ((k:Int)<n)=false:=ag;have hkk:k=n:=jS;go_wp2;go_ret;refine⟨HB,A2,c2,?_,?_,?_⟩
  ·have:((l.take n).map sQ).length=k:=by rw[ax,cv];omega
   rw[this];subst hkk;rfl
  ·rw[←hkk];exact Rd.own HO
  intro ad e;exact(by obtain⟨_,_,e9,_,_,h9⟩:=li HO;cases e9;exact h9 ad e)
 have hkl:k=l.length:=jS
 have d1:decide ((k:Int)<l.length)=false:=ag
 go_wp2
 go_ret
 have e9:l.take n=l.take k:=by rw[cl jS,cl jS]
 refine⟨HB,A2,c2,?_,?_,?_⟩
 ·have:((l.take n).map sQ).length=k:=by rw[ax,cv];omega
  rw[this];rfl
 ·rw[e9];exact Rd.own HO
 intro ad e;exact(by obtain⟨_,_,e9,_,_,h9⟩:=li HO;cases e9;exact h9 ad e)
def yW(id:Int):Cu:=⟨id,3,0⟩
theorem R3(h:nR C)(hf:lN r)(e:tW C x r=(C',y)):nR C'∧C'.map (·.1)=C.map (·.1)∧C'.length=C.length:=by
 have h1:=Ia (x:=x) h hf;have h2:=ER (x:=x) h hf;rw[e]at h1 h2;exact⟨h1.1,h1.2,h2⟩
variable{er:Int}
theorem ah4(h3:r.op=3)(h:qt c T r=.error er):Hz C k c T r=(C,uJ er):=by unfold Hz;rw[if_pos h3,h]
theorem ai0{T':kM}{u:Unit}(h3:r.op=3)(h:qt c T r=.ok (T',u)):Hz C k c T r=(C.set k (c,T'),⟨0,rt (vm (C.set k (c,T')) c.id r.scope r.kind r.jV) r.h,[],[]⟩):=by unfold Hz;rw[if_pos h3,h]
structure IQ(X:Nat→Prop)(w:jC)(v:jD)(r:Rep):Prop where
 at_:∃A k E k2,v=.agg #[.int .i64 r.e,.int .u64 r.n,.slice A r.notices.length k,.slice E r.entries.length k2]∧pO X w A (lC r.notices)∧pO X w E (r.entries.flatMap nE)
def VZ(R:gG→gG→jC→Prop)(a:gG):bk7→gG→jC→Prop:=fun e a' w'=>match e with|.normal=>R a a' w'|_=>False
theorem AH{R:gG→gG→jC→Prop}{a':gG}{w':jC}(h:R a a' w'):VZ R a .normal a' w':=h
theorem D6{P:bi3}{c:bk9}(R:gG→gG→jC→Prop)(h1:c.wp P (VZ R a) a w)(h2:∀a' w',R a a' w'→Q .normal a' w'):c.wp P Q a w:=
 jg (fun e a' w' h=>by cases e<;>first|exact h2 a' w' h|exact h.elim) h1
variable{b:Nat×jH×List jD}
theorem kj.am1{w0:jC}{bs:List (Nat×jH×List jD)}(h:kj X w0 w (b::bs)):kj X w0 w bs:=⟨h.out,fun c hc=>h.blk c (dS _ hc),(b6.1 h.apart).2⟩
structure aj8(m:ReqM) where
def ad3(m:ReqM):aj8 m:=⟨⟩
instance(m:ReqM):CoeOut (aj8 m) (List jD):=⟨fun _=>[.int .i64 m.r.op,.int .u64 m.r.now,.string m.r.labels,.string m.r.scope,.int .i64 m.r.kind,.slice m.ia m.r.items.length m.ic,.int .u64 m.r.h,.int .u64 m.r.to,.int .u64 m.r.id,.slice m.ta m.r.jV.length m.tc]⟩
structure aj9(m:ReqM) where
def ai5(m:ReqM):aj9 m:=⟨⟩
instance(m:ReqM):CoeOut (aj9 m) (Array jD):=⟨fun _=>#[.int .i64 m.r.op,.int .u64 m.r.now,.string m.r.labels,.string m.r.scope,.int .i64 m.r.kind,.slice m.ia m.r.items.length m.ic,.int .u64 m.r.h,.int .u64 m.r.to,.int .u64 m.r.id,.slice m.ta m.r.jV.length m.tc]⟩
structure aj0(y:Rep)(N:Option jG)(i:Nat)(E:Option jG)(j:Nat) where
def ac9(y:Rep)(N:Option jG)(i:Nat)(E:Option jG)(j:Nat):aj0 y N i E j:=⟨⟩
instance(y:Rep)(N:Option jG)(i:Nat)(E:Option jG)(j:Nat):CoeOut (aj0 y N i E j) (List jD):=⟨fun _=>[.int .i64 y.e,.int .u64 y.n,.slice N y.notices.length i,.slice E y.entries.length j]⟩
structure ai9 where
def af4:ai9:=⟨⟩
instance:CoeOut ai9 (List jD):=⟨fun _=>[.int .i64 0,.int .u64 0,.slice none 0 0,.slice none 0 0]⟩
section
variable{P:bi3}{ops:Array bk0}{Q:bk7→gG→jC→Prop}{md:fD}{S:jC→Prop}
variable{v:jD}{fuel:Nat}{l:Array Bool}
theorem tk3{oi:bk0}{a':gG}(i:Nat)(hS:S w)(h:wpAnyH P md ops Q S fuel (l.setIfInBounds i true) a' w)
 (hg:ZH md ops l i=true:=by decide+kernel)
 (hi:ops[i]? =some oi:=by exact rfl)
 (hQ:∀c a w,Q (.panic c) (a.put oi.dst v) w→Q (.panic c) a w:=by exact fun _ _ _ h=>h)
 (hy:eQ oi (yielded ops a.tmps)=true∧∀w,S w→(execOp a.eval oi).run P w=.ok (.value v) w:=by(refine⟨by rfl,?_⟩;intro w hSw;(try dsimp only at hSw);(try simp only[kz,au,ao,and_true]at hSw);(repeat obtain⟨_,hSw⟩:=hSw);go_simp<;>with_reducible rfl))
 (ea:a.put oi.dst v=a':=by((try simp only[gL,eK,ej,dQ,bd,ak,am]);rfl)):
 wpAnyH P md ops Q S (fuel+1) l a w:=by
 subst ea
 exact bk5 hi (rY hg).1 (rY hg).2.1 (rY hg).2.2 hQ (ge hy) hS h
theorem tkc{q:Prop}(hS:S w)(h:q)(e:S w→q→wpAnyH P md ops Q S fuel l a w:=by
 (
  intro hs hq
  (try refine tk3 0 hs ?_);(try refine tk3 1 hs ?_);(try refine tk3 2 hs ?_);(try refine tk3 3 hs ?_);(try refine tk3 4 hs ?_);(try refine tk3 5 hs ?_);(try refine tk3 6 hs ?_);(try refine tk3 7 hs ?_);(try refine tk3 8 hs ?_);(try refine tk3 9 hs ?_);(try refine tk3 10 hs ?_);(try refine tk3 13 hs ?_)
  exact hq)):wpAnyH P md ops Q S fuel l a w:=e hS h
end
abbrev Lay:=List (Nat×List Nat)
abbrev Bks:=List (Nat×jH×List jD)
def InG(L:Lay)(b:Nat):Prop:=∃q∈L,b∈q.2
def Bar(L:Lay)(bs:Bks)(b:Nat):Prop:=InG L b∨∃x∈bs,x.1=b
structure k9(w:jC)(ka kb:Int)(L:Lay)(V:jC)(ml:List Col)(bs:Bks):Prop where
 H:kj (InG L) w V bs
 col:∀(k:Nat)(q:Nat×List Nat)(C:Col),L[k]? =some q→ml[k]? =some C→kE (Bar L bs) V q.1 q.2 ka kb C
 E9:∀x∈bs,¬InG L x.1
 gw:∀b,InG L b→w.heap.size≤b∧b<V.heap.size
 T9:L.Pairwise fun p q=>∀g∈p.2,g∉q.2
section
variable{w V W:jC}{ka kb:Int}{L:Lay}{ml:List Col}{bs bs':Bks}{C C':Col}{cb:Nat}{G:List Nat}{P:bi3}{a:gG}
theorem k9.below(h:k9 w ka kb L V ml bs):Below w.heap.size w V:=h.H.out.below (ay _) fun b hb=>(h.gw b hb).1
theorem k9.bar(h:k9 w ka kb L V ml bs){b:Nat}(hb:Bar L bs b):w.heap.size≤b∧b<V.heap.size:=hb.elim (h.gw b) fun⟨x,hx,e⟩=>by
 have q:=h.H.blk x hx;exact⟨q.1.elim (fun z=>e▸(h.gw _ z).1) (fun z=>e▸z),e▸q.2.lt⟩
theorem k9.call(h:k9 w ka kb L V ml bs)(hb:Below V.heap.size V W):k9 w ka kb L W ml bs:=
 ⟨h.H.call hb,fun k q C e1 e2=>(h.col k q C e1 e2).later hb,h.E9,fun b hb'=>⟨(h.gw b hb').1,by have:=(h.gw b hb').2;have:=hb.size;omega⟩,h.T9⟩
theorem k9.drew(h:k9 w ka kb L V ml bs):k9 w ka kb L V.drew ml bs:=h.call (Below.refl _ V).drew
theorem k9.al(h:k9 w ka kb L V ml bs)(o:Obj):k9 w ka kb L (V.alloc o) ml bs:=h.call (jP (jQ V) o)
theorem k9.alloc(h:k9 w ka kb L V ml bs)(g:Nat)(t:TypeId)(cs:List Value)(hg:g=V.heap.size:=by simp):k9 w ka kb L (V.alloc (.cells cs.toArray t)) ml ((g,t,cs)::bs):=by
 subst hg;refine⟨h.H.alloc _ t cs rfl,fun k q C e1 e2=>?_,fun x hx=>?_,fun b hb=>?_,h.T9⟩
 ·refine((h.col k q C e1 e2).wide (Y:=Bar L ((V.heap.size,t,cs)::bs)) (fun b hb=>hb.elim (fun z=>.inl (.inl z)) fun⟨x,hx,e⟩=>?_) (fun g hg=>.inl ⟨q,cm e1,hg⟩)).later (jP (jQ V) _);rcases cw.1 hx with rfl|hx
  ·exact .inr (by simp only at e;omega)
  exact .inl (.inr ⟨x,hx,e⟩)
 ·rcases cw.1 hx with rfl|hx
  ·intro z;have:=(h.gw _ z).2;simp only at this;omega
  exact h.E9 x hx
 have:=h.gw b hb;exact⟨this.1,by simp;omega⟩
theorem k9.tail(h:k9 w ka kb L V ml (b::bs)):k9 w ka kb L V ml bs:=
 ⟨h.H.am1,fun k q C e1 e2=>(h.col k q C e1 e2).narrow (fun b hb=>hb.imp id fun⟨x,hx,e⟩=>⟨x,dS _ hx,e⟩) (fun g hg=>.inl ⟨q,cm e1,hg⟩),fun x hx=>h.E9 x (dS _ hx),h.gw,h.T9⟩
variable{g:Nat}
theorem k9.wr(h:k9 w ka kb L V ml bs)(H:kj (InG L) w W bs')(ho:Out (·=g) V W)(hg:∃x∈bs,x.1=g)(hm:∀b,(∃x∈bs',x.1=b)→∃x∈bs,x.1=b):k9 w ka kb L W ml bs':=by
 have hn:¬InG L g:=fun z=>by obtain⟨x,hx,e⟩:=hg;exact h.E9 x hx (e▸z)
 refine⟨H,fun k q C e1 e2=>?_,fun x hx z=>?_,fun b hb=>⟨(h.gw b hb).1,by have:=(h.gw b hb).2;have:=ho.size;omega⟩,h.T9⟩
 ·exact((h.col k q C e1 e2).out ho (fun b hb=>⟨.inr (by rw[hb];exact hg),fun z=>hn ⟨q,cm e1,by rw[←hb];exact z⟩⟩)).narrow (fun b hb=>hb.imp id (hm b)) (fun g hg=>.inl ⟨q,cm e1,hg⟩)
 obtain⟨y,hy,e⟩:=hm x.1 ⟨x,hx,rfl⟩;exact h.E9 y hy (by rw[e];exact z)
variable{t:jH}{cs:List jD}
theorem ah3{b:Nat}{ds:List jD}(e:bs[k]? =some (g,t,cs)):(∃x∈bs.set k (g,t,ds),x.1=b)→∃x∈bs,x.1=b:=fun⟨x,hx,e2⟩=>by
 rcases dO hx with hx|rfl
 ·exact⟨x,hx,e2⟩
 exact⟨_,cm e,e2⟩
theorem k9.all(h:k9 w ka kb L V ml bs)(k:Nat)(vs:List Value){g:Nat}{t:TypeId}{cs:List Value}(e:bs[k]? =some (g,t,cs):=by rfl)(hl:vs.length=cs.length:=by rfl):k9 w ka kb L (lp V g 0 vs) ml (bs.set k (g,t,vs)):=
 h.wr (h.H.all k vs e hl) (Out.lp (X:=(·=g)) (g:=g) (.inl rfl) vs 0 (Out.refl _ V)) ⟨_,cm e,rfl⟩ fun b=>ah3 e
theorem k9.nil(H:kj (InG []) w V bs):k9 w ka kb [] V [] bs:=⟨H,fun k q C e _=>by simp at e,fun x _⟨q,hq,_⟩=>(by cases hq),fun b⟨q,hq,_⟩=>(by cases hq),List.Pairwise.nil⟩
theorem k9.an9(h:k9 w ka kb L V ml bs)(hb:Below V.heap.size V W)(hc:∀X:Nat→Prop,(∀b,X b→b∈G∨b<V.heap.size)→(∀g∈G,X g)→kE X W cb G ka kb C)(hG:∀g∈G,V.heap.size≤g):k9 w ka kb ((cb,G)::L) W (C::ml) bs:=by
 have hi:∀{b},InG L b→InG ((cb,G)::L) b:=fun⟨q,hq,z⟩=>⟨q,dS _ hq,z⟩;have sZ:kE (Bar ((cb,G)::L) bs) W cb G ka kb C:=hc _ (fun b hb=>by
  rcases hb with⟨q,hq,hb⟩|hb
  ·rcases cw.1 hq with rfl|hq
   ·exact .inl hb
   exact .inr (h.gw b ⟨q,hq,hb⟩).2
  exact .inr (h.bar (.inr hb)).2) fun g hg=>.inl ⟨_,di ..,hg⟩
 refine⟨⟨(h.H.call hb).out.mono fun k _ hk=>hi hk,fun b hm=>⟨((h.H.call hb).blk b hm).1.imp hi id,((h.H.call hb).blk b hm).2⟩,h.H.apart⟩,fun k q C' e1 e2=>?_,fun x hx=>?_,fun b hb'=>?_,b6.2 ⟨fun q hq g hg hg'=>by have:=hG g hg;have:=(h.gw g ⟨q,hq,hg'⟩).2;omega,h.T9⟩⟩
 ·cases k with
  |zero=>cases e1;cases e2;exact sZ
  |succ k=>
   refine((h.col k q C' e1 e2).wide (fun b hb=>?_) (fun g hg=>.inl ⟨q,cm e1,hg⟩)).later hb;rcases hb with⟨p,hp,hb⟩|hb
   ·rcases cw.1 hp with rfl|hp
    ·exact .inr (hG b hb)
    exact .inl (.inl ⟨p,hp,hb⟩)
   exact .inl (.inr hb)
 ·rintro⟨q,hq,hb'⟩;rcases cw.1 hq with rfl|hq
  ·have:=hG _ hb';have:=(h.H.blk x hx).2.lt;omega
  exact h.E9 x hx ⟨q,hq,hb'⟩
 obtain⟨q,hq,hb'⟩:=hb';rcases cw.1 hq with rfl|hq
 ·exact⟨by have:=hG b hb';have:=h.H.size;omega,sZ.XJ hb'⟩
 have:=h.gw b ⟨q,hq,hb'⟩;have:=hb.size;exact⟨by omega,by omega⟩
theorem k9.req(h:k9 w ka kb L V ml bs)(hM:ReqOk w w.heap.size m):nG (Bar L bs) V m:=
 nG.later ⟨pO.of hM.i (fun b hb=>(h.bar hb).1),pO.of hM.t (fun b hb=>(h.bar hb).1),hM.ic,hM.tc⟩ h.below
theorem K1(h:k9 w ka kb L V ml bs)(hL:L[k]? =some (cb,G))(hC:ml[k]? =some C)(hG:nR C)(hl:C.length≤100)(hf:lN m.r)(hw:4≤w.heap.size)(hT:Tb w)(hE:Er w)(hM:nG (Bar L bs) V m)(hd:tW C x m.r=(C',y)):
 jE Tryz.prog 16 #[.pointer (some ⟨cb,0,none⟩),.agg (Ij x).toArray,.agg (uD m).toArray] V fun e W=>k9 w ka kb L W (ml.set k C') bs∧Out (Bar L bs) V W∧∃v,e=.returned v∧IQ (Bar L bs) W v y:=by
 have hb:=h.below
 have hs:=h.H.size
 have Q:=MB (Bar L bs) cb G ka kb C x m hG hl hf V (by omega) (fun b hb=>(h.bar hb).2) (hT.later hb) (hE.later hb) (h.col k _ C hL hC) hM
 rw[hd]at Q
 refine Q.mono ?_
 rintro e W⟨ho,hc',v,rfl,A,j,E,j2,rfl,⟨h1,h2⟩,h3,h4⟩
 have hin:∀b,b∈G→InG L b:=fun b hb=>⟨_,cm hL,hb⟩
 refine⟨⟨h.H.wP ho (fun b hb=>.inl (hin b hb)) (fun b hb e=>h.E9 b hb (hin _ e)),fun k2 q C2 e1 e2=>?_,h.E9,fun b hb=>⟨(h.gw b hb).1,by have:=(h.gw b hb).2;have:=ho.size;omega⟩,h.T9⟩,ho.mono fun b _ hb=>.inl (hin b hb),_,rfl,A,j,E,j2,rfl,⟨h1,fun _ ad e hx=>by have:=h2 ad e;have:=(h.bar hx).2;omega⟩,⟨h3,fun _ ad e hx=>by have:=h4 ad e;have:=(h.bar hx).2;omega⟩⟩
 by_cases e:k=k2
 ·subst e;rw[hL]at e1;cases e1;rw[gM (ci.1 hC).1]at e2;cases e2;exact hc'
 rw[List.getElem?_set_ne e]at e2
 refine(h.col k2 q C2 e1 e2).out ho fun b hb=>⟨.inl (hin b hb),fun hb2=>?_⟩
 obtain⟨hk,ek⟩:=ci.1 hL
 obtain⟨hk2,ek2⟩:=ci.1 e1
 have hp:=cj.1 h.T9
 rcases iD e with hl|hl
 ·have:=hp k k2 hk hk2 hl b (by rw[ek];exact hb);rw[ek2]at this;exact this hb2
 have:=hp k2 k hk2 hk hl b (by rw[ek2];exact hb2)
 rw[ek]at this
 exact this hb
theorem ac0{c:bk9}(h:k9 w ka kb L V ml bs)(k:∀W,Hid (k9 w ka kb L W ml bs)→c.wp P Q a W):c.wp P Q a V:=k V (ai h)
theorem ad6{f:bl9}{args:Array jD}{R:bi6→jC→Prop}(h:k9 w ka kb L V ml bs)(k:∀W,Hid (k9 w ka kb L W ml bs)→jE P f args W R):jE P f args V R:=k V (ai h)
variable{md:fD}{fuel:Nat}{l:Array Bool}
theorem ac8{S:jC→Prop}(h:k9 w ka kb L V ml bs)(k:∀W,Hid (k9 w ka kb L W ml bs)→wpAnyH P md ops Q S fuel l a W):wpAnyH P md ops Q S fuel l a V:=k V (ai h)
theorem rq1(i:Nat){S:jC→Prop}
 (h:∀K':gG→jC→Prop,Shut (∀a w,S w→(S w→wpAnyH P md ops Q S fuel (l.setIfInBounds i true) a w)→K' a w)→if eQ o (yielded ops a.tmps)=true then je P o a w K' Q else K' (a.put o.dst undef) w)
 (hr:eE md ops l=[i]:=by decide+kernel) (ho:ops[i]? =some o:=by exact rfl):wpAnyH P md ops Q S (fuel+1) l a w:=aQ hr (by simp) (.cons ho h .nil)
theorem rq2(i j:Nat){S:jC→Prop}{o':bk0}
 (h:∀K':gG→jC→Prop,Shut (∀a w,S w→(S w→wpAnyH P md ops Q S fuel (l.setIfInBounds i true) a w)→K' a w)→if eQ o (yielded ops a.tmps)=true then je P o a w K' Q else K' (a.put o.dst undef) w)
 (h':∀K':gG→jC→Prop,Shut (∀a w,S w→(S w→wpAnyH P md ops Q S fuel (l.setIfInBounds j true) a w)→K' a w)→if eQ o' (yielded ops a.tmps)=true then je P o' a w K' Q else K' (a.put o'.dst undef) w)
 (hr:eE md ops l=[i,j]:=by decide+kernel) (ho:ops[i]? =some o:=by exact rfl) (ho':ops[j]? =some o':=by exact rfl):wpAnyH P md ops Q S (fuel+1) l a w:=aQ hr (by simp) (.cons ho h (.cons ho' h' .nil))
end
theorem XQ{step:kM→Except Int (kM×α)}(hs:∀T e,step T=.error e→e≠0)(e:EQ c T now text step=.error er):er≠0:=by
 unfold EQ at e;split at e
 ·cases e;decide
 split at e
 ·rename_i e2 hst
  cases e;exact hs _ _ hst
 split at e
 ·cases e;decide
 cases e
theorem Cr{c1 c2:lO}(hne:c1.id≠c2.id)(A T:kM):m6 [(c1,A),(c2,T)] c1.id=some 0∧m6 [(c1,A),(c2,T)] c2.id=some 1:=by
 simp[m6,jl,hne]
theorem ac3{to:Int}{t:List mq}:qT [] to t sc kind=if mw sc=true then(if 1≤kind∧kind≤3 then .ok (nC kind)else .error 101)else .error 50:=by
 unfold qT Ay nj;by_cases hs:mw sc=true
 ·rw[if_pos hs,if_pos hs];simp only[jb];rw[List.filter_eq_nil_iff.2 fun k _=>by simp[rJ,ND]];rfl
 rw[if_neg hs,if_neg hs];rfl
variable{A:kM}
theorem al2{c1 c2:lO}(hne:c1.id≠c2.id){B V:kM}(hA:A.gl=[])(hB:B.gl=[]):vm [(c1,A),(c2,V)] c2.id sc kind ids=vm [(c1,B),(c2,V)] c2.id sc kind ids:=by
 have hp:∀id,uV [(c1,A),(c2,V)] c2.id sc kind id=uV [(c1,B),(c2,V)] c2.id sc kind id:=fun id=>by
  unfold uV;by_cases e1:id=c1.id
  ·subst e1;rw[(Cr hne A V).1,(Cr hne B V).1];simp only[bm];rw[if_neg hne,if_neg hne,hA,hB,ac3,ac3]
  by_cases e2:id=c2.id
  ·subst e2;rw[(Cr hne A V).2,(Cr hne B V).2];rfl
  have h:∀Z:kM,m6 [(c1,Z),(c2,V)] id=none:=fun Z=>by simp[m6,jl,Ne.symm e1,Ne.symm e2]
  rw[h,h]
 have hs:ln [(c1,A),(c2,V)] c2.id sc kind=ln [(c1,B),(c2,V)] c2.id sc kind:=by
  funext s id;unfold ln;rw[hp]
 unfold vm;rw[hs]
theorem ak3{c1 c2:lO}(hne:c1.id≠c2.id){B:kM}(hx:x.oK=c2.id):
 ∃T' y y',tW [(c1,A),(c2,T)] x r=([(c1,A),(c2,T')],y)∧tW [(c1,B),(c2,T)] x r=([(c1,B),(c2,T')],y')∧(A.gl=[]→B.gl=[]→y=y'):=by
 unfold tW
 rw[hx,(Cr hne A T).2,(Cr hne B T).2]
 simp only[bm,bo]
 by_cases h1:¬(1≤r.op∧r.op≤7)
 ·rw[if_pos h1,if_pos h1];exact⟨T,_,_,rfl,rfl,fun _ _=>rfl⟩
 rw[if_neg h1,if_neg h1]
 by_cases h2:zZ x.role r.op=false
 ·rw[if_pos h2,if_pos h2];exact⟨T,_,_,rfl,rfl,fun _ _=>rfl⟩
 rw[if_neg h2,if_neg h2]
 unfold Hz
 by_cases h3:r.op=3
 ·rw[if_pos h3,if_pos h3]
  cases hn:qt c2 T r with
  |error e=>exact⟨T,_,_,rfl,rfl,fun _ _=>rfl⟩
  |ok z=>exact⟨z.1,_,_,rfl,rfl,fun hA hB=>by
   show(⟨0,rt (vm [(c1,A),(c2,z.1)] c2.id r.scope r.kind r.jV) r.h,[],[]⟩:Rep)=⟨0,rt (vm [(c1,B),(c2,z.1)] c2.id r.scope r.kind r.jV) r.h,[],[]⟩;rw[al2 hne hA hB]⟩
 rw[if_neg h3,if_neg h3]
 cases hn:p6 c2 T r with
 |error e=>exact⟨T,_,_,rfl,rfl,fun _ _=>rfl⟩
 |ok z=>exact⟨z.1,_,_,rfl,rfl,fun _ _=>rfl⟩
structure Own(c:lO)(A:kM)(now:Int)(n:Nat):Prop where
 g:nH c A
 gl:A.gl=[]
 gn:A.gn=1
 tm:A.tm=now
 n:kO A.ll≤n
theorem Own.new(c:lO):Own c newT 0 0:=⟨nH.new c,rfl,rfl,rfl,Int.le_refl 0⟩
theorem ah2(e:qt c T r=.error er):er≠0:=by
 unfold qt at e;split at e
 ·cases e;decide
 split at e
 ·split at e
  ·exact XQ (fun _ _ h=>by cases h) e
  cases e;decide
 cases e;decide
theorem C9{β:Type}{f:α→β}{x:Except Int α}(h:x.map f=.error er):x=.error er:=by
 cases x with
 |error e=>cases h;rfl
 |ok a=>cases h
theorem ah8(h4:r.op≠4)(e:p6 c T r=.error er):er≠0:=by
 unfold p6 at e;split at e
 ·exact XQ (fun _ _ h=>FC h) (C9 e)
 split at e
 ·refine XQ (fun _ _ h=>?_) (C9 e);have h:=C9 h;unfold kA at h;split at h
  ·cases h;decide
  split at h
  ·cases h
  cases h;decide
 split at e
 ·refine XQ (fun _ _ h=>?_) (C9 e);have h:=C9 h;unfold lr at h;split at h
  ·cases h;decide
  cases h
 split at e<;>cases e
theorem an8{c1 c2:lO}(h:Own c1 A now n)(hf:lN r)(h4:r.op≠4):
 ∃A' y,tW [(c1,A),(c2,T)] ⟨c1.id,3,0⟩ r=([(c1,A'),(c2,T)],y)∧Own c1 A' (if y.e=0∧r.op≠6∧r.op≠7 then r.now else now) (n+1):=by
 have hn':kO A.ll≤((n+1:Nat):Int):=by have:=h.n;omega
 have same:∀y:Rep,(y.e≠0∨r.op=6∨r.op=7)→Own c1 A (if y.e=0∧r.op≠6∧r.op≠7 then r.now else now) (n+1):=fun y hy=>by
  rw[if_neg (by omega)];exact⟨h.g,h.gl,h.gn,h.tm,hn'⟩
 have hfd:m6 [(c1,A),(c2,T)] c1.id=some 0:=by simp[m6,jl]
 by_cases ho:1≤r.op∧r.op≤7
 ·rw[qh hfd rfl ho];by_cases h3:r.op=3
  ·cases hn:qt c1 A r with
   |error e=>exact⟨A,_,ah4 h3 hn,same _ (.inl (ah2 hn))⟩
   |ok z=>
    have g:=T_ (T2:=z.1) (a:=z.2) h.g hf hn;refine⟨z.1,_,ai0 (T':=z.1) (u:=z.2) h3 hn,?_⟩;rw[if_pos ⟨rfl,by omega,by omega⟩];exact⟨g.1.g,g.2.2.2.1.trans h.gl,g.2.2.1.trans h.gn,g.1.tm,by have:=g.1.last;have:=h.n;omega⟩
  cases hn:p6 c1 A r with
  |error e=>exact⟨A,_,UH h3 hn,same _ (.inl (ah8 h4 hn))⟩
  |ok z=>
   obtain⟨g1,g2,g3,g4⟩:=ZT (T2:=z.1) (y:=z.2) h.g hf hn;refine⟨z.1,z.2,xR (T':=z.1) (y:=z.2) h3 hn,?_⟩;have h5:r.op≠5:=fun e=>by
    unfold p6 at hn;rw[if_neg (by omega),if_neg (by omega),if_neg (by omega),if_pos e]at hn
    cases hr:D4 c1 A r.now r.id with
    |error e=>rw[hr]at hn;cases hn
    |ok q=>
     have:=(ZN (T2:=q.1) (a:=q.2) h.g hf.now hr).2.2.2;rw[h.gl]at this;cases this
   obtain⟨k1,k2⟩:=g4 h4 h5;rcases g3 with⟨e,k3⟩|⟨k3,k4,k5,aq1⟩
   ·rw[e];exact same _ (.inr (by omega))
   rw[if_pos ⟨g2,by omega,by omega⟩];exact⟨g1,k2.trans h.gl,k1.trans h.gn,k4,by have:=h.n;omega⟩
 have e:tW [(c1,A),(c2,T)] ⟨c1.id,3,0⟩ r=([(c1,A),(c2,T)],uJ 191):=by
  unfold tW;rw[show m6 [(c1,A),(c2,T)] (⟨c1.id,3,0⟩:Cu).oK=some 0 from hfd];simp only[bm];rw[if_pos ho]
 exact⟨A,_,e,same _ (.inl (by show(191:Int)≠0;decide))⟩
def gvR(now:Int)(sc:ByteArray):s9:=⟨4,now,⟨#[]⟩,sc,0,[],0,2,0,[]⟩
def tkR(now:Int):s9:=⟨5,now,⟨#[]⟩,⟨#[]⟩,0,[],0,0,1,[]⟩
theorem al5{c1 c2:lO}(h:Own c1 A now n)(hn:n≤100)(hz:sc.size≤300):
 tW [(c1,A),(c2,T)] ⟨c1.id,3,0⟩ (gvR now sc)=([(c1,A),(c2,T)],uJ 50)∨
 ∃A',tW [(c1,A),(c2,T)] ⟨c1.id,3,0⟩ (gvR now sc)=([(c1,A'),(c2,T)],⟨0,1,[],[]⟩)∧nH c1 A'∧A'.gl=[⟨1,2,sc⟩]∧A'.tm=now∧kO A'.ll≤n+1:=by
 have hfd:m6 [(c1,A),(c2,T)] c1.id=some 0:=by simp[m6,jl]
 have hu:U now:=by rw[←h.tm];exact h.g.tm
 have ho:p6 c1 A (gvR now sc)=(sy c1 A now 2 sc).map fun x=>(x.1,⟨0,x.2,[],[]⟩):=by
  unfold p6;rw[if_neg (by show¬(4:Int)=1;decide),if_neg (by show¬(4:Int)=2;decide),if_pos (show(gvR now sc).op=4 from rfl)];rfl
 rw[qh hfd rfl (by show(1:Int)≤4∧(4:Int)≤7;decide)]
 by_cases hs:mw sc=true
 ·have hi:lW A.gn A.gl 2 sc=.ok (2,[⟨1,2,sc⟩],1):=by
   rw[h.gn,h.gl];unfold lW;rw[if_pos hs,if_neg (by simp)];rfl
  obtain⟨b,l,e⟩:=Wg (T2:={ko c1 A now with gn:=2,gl:=[⟨1,2,sc⟩]}) (a:=(1:Int)) (step:=fun T=>(lW T.gn T.gl 2 sc).map fun r=>({T with gn:=r.1,gl:=r.2.1},r.2.2)) h.g hu (by rw[h.tm];omega) (by show(lW A.gn A.gl 2 sc).map _=_;rw[hi];rfl) rfl rfl rfl ar4 (by have:=h.n;omega)
  have e':sy c1 A now 2 sc=.ok (({({ko c1 A now with gn:=2,gl:=[⟨1,2,sc⟩]}:kM)with lb:=b,ll:=l}:kM),1):=e
  have g:=Ux h.g hu (U.nat (n:=2) (by omega)) (by omega) e'
  rw[e']at ho
  exact .inr ⟨_,xR (by show(4:Int)≠3;decide) ho,g.1.g,rfl,rfl,by have h1:=g.1.last;have h2:=h.n;show kO l≤_;replace h1:kO l=kO A.ll+1:=h1;omega⟩
 have e:sy c1 A now 2 sc=.error 50:=by
  unfold sy EQ;rw[if_neg (by rw[h.tm];omega)];have:lW (ko c1 A now).gn (ko c1 A now).gl 2 sc=.error 50:=by unfold lW;rw[if_neg hs]
  dsimp only;rw[this];rfl
 rw[e]at ho
 exact .inl (UH (by show(4:Int)≠3;decide) ho)
theorem ak8{c1 c2:lO}(hG:nH c1 A)(hl:A.gl=[⟨1,2,sc⟩])(ht:A.tm=now)(hn:kO A.ll≤n)(hn2:n≤200):
 ∃A',tW [(c1,A),(c2,T)] ⟨c1.id,3,0⟩ (tkR now)=([(c1,A'),(c2,T)],⟨0,0,[],[]⟩)∧A'.gl=[]:=by
 have hfd:m6 [(c1,A),(c2,T)] c1.id=some 0:=by simp[m6,jl]
 have hu:U now:=by rw[←ht];exact hG.tm
 have ho:p6 c1 A (tkR now)=(D4 c1 A now 1).map fun x=>(x.1,⟨0,0,[],[]⟩):=by
  unfold p6;rw[if_neg (by show¬(5:Int)=1;decide),if_neg (by show¬(5:Int)=2;decide),if_neg (by show¬(5:Int)=4;decide),if_pos (show(tkR now).op=5 from rfl)];rfl
 have hi:lr A.gl 1=.ok []:=by rw[hl];rfl
 obtain⟨b,l,e⟩:=Wg (T2:={ko c1 A now with gl:=[]}) (a:=()) (step:=fun T=>(lr T.gl 1).map fun l=>({T with gl:=l},())) hG hu (by rw[ht];omega) (by show(lr A.gl 1).map _=_;rw[hi];rfl) rfl rfl rfl ar2 (by omega)
 have e':D4 c1 A now 1=.ok (({({ko c1 A now with gl:=[]}:kM)with lb:=b,ll:=l}:kM),()):=e
 rw[e']at ho
 rw[qh hfd rfl (by show(1:Int)≤5∧(5:Int)≤7;decide)]
 exact⟨_,xR (by show(5:Int)≠3;decide) ho,rfl⟩
theorem ah9(hu:U now)(h:sc.size≤300):lN (gvR now sc):=⟨hu,by show(jf #[]).size≤300;decide,h,by show 0≤52;omega,fun x hx=>by simp[gvR]at hx,U.zero,U.nat (n:=2) (by omega),U.zero,by show 0≤10;omega,fun x hx=>by simp[gvR]at hx⟩
theorem ah7(hu:U now):lN (tkR now):=⟨hu,by show(jf #[]).size≤300;decide,by show(jf #[]).size≤300;decide,by show 0≤52;omega,fun x hx=>by simp[tkR]at hx,U.zero,U.zero,U.nat (n:=1) (by omega),by show 0≤10;omega,fun x hx=>by simp[tkR]at hx⟩
def rlR:s9:=⟨3,0,⟨#[]⟩,⟨#[]⟩,1,[],0,0,0,[1]⟩
theorem ac7:lN rlR:=⟨U.zero,by decide,by decide,by decide,fun x hx=>by simp[rlR]at hx,U.zero,U.zero,U.zero,by decide,fun x hx=>by simp[rlR]at hx;rw[hx];exact U.nat (n:=1) (by omega)⟩
theorem ad7(b:Int):∀(n:Nat)(t:List mq)(ps:List Nat){r:List mq×List Nat},pI b n t ps=some r→r.2.length≤ps.length+n
 |0,_,_,_,h=>by simp[pI]at h
 |n+1,t,ps,r,h=>by
  rw[pI]at h;split at h
  ·cases h;simp
  split at h
  ·have:=ad7 b n _ _ h;simp at this;omega
  cases h
theorem take_len(h:me c T labels kind items=.ok (T2,ps)):ps.length≤100:=by
 unfold me at h;repeat' split at h
 all_goals first|(cases h;done)|(cases h;rename_i hf;have:=ad7 _ _ _ _ hf;simpa using this)
theorem al4(hG:nH c T)(hf:lN r)(e:p6 c T r=.ok (T2,y)):y.notices.length≤100∧y.entries.length≤30:=by
 have hm:∀{α:Type}{X:Except Int α}{f:α→kM×Rep},(∀a,(f a).2.notices=[]∧(f a).2.entries=[])→X.map f=.ok (T2,y)→y.notices.length≤100∧y.entries.length≤30:=fun{α X f} h1 h2=>by
  cases X with
  |error er=>cases h2
  |ok a=>
   injection h2 with h2;have:=h1 a;rw[h2]at this;rw[this.1,this.2];exact⟨be _,be _⟩
 unfold p6 at e;split at e
 ·cases hi:nl c T r.now r.labels r.kind r.items with
  |error er=>rw[hi]at e;cases e
  |ok x=>
   rw[hi]at e;cases e;obtain⟨_,_,_,T3,h,_⟩:=wy (T2:=x.1) (ps:=x.2) hG hf.now hf.iu hi;exact⟨take_len h,be _⟩
 split at e
 ·exact hm (fun _=>⟨rfl,rfl⟩) e
 split at e
 ·exact hm (fun _=>⟨rfl,rfl⟩) e
 split at e
 ·exact hm (fun _=>⟨rfl,rfl⟩) e
 split at e
 ·cases e
  exact⟨be _,a_ (fe _ _) hG.lg.len⟩
 cases e;exact⟨be _,be _⟩
theorem al6(h:nR C)(hf:lN r)(e:tW C x r=(C',y)):y.notices.length≤100∧y.entries.length≤30:=by
 have er:∀k,(uJ k).notices.length≤100∧(uJ k).entries.length≤30:=fun k=>⟨be _,be _⟩;unfold tW at e;split at e
 ·cases e;exact er _
 split at e
 ·cases e;exact er _
 rename_i c T hk;split at e
 ·cases e;exact er _
 split at e
 ·cases e;exact er _
 unfold Hz at e;split at e
 ·split at e
  ·cases e;exact er _
  cases e;exact⟨be _,be _⟩
 split at e
 ·cases e;exact er _
 rename_i T' y' ho
 cases e
 exact al4 (h.at_ hk).2 hf ho
theorem ReqOk.few{w:jC}{m:ReqM}(h:ReqOk w w.heap.size m):ReqOk w w.heap.size (KH m):=
 (nG.few (X:=fun _=>False) ⟨pO.of h.i fun _ z=>z.elim,pO.of h.t fun _ z=>z.elim,h.ic,h.tc⟩).ok
theorem ac4{c1 c2:lO}(h1:GC c1)(h2:GC c2)(hne:c1.id≠c2.id)(hA:nH c1 A)(hT:nH c2 T):nR [(c1,A),(c2,T)]∧[(c1,A),(c2,T)].length≤100:=
 ⟨⟨fun x hx=>by simp at hx;rcases hx with rfl|rfl<;>first|exact h1|exact h2,fun x hx=>by simp at hx;rcases hx with rfl|rfl<;>first|exact hA|exact hT,by simp[hne]⟩,by simp⟩
theorem IQ.out{X:Nat→Prop}{w w':jC}{v:jD}{r:Rep}(h:IQ X w v r)(ho:Out X w w'):IQ X w' v r:=by
 obtain⟨A,k,E,k2,e,h1,h2⟩:=h.at_;exact⟨A,k,E,k2,e,h1.out ho,h2.out ho⟩
variable{v:jD}
theorem IQ.rep{r:Rep}(h:IQ X w v r):Bx w v r:=by
 obtain⟨A,k,E,k2,e,h1,h2⟩:=h.at_;exact⟨A,k,E,k2,e,h1.rd,h2.rd⟩
theorem Own.more(h:Own c A now n):Own c A now (n+1):=⟨h.g,h.gl,h.gn,h.tm,by have:=h.n;omega⟩
theorem Own.u(h:Own c A now n):U now:=by rw[←h.tm];exact h.g.tm
theorem revoked_any(ka kb:Int)(A:Option jG)(l1:List ActM)(cap1:Nat)(B:Option jG)(l2:List ActM)(cap2:Nat)(s:ByteArray)(w:jC)(p1:l1.length≤maxLen∧(∀a∈l1,ReqRaw a.m∧a.m.r.items.length≤a.m.ic∧a.m.r.jV.length≤a.m.tc)∧Acts w w.heap.size A l1)(p2:l2.length≤maxLen∧(∀a∈l2,ReqRaw a.m∧a.m.r.items.length≤a.m.ic∧a.m.r.jV.length≤a.m.tc)∧Acts w w.heap.size B l2)(ps:s.size≤maxLen)(hT:Tb w)(hE:Er w)(hw:4≤w.heap.size):
 jE Tryz.prog 6 #[.agg #[.int .u64 ka,.int .u64 kb],.slice A l1.length cap1,.slice B l2.length cap2,.string s] w fun e w'=>e=.returned (.bool true)∧Below w.heap.size w w':=by
 have HW0:Hid (Below w.heap.size w (w.alloc (.cells #[.int .u64 ka,.int .u64 kb] 24))):=jP (jQ w) _
 have YC:Hid (jR (w.alloc (.cells #[.int .u64 ka,.int .u64 kb] 24)) w.heap.size 24 #[.int .u64 ka,.int .u64 kb]):=jR.new w _ _
 have HP1:=ai p1
 have HP2:=ai p2
 have HT0:=ai hT
 have HE0:=ai hE
 have HPS:=ai ps
 clear p1 p2 hT hE ps
 go_enter Tryz.func6,Tryz.ntmps6
 go_wp2_with fail
 refine(CC _ (by simp;omega) (HT0.out.later HW0.out) (HE0.out.later HW0.out)).mono ?_
 rintro e w1⟨rfl,hb⟩
 have HW1:Hid (Below w.heap.size w w1):=HW0.out.trans (hb.mono HW0.out.size)
 have Vw:=ai (YC.out.later hb)
 clear HW0 YC hb
 go_wp2_with fail
 refine(RT A l1 cap1 20 HP1.out.1 (by decide) HP1.out.2.1 w1 ((HP1.out.2.2.later HW1.out).rd)).mono ?_
 rintro e w2⟨hb,A1,d1,rfl,hrd,-⟩
 have HW2:Hid (Below w.heap.size w w2):=HW1.out.trans (hb.mono HW1.out.size)
 have Tf:=ai (Vw.out.later hb)
 have HR1:=ai hrd
 have key:Hid (∀(W:jC)(Z:Option jG)(l:List ActM),Below w.heap.size w W→(∀a∈l,ReqRaw a.m∧a.m.r.items.length≤a.m.ic∧a.m.r.jV.length≤a.m.tc)→Acts w w.heap.size Z l→∀a∈(l.take 20).map sQ,ReqOk W W.heap.size a.m∧lN a.m.r):=fun W Z l hW hr hs a ha=>by
  obtain⟨a1,ha1,rfl⟩:=dq.1 ha;have hx:=dy ha1;exact⟨((hs.ok a1 hx).later hW).few,Hq (hr a1 hx).1⟩
 have Zs:Hid (∀W,Below w.heap.size w W→∀a∈(l1.take 20).map sQ,ReqOk W W.heap.size a.m∧lN a.m.r):=fun W hW=>key.out W A l1 hW HP1.out.2.1 HP1.out.2.2
 have hn1:((l1.take 20).map sQ).length≤20:=by rw[ax,cv];omega
 generalize(l1.take 20).map sQ=m1 at*
 clear HW1 Vw hb hrd
 go_wp2_with fail
 refine(RT B l2 cap2 20 HP2.out.1 (by decide) HP2.out.2.1 w2 ((HP2.out.2.2.later HW2.out).rd)).mono ?_
 rintro e w3⟨hb,B1,d2,rfl,hrd,-⟩
 have HW3:Hid (Below w.heap.size w w3):=HW2.out.trans (hb.mono HW2.out.size)
 have Cs:=ai (Tf.out.later hb)
 replace HR1:=ai ((Rd.below HR1.out hb).more hb.size)
 have HR2:=ai hrd
 clear HW2 Tf hb hrd
 have DG:=ai (Zs.out w3 HW3.out)
 have Yx:=ai (key.out w3 B l2 HW3.out HP2.out.2.1 HP2.out.2.2)
 have HT:Hid (Tb w3):=HT0.out.later HW3.out
 have HE:Hid (Er w3):=HE0.out.later HW3.out
 have hw3:4≤w3.heap.size:=by have:=HW3.out.size;omega
 have hn2:((l2.take 20).map sQ).length≤20:=by rw[ax,cv];omega
 have hkl:w.heap.size<w3.heap.size:=Cs.out.lt
 generalize(l2.take 20).map sQ=m2 at*
 clear key HP1 HP2 HT0 HE0 Zs
 have S:Hid (k9 w3 ka kb [] w3 [] []):=k9.nil (kj.nil (InG []) w3)
 go_wp2_with fail
 refine ac0 S.out (fun V hS=>?_)
 clear S
 have S:=hS
 clear hS
 refine bi1 (S:=(fun w9=>kz w9 w.heap.size 0 [.int .u64 ka,.int .u64 kb])) (by kernel_rfl) (qG (Cs.out.later S.out.drew.below) _ 0 fun j u hj=>by rw[au];exact hj) (fun hHeld=>?_)
 replace S:=ai S.out.drew
 generalize V.drew=V0 at*
 refine tkc hHeld ?_
 refine aQ (rs:=[1]) (by kernel_rfl) (by simp) ?_
 refine jm rfl (fun K hK=>?_) aP
 go_simp
 refine(two_any 1500 50 V0).mono ?_
 rintro e V1⟨rfl,rfl⟩
 have hrd:Hid (Rd (V0.alloc (.cells #[.int .u64 1,.int .i64 1500,.int .u64 50,.int .u64 2,.int .i64 1500,.int .u64 50] 63)) (V0.alloc (.cells #[.int .u64 1,.int .i64 1500,.int .u64 50,.int .u64 2,.int .i64 1500,.int .u64 50] 63)).heap.size (some ⟨V0.heap.size,0,none⟩) ((m9 1500 50).flatMap OA)):=Jb 1500 50 V0
 replace S:=ai (S.out.al (.cells #[.int .u64 1,.int .i64 1500,.int .u64 50,.int .u64 2,.int .i64 1500,.int .u64 50] 63))
 generalize V0.alloc (.cells #[.int .u64 1,.int .i64 1500,.int .u64 50,.int .u64 2,.int .i64 1500,.int .u64 50] 63)=V1 at*
 refine hK.out _ _ (qG (Cs.out.later S.out.below) _ 0 fun j u hj=>by rw[au];exact hj) (fun hHeld=>?_)
 clear hK K
 try simp only[gL,eK,ej,dQ,bd,ak,am]
 refine aQ (rs:=[2]) (by kernel_rfl) (by simp) ?_
 refine jm rfl (fun K hK=>?_) aP
 go_simp
 refine(Ds ka kb _ (m9 1500 50) 2 (by simp[m9]) (by simp[m9]) (vR _ _) (fun x hx=>by simp[m9]at hx;rcases hx with rfl|rfl<;>decide) (zL _ _) V1 (by have:=S.out.H.size;omega) hrd.out).mono ?_
 rintro e V2⟨hb,cb1,G1,rfl,sZ,hG⟩
 replace S:=ai (S.out.an9 hb sZ hG)
 clear hb sZ hG hrd
 refine hK.out _ _ (qG (Cs.out.later S.out.below) _ 0 fun j u hj=>by rw[au];exact hj) (fun hHeld=>?_)
 clear hK K
 try simp only[gL,eK,ej,dQ,bd,ak,am]
 refine tkc hHeld ?_
 refine ax8 (by kernel_rfl) ?_ _
 clear hHeld
 go_wp2_with fail
 refine ac0 S.out (fun V hS=>?_)
 clear S
 have S:=hS
 clear hS
 refine bi1 (S:=(fun w9=>kz w9 w.heap.size 0 [.int .u64 ka,.int .u64 kb])) (by kernel_rfl) (qG (Cs.out.later S.out.drew.below) _ 0 fun j u hj=>by rw[au];exact hj) (fun hHeld=>?_)
 replace S:=ai S.out.drew
 generalize V.drew=V0 at*
 refine tkc hHeld ?_
 refine aQ (rs:=[1]) (by kernel_rfl) (by simp) ?_
 refine jm rfl (fun K hK=>?_) aP
 go_simp
 refine(two_any 1500 50 V0).mono ?_
 rintro e V1⟨rfl,rfl⟩
 have hrd:Hid (Rd (V0.alloc (.cells #[.int .u64 1,.int .i64 1500,.int .u64 50,.int .u64 2,.int .i64 1500,.int .u64 50] 63)) (V0.alloc (.cells #[.int .u64 1,.int .i64 1500,.int .u64 50,.int .u64 2,.int .i64 1500,.int .u64 50] 63)).heap.size (some ⟨V0.heap.size,0,none⟩) ((m9 1500 50).flatMap OA)):=Jb 1500 50 V0
 replace S:=ai (S.out.al (.cells #[.int .u64 1,.int .i64 1500,.int .u64 50,.int .u64 2,.int .i64 1500,.int .u64 50] 63))
 generalize V0.alloc (.cells #[.int .u64 1,.int .i64 1500,.int .u64 50,.int .u64 2,.int .i64 1500,.int .u64 50] 63)=V1 at*
 refine hK.out _ _ (qG (Cs.out.later S.out.below) _ 0 fun j u hj=>by rw[au];exact hj) (fun hHeld=>?_)
 clear hK K
 try simp only[gL,eK,ej,dQ,bd,ak,am]
 refine aQ (rs:=[2]) (by kernel_rfl) (by simp) ?_
 refine jm rfl (fun K hK=>?_) aP
 go_simp
 refine(Ds ka kb _ (m9 1500 50) 2 (by simp[m9]) (by simp[m9]) (vR _ _) (fun x hx=>by simp[m9]at hx;rcases hx with rfl|rfl<;>decide) (zL _ _) V1 (by have:=S.out.H.size;omega) hrd.out).mono ?_
 rintro e V2⟨hb,cb2,G2,rfl,sZ,hG⟩
 replace S:=ai (S.out.an9 hb sZ hG)
 clear hb sZ hG hrd
 refine hK.out _ _ (qG (Cs.out.later S.out.below) _ 0 fun j u hj=>by rw[au];exact hj) (fun hHeld=>?_)
 clear hK K
 try simp only[gL,eK,ej,dQ,bd,ak,am]
 refine tkc hHeld ?_
 refine ax8 (by kernel_rfl) ?_ _
 clear hHeld
 go_wp2_with fail
 obtain⟨c1,hc1⟩:∃c,c=qF ka kb ⟨1,1500,50⟩:=⟨_,rfl⟩
 obtain⟨c2,hc2⟩:∃c,c=qF ka kb ⟨2,1500,50⟩:=⟨_,rfl⟩
 have i1:c1.id=1:=by rw[hc1];rfl
 have i2:c2.id=2:=by rw[hc2];rfl
 have hne:c1.id≠c2.id:=by omega
 have hG0:nR (lE ka kb (m9 1500 50)):=nR.new (vR _ _) (fun x hx=>by simp[m9]at hx;rcases hx with rfl|rfl<;>decide) (fun x hx=>⟨zL _ _ x hx,by simp[m9]at hx;rcases hx with rfl|rfl<;>exact U.nat (n:=50) (by omega)⟩)
 have hC0:lE ka kb (m9 1500 50)=[(c1,newT),(c2,newT)]:=by rw[hc1,hc2];rfl
 rw[hC0]at S hG0
 have HGC:Hid (GC c1∧GC c2):=⟨hG0.cfg (c1,newT) (by simp),hG0.cfg (c2,newT) (by simp)⟩
 clear hc1 hc2 hC0 hG0
 go_loopw[14,15] (fun an1 iv wr=>∃(k:Nat)(now:Int)(A:kM),iv=.int .i64 (k:Int)∧an1=.int .u64 now∧k≤m1.length∧Hid (k9 w3 ka kb [(cb2,G2),(cb1,G1)] wr [[(c1,A),(c2,newT)],[(c1,A),(c2,newT)]] [])∧Hid (Own c1 A now k)) (fun _ iv _=>m1.length-(av iv).toNat)
 case atStart=>exact⟨0,0,newT,rfl,rfl,be _,S.out,Own.new c1⟩
 clear S
 obtain⟨k,now,A,rfl,rfl,hk,S,HO⟩:=hrel
 by_cases h1:k<m1.length
 ·have d1:decide ((k:Int)<(m1.length:Int))=true:=decide_eq_true (by omega);obtain⟨b,off,rfl,hb,hc⟩:=oP (n:=13) Bt (by decide) HR1.out (by omega);have i3:=((S.out.below).cell (p:=⟨b,off+k*13+3,none⟩) hb).trans (hc k h1 3 (.int .i64 m1[k].m.r.op) (by decide) rfl);have i4:=((S.out.below).cell (p:=⟨b,off+k*13+4,none⟩) hb).trans (hc k h1 4 (.int .u64 m1[k].m.r.now) (by decide) rfl);have i5:=((S.out.below).cell (p:=⟨b,off+k*13+5,none⟩) hb).trans (hc k h1 5 (.string m1[k].m.r.labels) (by decide) rfl);have i6:=((S.out.below).cell (p:=⟨b,off+k*13+6,none⟩) hb).trans (hc k h1 6 (.string m1[k].m.r.scope) (by decide) rfl);have i7:=((S.out.below).cell (p:=⟨b,off+k*13+7,none⟩) hb).trans (hc k h1 7 (.int .i64 m1[k].m.r.kind) (by decide) rfl);have i8:=((S.out.below).cell (p:=⟨b,off+k*13+8,none⟩) hb).trans (hc k h1 8 (.slice m1[k].m.ia m1[k].m.r.items.length m1[k].m.ic) (by decide) rfl);have i9:=((S.out.below).cell (p:=⟨b,off+k*13+9,none⟩) hb).trans (hc k h1 9 (.int .u64 m1[k].m.r.h) (by decide) rfl);have i10:=((S.out.below).cell (p:=⟨b,off+k*13+10,none⟩) hb).trans (hc k h1 10 (.int .u64 m1[k].m.r.to) (by decide) rfl);have i11:=((S.out.below).cell (p:=⟨b,off+k*13+11,none⟩) hb).trans (hc k h1 11 (.int .u64 m1[k].m.r.id) (by decide) rfl);have i12:=((S.out.below).cell (p:=⟨b,off+k*13+12,none⟩) hb).trans (hc k h1 12 (.slice m1[k].m.ta m1[k].m.r.jV.length m1[k].m.tc) (by decide) rfl);have HAM:Hid (ReqOk w3 w3.heap.size m1[k].m∧lN m1[k].m.r):=DG.out _ (ar h1);have xO:(0:Int)≤(k:Int):=by omega
  have xN:(k:Int)<(m1.length:Int):=by omega
  have hbw:b<wr.heap.size:=by have:=S.out.below.size;omega
  clear hc;generalize m1[k]=a0 at*
  by_cases h4:a0.m.r.op=4
  ·have d4:(a0.m.r.op==4)=true:=by simp[h4]
   have aa2:=ai (S.out.al (.cells (ai5 a0.m) 35));clear h4;go_wp2_with fail;go_roundw
   case rel=>exact⟨k+1,now,A,by go_num,rfl,by omega,aa2.out,HO.out.more⟩
   simp[av];omega
  have d4:(a0.m.r.op==4)=false:=by simp[h4]
  have aa2:=ai (S.out.alloc wr.heap.size 35 (ad3 a0.m));have Lu:=ai h4;clear S h4;go_wp2_with fail;clear i3 i4 i5 i6 i7 i8 i9 i10 i11 i12;obtain⟨A',y,hd,ho⟩:=an8 (c2:=c2) (T:=newT) HO.out HAM.out.2 Lu.out;rw[i1]at hd;have HD:=ai hd;have xd:=ai ho;have HGA:Hid (nR [(c1,A),(c2,newT)]∧[(c1,A),(c2,newT)].length≤100):=(ac4 HGC.out.1 HGC.out.2 hne HO.out.g (nH.new c2));clear hd ho d4;have hwg:0≤wr.heap.size:=be _;generalize hgr:wr.heap.size=gr at*
  refine ac0 aa2.out (fun V S=>?_);clear aa2;refine D6 (fun a a' W=>∃g N i E j,a'=(((((a.put (some 59) (.pointer (some ⟨cb1,0,none⟩))).put (some 60) (.agg #[.int .u64 1,.int .i64 3,.int .u64 0])).put (some 61) (.agg (ai5 a0.m))).put (some 62) (.agg #[.int .i64 y.e,.int .u64 y.n,.slice N y.notices.length i,.slice E y.entries.length j])).put (some 17) (.pointer (some ⟨g,0,none⟩)))∧k9 w3 ka kb [(cb2,G2),(cb1,G1)] W [[(c1,A),(c2,newT)],[(c1,A'),(c2,newT)]] ((g,55,(ac9 y N i E j))::[(gr,35,(ad3 a0.m))])) ?an0 ?am9
  case an0=>
   refine bi1 (S:=(fun w9=>kz w9 gr 0 (ad3 a0.m))) (by kernel_rfl) (by first|exact S.out.H.at_ 0|exact S.out.H.at_ 1) (fun hHeld=>?_);refine tkc hHeld ?_;replace S:=ai S.out.drew;generalize V.drew=V0 at*
   repeat' first
    |((with_reducible change wpAnyH _ _ _ _ _ _ _ _ _);first
     |refine rq2 1 4 (fun K hK=>?_) (fun K hK=>?_)
     |refine rq2 3 4 (fun K hK=>?_) (fun K hK=>?_)
     |refine rq1 1 (fun K hK=>?_)
     |refine rq1 3 (fun K hK=>?_)
     |refine rq1 4 (fun K hK=>?_)
     |refine rq1 5 (fun K hK=>?_)
     |(refine ax8 (by kernel_rfl) ?_ _;exact AH ⟨_,N,i,E,j,by simp only[gL,bd,ak,am],S.out⟩))
    |(go_simp;(with_reducible change jE _ _ _ _ _);first
     |(refine(nK _ _).mono ?_;rintro e V1⟨rfl,nu⟩;replace S:=ai (S.out.call nu);clear nu;(first|refine hK.out _ _ (S.out.H.at_ 0) (fun hHeld=>?_)|refine hK.out _ _ (S.out.H.at_ 1) (fun hHeld=>?_)|refine hK.out _ _ (S.out.H.at_ 2) (fun hHeld=>?_));clear hK K;(try simp only[gL,eK,ej,dQ,bd,ak,am]))
     |(refine(K1 (x:=yW _) (m:=a0.m) (k:=1) S.out rfl rfl HGA.out.1 HGA.out.2 HAM.out.2 hw3 HT.out HE.out (S.out.req HAM.out.1) HD.out).mono ?_;rintro e V2⟨hs,-,v,rfl,⟨N,i,E,j,rfl,-,-⟩⟩;simp only[ak,am]at hs;replace S:=ai hs;clear hs;(first|refine hK.out _ _ (S.out.H.at_ 0) (fun hHeld=>?_)|refine hK.out _ _ (S.out.H.at_ 1) (fun hHeld=>?_)|refine hK.out _ _ (S.out.H.at_ 2) (fun hHeld=>?_));clear hK K;(try simp only[gL,eK,ej,dQ,bd,ak,am])))
    |(go_simp;replace S:=ai (S.out.alloc _ 55 af4 rfl);(first|refine hK.out _ _ (S.out.H.at_ 0) (fun hHeld=>?_)|refine hK.out _ _ (S.out.H.at_ 1) (fun hHeld=>?_)|refine hK.out _ _ (S.out.H.at_ 2) (fun hHeld=>?_));clear hK K;(try simp only[gL,eK,ej,dQ,bd,ak,am]);clear hHeld;refine ac8 S.out (fun V3 hS=>?_);clear S;have S:=hS;clear hS)
    |(have x:=S.out.H.facts;simp only[Facts,kz,au,ao,and_true]at x;go_simp;clear x;replace S:=ai (S.out.all 0 (ac9 y N i E j));(first|refine hK.out _ _ (S.out.H.at_ 0) (fun hHeld=>?_)|refine hK.out _ _ (S.out.H.at_ 1) (fun hHeld=>?_)|refine hK.out _ _ (S.out.H.at_ 2) (fun hHeld=>?_));clear hK K;(try simp only[gL,eK,ej,dQ,bd,ak,am]))
  rintro a' W⟨g,N,i,E,j,rfl,hs⟩;clear S;have S:=ai hs;clear hs;simp only[gL,bd,ak,am];go_wp2_with fail;refine ac0 S.out (fun V S=>?_);refine bi1 (S:=(fun w9=>kz w9 gr 0 (ad3 a0.m))) (by kernel_rfl) (by first|exact S.out.H.at_ 1) (fun hHeld=>?_);refine tkc hHeld ?_;replace S:=ai S.out.drew;generalize V.drew=V0 at*
  refine aQ (rs:=[1]) (by kernel_rfl) (by simp) ?_;refine jm rfl (fun K hK=>?_) aP;go_simp;refine(nK _ _).mono ?_;rintro e V1⟨rfl,nu⟩;replace S:=ai (S.out.call nu);clear nu;refine hK.out _ _ (by first|exact S.out.H.at_ 1) (fun hHeld=>?_);clear hK K;try simp only[gL,eK,ej,dQ,bd,ak,am]
  refine aQ (rs:=[3]) (by kernel_rfl) (by simp) ?_;refine jm rfl (fun K hK=>?_) aP;go_simp;refine(K1 (x:=yW _) (m:=a0.m) (k:=0) S.out rfl rfl HGA.out.1 HGA.out.2 HAM.out.2 hw3 HT.out HE.out (S.out.req HAM.out.1) HD.out).mono ?_;rintro e V2⟨hs,-,v,rfl,⟨an7,i2',E2,j2,rfl,-,-⟩⟩;simp only[ak,am]at hs;replace S:=ai hs;clear hs;refine hK.out _ _ (by first|exact S.out.H.at_ 1) (fun hHeld=>?_);clear hK K;try simp only[gL,eK,ej,dQ,bd,ak,am]
  refine ax8 (by kernel_rfl) ?_ _;clear hHeld;have ac2:=ai S.out.tail.tail;have x:=fk S.out.H.facts;by_cases e0:y.e=0
  ·have b0:(y.e==0)=true:=by simp[e0]
   by_cases e6:a0.m.r.op=6
   ·have an5:(a0.m.r.op !=6)=false:=by simp[e6]
    have HQ:=xd.out;rw[if_neg (by omega)]at HQ;replace HQ:=ai HQ;clear e0 e6;go_wp2_with fail;go_roundw
    case rel=>exact⟨k+1,now,A',by go_num,rfl,by omega,ac2.out,HQ.out⟩
    simp[av];omega
   have an5:(a0.m.r.op !=6)=true:=by simp[e6]
   by_cases e7:a0.m.r.op=7
   ·have an2:(a0.m.r.op !=7)=false:=by simp[e7]
    have HQ:=xd.out;rw[if_neg (by omega)]at HQ;replace HQ:=ai HQ;clear e0 e6 e7;go_wp2_with fail;go_roundw
    case rel=>exact⟨k+1,now,A',by go_num,rfl,by omega,ac2.out,HQ.out⟩
    simp[av];omega
   have an2:(a0.m.r.op !=7)=true:=by simp[e7]
   have HQ:=xd.out;rw[if_pos ⟨e0,e6,e7⟩]at HQ;replace HQ:=ai HQ;clear e0 e6 e7;go_wp2_with fail;go_roundw
   case rel=>exact⟨k+1,a0.m.r.now,A',by go_num,rfl,by omega,ac2.out,HQ.out⟩
   simp[av];omega
  have b0:(y.e==0)=false:=by simp[e0]
  have HQ:=xd.out;rw[if_neg (by omega)]at HQ;replace HQ:=ai HQ;clear e0;go_wp2_with fail;go_roundw
  case rel=>exact⟨k+1,now,A',by go_num,rfl,by omega,ac2.out,HQ.out⟩
  simp[av];omega
 have hkk:k=m1.length:=by omega
 subst hkk
 have d1:decide ((m1.length:Int)<(m1.length:Int))=false:=by simp
 go_wp2_with fail
 clear d1 h1
 obtain⟨a1,ha1⟩:∃a:Nat,min s.size 200=a:=⟨_,rfl⟩
 have hps:=HPS.out
 unfold maxLen at hps
 have u1:min (s.size:Int) 200=(a1:Int):=by omega
 have u2:(0:Int)≤(a1:Int):=by omega
 have u3:(a1:Int)≤(s.size:Int):=by omega
 have hsc:(s.extract 0 a1).size≤200:=by rw[fI];omega
 have HSC:Hid ((s.extract 0 a1).size≤200):=hsc
 have HGA:Hid (nR [(c1,A),(c2,newT)]∧[(c1,A),(c2,newT)].length≤100):=(ac4 HGC.out.1 HGC.out.2 hne HO.out.g (nH.new c2))
 have ao0:Hid (m1.length≤20):=hn1
 have HUN:Hid (U now):=HO.out.u
 clear ha1 hps hsc
 have hgv:=al5 (c2:=c2) (T:=newT) (sc:=s.extract 0 a1) HO.out (by have:=ao0.out;omega) (by have:=HSC.out;omega)
 rw[i1]at hgv
 have HFG:Hid (lN (gvR now (s.extract 0 a1))):=ah9 HUN.out (by have:=HSC.out;omega)
 obtain⟨C4,y4,hd4⟩:∃C4 y4,tW [(c1,A),(c2,newT)] (yW 1) (gvR now (s.extract 0 a1))=(C4,y4):=⟨_,_,rfl⟩
 have HD4:=ai hd4
 have HGV:Hid ((C4=[(c1,A),(c2,newT)]∧y4=uJ 50)∨∃A',C4=[(c1,A'),(c2,newT)]∧y4=⟨0,1,[],[]⟩∧nH c1 A'∧A'.gl=[⟨1,2,s.extract 0 a1⟩]∧A'.tm=now∧kO A'.ll≤m1.length+1):=by
  rcases hgv with h|⟨A',h,h2⟩
  ·exact .inl (Prod.mk.inj (hd4.symm.trans h))
  have q:=Prod.mk.inj (hd4.symm.trans h);exact .inr ⟨A',q.1,q.2,h2⟩
 clear hgv hd4
 refine ac0 S.out (fun V hS=>?_)
 clear S
 have S:=hS
 clear hS
 refine D6 (fun a a' W=>∃g N i E j,a'=(((((((((((a.put (some 82) (.pointer (some ⟨cb1,0,none⟩))).put (some 83) (.agg #[.int .u64 1,.int .i64 3,.int .u64 0])).put (some 84) (.int .u64 now)).put (some 85) (.string s)).put (some 86) (.string s)).put (some 87) (.int .i64 (s.size:Int))).put (some 88) (.int .i64 (a1:Int))).put (some 89) (.string (s.extract 0 a1))).put (some 90) (.agg #[.int .i64 4,.int .u64 now,.string ⟨#[]⟩,.string (s.extract 0 a1),.int .i64 0,.slice none 0 0,.int .u64 0,.int .u64 2,.int .u64 0,.slice none 0 0])).put (some 91) (.agg #[.int .i64 y4.e,.int .u64 y4.n,.slice N y4.notices.length i,.slice E y4.entries.length j])).put (some 18) (.pointer (some ⟨g,0,none⟩)))∧k9 w3 ka kb [(cb2,G2),(cb1,G1)] W [[(c1,A),(c2,newT)],C4] [(g,55,(ac9 y4 N i E j))]) ?am8 ?rd
 case am8=>
  refine bi1 (S:=(fun _=>True)) (by kernel_rfl) trivial (fun hHeld=>?_);refine tkc hHeld ?_;refine bk5 (i:=6) (v:=.int .i64 (a1:Int)) rfl (by kernel_rfl) (by kernel_rfl) (by kernel_rfl) (fun _ _ _ h=>h) (ge ⟨by rfl,?_⟩) hHeld ?_
  ·(intro w hSw;go_simp)
  try simp only[gL,eK,ej,dQ,bd,ak,am]
  refine tkc hHeld ?_;replace S:=ai S.out.drew;generalize V.drew=V0 at*
  repeat' first
   |((with_reducible change wpAnyH _ _ _ _ _ _ _ _ _);first
    |refine rq2 1 10 (fun K hK=>?_) (fun K hK=>?_)
    |refine rq2 9 10 (fun K hK=>?_) (fun K hK=>?_)
    |refine rq1 1 (fun K hK=>?_)
    |refine rq1 9 (fun K hK=>?_)
    |refine rq1 10 (fun K hK=>?_)
    |refine rq1 11 (fun K hK=>?_)
    |(refine ax8 (by kernel_rfl) ?_ _;exact AH ⟨_,N,i,E,j,by simp only[gL,bd,ak,am],S.out⟩))
   |(go_simp;(with_reducible change jE _ _ _ _ _);first
    |(refine(nK _ _).mono ?_;rintro e V1⟨rfl,nu⟩;replace S:=ai (S.out.call nu);clear nu;(first|refine hK.out _ _ trivial (fun hHeld=>?_));clear hK K;(try simp only[gL,eK,ej,dQ,bd,ak,am]))
    |(refine(K1 (x:=yW _) (m:=⟨gvR now (s.extract 0 a1),none,0,none,0⟩) (k:=1) S.out rfl rfl HGA.out.1 HGA.out.2 HFG.out hw3 HT.out HE.out (nG.nil _ _ _ rfl rfl) HD4.out).mono ?_;rintro e V2⟨hs,-,v,rfl,⟨N,i,E,j,rfl,-,-⟩⟩;simp only[ak,am]at hs;replace S:=ai hs;clear hs;(first|refine hK.out _ _ trivial (fun hHeld=>?_));clear hK K;(try simp only[gL,eK,ej,dQ,bd,ak,am])))
   |(go_simp;replace S:=ai (S.out.alloc _ 55 af4 rfl);(first|refine hK.out _ _ trivial (fun hHeld=>?_));clear hK K;(try simp only[gL,eK,ej,dQ,bd,ak,am]);clear hHeld;refine ac8 S.out (fun V3 hS=>?_);clear S;have S:=hS;clear hS)
   |(have x:=S.out.H.facts;simp only[Facts,kz,au,ao,and_true]at x;go_simp;clear x;replace S:=ai (S.out.all 0 (ac9 y4 N i E j));(first|refine hK.out _ _ trivial (fun hHeld=>?_));clear hK K;(try simp only[gL,eK,ej,dQ,bd,ak,am]))
 rintro a' W⟨g,N0,i0,ak0,j0,rfl,hs⟩
 clear S
 have S:=ai hs
 clear hs u1 u2 u3
 have x:=fk S.out.H.facts
 simp only[gL,bd,ak,am]
 obtain⟨rfl,rfl⟩|⟨A4,rfl,rfl,g4,l4,t4,n4⟩:=HGV.out
 ·have b1:((50:Int)!=0)=true:=by decide
  simp only[uJ]at x S;simp only[uJ];go_wp2_with fail;go_ret;exact⟨rfl,HW3.out.trans (S.out.below.mono HW3.out.size)⟩
 have H4:Hid (nH c1 A4∧A4.gl=[⟨1,2,s.extract 0 a1⟩]∧A4.tm=now∧kO A4.ll≤m1.length+1):=⟨g4,l4,t4,n4⟩
 clear g4 l4 t4 n4
 simp only[dp]at x S
 go_wp2_with fail
 have HG4:Hid (nR [(c1,A4),(c2,newT)]∧[(c1,A4),(c2,newT)].length≤100):=ac4 HGC.out.1 HGC.out.2 hne H4.out.1 (nH.new c2)
 obtain⟨T5,y5,z5,hd5,hz5,-⟩:=ak3 (A:=A4) (B:=A) (T:=newT) (x:=yW 2) (r:=rlR) hne i2.symm
 have HD5:=ai hd5
 have yX:=ai hz5
 have q5:nH c2 T5:=((R3 HG4.out.1 ac7 hd5).1.ten (c2,T5) (by simp))
 have HG5:Hid (nR [(c1,A4),(c2,T5)]∧[(c1,A4),(c2,T5)].length≤100):=ac4 HGC.out.1 HGC.out.2 hne H4.out.1 q5
 obtain⟨A6,hd6,ai8⟩:=ak8 (c1:=c1) (c2:=c2) (T:=T5) H4.out.1 H4.out.2.1 H4.out.2.2.1 (n:=m1.length+1) (by have:=H4.out.2.2.2;omega) (by have:=ao0.out;omega)
 rw[i1]at hd6
 have HD6:=ai hd6
 have HFT:Hid (lN (tkR now)):=ah7 HUN.out
 have q6:nH c1 A6:=((R3 HG5.out.1 HFT.out hd6).1.ten (c1,A6) (by simp))
 have HGF:Hid (∀T:kM,nH c2 T→(nR [(c1,A6),(c2,T)]∧[(c1,A6),(c2,T)].length≤100)∧nR [(c1,A),(c2,T)]∧[(c1,A),(c2,T)].length≤100):=fun T hT=>⟨ac4 HGC.out.1 HGC.out.2 hne q6 hT,ac4 HGC.out.1 HGC.out.2 hne HO.out.g hT⟩
 have HL6:Hid (A6.gl=[]∧A.gl=[]∧nH c2 T5):=⟨ai8,HO.out.gl,q5⟩
 clear hd5 hz5 hd6 ai8 q5 q6
 refine ad6 S.out (fun V hS=>?_)
 clear S
 try clear x
 refine(nK 2 V).mono ?_
 rintro e V21⟨rfl,nu⟩
 have S:=ai (hS.out.call nu)
 clear hS nu
 have HM:Hid (nG (Bar _ _) (V21.alloc (.cells #[.int .u64 1] 22)) ⟨rlR,none,0,some ⟨V21.heap.size,0,none⟩,1⟩):=⟨⟨Rd.none_,fun _ _ e=>by cases e⟩,⟨tY (jR.new V21 _ _),fun _ ad e hx=>by cases e;have:=(S.out.bar hx).2;simp only at this;omega⟩,be _,ay 1⟩
 replace S:=ai (S.out.al (.cells #[.int .u64 1] 22))
 go_wp2_with fail
 refine(K1 (x:=yW 2) (m:=⟨rlR,none,0,some ⟨V21.heap.size,0,none⟩,1⟩) (k:=1) S.out rfl rfl HG4.out.1 HG4.out.2 ac7 hw3 HT.out HE.out HM.out HD5.out).mono ?_
 rintro e W21⟨hs,-,v,rfl,-⟩
 simp only[ak,am]at hs
 replace S:=ai hs
 clear hs HM
 go_wp2_with fail
 refine ad6 S.out (fun V hS=>?_)
 clear S
 try clear x
 refine(nK 2 V).mono ?_
 rintro e V22⟨rfl,nu⟩
 have S:=ai (hS.out.call nu)
 clear hS nu
 have HM:Hid (nG (Bar _ _) (V22.alloc (.cells #[.int .u64 1] 22)) ⟨rlR,none,0,some ⟨V22.heap.size,0,none⟩,1⟩):=⟨⟨Rd.none_,fun _ _ e=>by cases e⟩,⟨tY (jR.new V22 _ _),fun _ ad e hx=>by cases e;have:=(S.out.bar hx).2;simp only at this;omega⟩,be _,ay 1⟩
 replace S:=ai (S.out.al (.cells #[.int .u64 1] 22))
 go_wp2_with fail
 refine(K1 (x:=yW 2) (m:=⟨rlR,none,0,some ⟨V22.heap.size,0,none⟩,1⟩) (k:=0) S.out rfl rfl HGA.out.1 HGA.out.2 ac7 hw3 HT.out HE.out HM.out yX.out).mono ?_
 rintro e W22⟨hs,-,v,rfl,-⟩
 simp only[ak,am]at hs
 replace S:=ai hs
 clear hs HM
 go_wp2_with fail
 refine ac0 S.out (fun V hS=>?_)
 clear S
 have S:=hS
 clear hS
 have HY0:Hid ((⟨0,0,[],[]⟩:Rep)=⟨0,0,[],[]⟩):=rfl
 refine D6 (fun a a' W=>∃g2 N i E j,a'=((((((((a.put (some 111) (.pointer (some ⟨cb1,0,none⟩))).put (some 112) (.agg #[.int .u64 1,.int .i64 3,.int .u64 0])).put (some 113) (.int .u64 now)).put (some 114) (.pointer (some ⟨g,1,none⟩))).put (some 115) (.int .u64 1)).put (some 116) (.agg #[.int .i64 5,.int .u64 now,.string ⟨#[]⟩,.string ⟨#[]⟩,.int .i64 0,.slice none 0 0,.int .u64 0,.int .u64 0,.int .u64 1,.slice none 0 0])).put (some 117) (.agg #[.int .i64 0,.int .u64 0,.slice N 0 i,.slice E 0 j])).put (some 19) (.pointer (some ⟨g2,0,none⟩)))∧k9 w3 ka kb [(cb2,G2),(cb1,G1)] W [[(c1,A),(c2,T5)],[(c1,A6),(c2,T5)]] ((g2,55,[.int .i64 0,.int .u64 0,.slice N 0 i,.slice E 0 j])::[(g,55,[.int .i64 0,.int .u64 1,.slice N0 0 i0,.slice ak0 0 j0])])) ?am5 ?am3
 case am5=>
  refine bi1 (S:=(fun w9=>kz w9 g 0 [.int .i64 0,.int .u64 1,.slice N0 0 i0,.slice ak0 0 j0])) (by kernel_rfl) (by first|exact S.out.H.at_ 0|exact S.out.H.at_ 1) (fun hHeld=>?_);refine tkc hHeld ?_;replace S:=ai S.out.drew;generalize V.drew=V0 at*
  repeat' first
   |((with_reducible change wpAnyH _ _ _ _ _ _ _ _ _);first
    |refine rq2 1 7 (fun K hK=>?_) (fun K hK=>?_)
    |refine rq2 6 7 (fun K hK=>?_) (fun K hK=>?_)
    |refine rq1 1 (fun K hK=>?_)
    |refine rq1 6 (fun K hK=>?_)
    |refine rq1 7 (fun K hK=>?_)
    |refine rq1 8 (fun K hK=>?_)
    |(refine ax8 (by kernel_rfl) ?_ _;exact AH ⟨_,N,i,E,j,by simp only[gL,bd,ak,am],S.out⟩))
   |(go_simp;(with_reducible change jE _ _ _ _ _);first
    |(refine(nK _ _).mono ?_;rintro e V1⟨rfl,nu⟩;replace S:=ai (S.out.call nu);clear nu;(first|refine hK.out _ _ (S.out.H.at_ 0) (fun hHeld=>?_)|refine hK.out _ _ (S.out.H.at_ 1) (fun hHeld=>?_)|refine hK.out _ _ (S.out.H.at_ 2) (fun hHeld=>?_));clear hK K;(try simp only[gL,eK,ej,dQ,bd,ak,am]))
    |(refine(K1 (x:=yW _) (m:=⟨tkR now,none,0,none,0⟩) (k:=1) S.out rfl rfl HG5.out.1 HG5.out.2 HFT.out hw3 HT.out HE.out (nG.nil _ _ _ rfl rfl) HD6.out).mono ?_;rintro e V2⟨hs,-,v,rfl,⟨N,i,E,j,rfl,-,-⟩⟩;simp only[ak,am]at hs;simp only[dp];replace S:=ai hs;clear hs;(first|refine hK.out _ _ (S.out.H.at_ 0) (fun hHeld=>?_)|refine hK.out _ _ (S.out.H.at_ 1) (fun hHeld=>?_)|refine hK.out _ _ (S.out.H.at_ 2) (fun hHeld=>?_));clear hK K;(try simp only[gL,eK,ej,dQ,bd,ak,am])))
   |(go_simp;replace S:=ai (S.out.alloc _ 55 af4 rfl);(first|refine hK.out _ _ (S.out.H.at_ 0) (fun hHeld=>?_)|refine hK.out _ _ (S.out.H.at_ 1) (fun hHeld=>?_)|refine hK.out _ _ (S.out.H.at_ 2) (fun hHeld=>?_));clear hK K;(try simp only[gL,eK,ej,dQ,bd,ak,am]);clear hHeld;refine ac8 S.out (fun V3 hS=>?_);clear S;have S:=hS;clear hS)
   |(have x:=S.out.H.facts;simp only[Facts,kz,au,ao,and_true]at x;go_simp;clear x;replace S:=ai (S.out.all 0 [.int .i64 0,.int .u64 0,.slice N 0 i,.slice E 0 j]);(first|refine hK.out _ _ (S.out.H.at_ 0) (fun hHeld=>?_)|refine hK.out _ _ (S.out.H.at_ 1) (fun hHeld=>?_)|refine hK.out _ _ (S.out.H.at_ 2) (fun hHeld=>?_));clear hK K;(try simp only[gL,eK,ej,dQ,bd,ak,am]))
 rintro a' W⟨g2,an7,i2',E2,j2,rfl,hs⟩
 clear S
 have S:=ai hs
 clear hs
 have x:=fk S.out.H.facts
 simp only[gL,bd,ak,am]
 go_wp2_with fail
 replace S:=ai S.out.tail.tail
 clear x
 go_loopw[20] (fun iv wr=>∃(k:Nat)(T:kM),iv=.int .i64 (k:Int)∧k≤m2.length∧Hid (k9 w3 ka kb [(cb2,G2),(cb1,G1)] wr [[(c1,A),(c2,T)],[(c1,A6),(c2,T)]] [])∧Hid (nH c2 T)) (fun iv _=>m2.length-(av iv).toNat)
 case atStart=>exact⟨0,T5,rfl,be _,S.out,HL6.out.2.2⟩
 clear S
 obtain⟨k,T,rfl,hk,S,HTT⟩:=hrel
 by_cases h1:k<m2.length
 ·have d1:decide ((k:Int)<(m2.length:Int))=true:=decide_eq_true (by omega);have hc2:=ai i2.symm;obtain⟨b,off,rfl,hb,hc⟩:=oP (n:=13) Bt (by decide) HR2.out (by omega);have i0:wr.cell? ⟨b,off+k*13+0,none⟩=some (.int .u64 m2[k].x.oK):=((S.out.below).cell (p:=⟨b,off+k*13+0,none⟩) hb).trans (hc k h1 0 (.int .u64 m2[k].x.oK) (by decide) rfl);have i1:=((S.out.below).cell (p:=⟨b,off+k*13+1,none⟩) hb).trans (hc k h1 1 (.int .i64 m2[k].x.role) (by decide) rfl);have i2:=((S.out.below).cell (p:=⟨b,off+k*13+2,none⟩) hb).trans (hc k h1 2 (.int .u64 m2[k].x.YR) (by decide) rfl);have i3:=((S.out.below).cell (p:=⟨b,off+k*13+3,none⟩) hb).trans (hc k h1 3 (.int .i64 m2[k].m.r.op) (by decide) rfl);have i4:=((S.out.below).cell (p:=⟨b,off+k*13+4,none⟩) hb).trans (hc k h1 4 (.int .u64 m2[k].m.r.now) (by decide) rfl);have i5:=((S.out.below).cell (p:=⟨b,off+k*13+5,none⟩) hb).trans (hc k h1 5 (.string m2[k].m.r.labels) (by decide) rfl);have i6:=((S.out.below).cell (p:=⟨b,off+k*13+6,none⟩) hb).trans (hc k h1 6 (.string m2[k].m.r.scope) (by decide) rfl);have i7:=((S.out.below).cell (p:=⟨b,off+k*13+7,none⟩) hb).trans (hc k h1 7 (.int .i64 m2[k].m.r.kind) (by decide) rfl);have i8:=((S.out.below).cell (p:=⟨b,off+k*13+8,none⟩) hb).trans (hc k h1 8 (.slice m2[k].m.ia m2[k].m.r.items.length m2[k].m.ic) (by decide) rfl);have i9:=((S.out.below).cell (p:=⟨b,off+k*13+9,none⟩) hb).trans (hc k h1 9 (.int .u64 m2[k].m.r.h) (by decide) rfl);have i10:=((S.out.below).cell (p:=⟨b,off+k*13+10,none⟩) hb).trans (hc k h1 10 (.int .u64 m2[k].m.r.to) (by decide) rfl);have i11:=((S.out.below).cell (p:=⟨b,off+k*13+11,none⟩) hb).trans (hc k h1 11 (.int .u64 m2[k].m.r.id) (by decide) rfl);have i12:=((S.out.below).cell (p:=⟨b,off+k*13+12,none⟩) hb).trans (hc k h1 12 (.slice m2[k].m.ta m2[k].m.r.jV.length m2[k].m.tc) (by decide) rfl);have HAM:Hid (ReqOk w3 w3.heap.size m2[k].m∧lN m2[k].m.r):=Yx.out _ (ar h1);have xO:(0:Int)≤(k:Int):=by omega
  have xN:(k:Int)<(m2.length:Int):=by omega
  have hbw:b<wr.heap.size:=by have:=S.out.below.size;omega
  clear hc;generalize m2[k]=a0 at*
  rw[ip]at i0;have aa2:=ai (S.out.alloc wr.heap.size 37 [.int .u64 2,.int .i64 a0.x.role,.int .u64 a0.x.YR,.int .i64 a0.m.r.op,.int .u64 a0.m.r.now,.string a0.m.r.labels,.string a0.m.r.scope,.int .i64 a0.m.r.kind,.slice a0.m.ia a0.m.r.items.length a0.m.ic,.int .u64 a0.m.r.h,.int .u64 a0.m.r.to,.int .u64 a0.m.r.id,.slice a0.m.ta a0.m.r.jV.length a0.m.tc]);obtain⟨T',y,y',hd,hd',hyy⟩:=ak3 (A:=A6) (B:=A) (T:=T) (x:=⟨2,a0.x.role,a0.x.YR⟩) (r:=a0.m.r) hne hc2.out;obtain rfl:=hyy HL6.out.1 HL6.out.2.1;have HD:=ai hd;have HD':=ai hd';have oX:=ai (HGF.out T HTT.out);have ap7:Hid (nH c2 T'):=((R3 oX.out.1.1 HAM.out.2 hd).1.ten (c2,T') (by simp));have IY:=ai (al6 oX.out.1.1 HAM.out.2 hd);clear hd hd' hyy S;go_wp2_with fail;clear i0 i1 i2 i3 i4 i5 i6 i7 i8 i9 i10 i11 i12;refine ac0 aa2.out (fun V S=>?_);clear aa2;refine bi1 (S:=(fun w9=>kz w9 wr.heap.size 0 [.int .u64 2,.int .i64 a0.x.role,.int .u64 a0.x.YR,.int .i64 a0.m.r.op,.int .u64 a0.m.r.now,.string a0.m.r.labels,.string a0.m.r.scope,.int .i64 a0.m.r.kind,.slice a0.m.ia a0.m.r.items.length a0.m.ic,.int .u64 a0.m.r.h,.int .u64 a0.m.r.to,.int .u64 a0.m.r.id,.slice a0.m.ta a0.m.r.jV.length a0.m.tc])) (by kernel_rfl) (by first|exact S.out.H.at_ 0) (fun hHeld=>?_);refine tkc hHeld ?_;replace S:=ai S.out.drew;generalize V.drew=V0 at*
  refine aQ (rs:=[5]) (by kernel_rfl) (by simp) ?_;refine jm rfl (fun K hK=>?_) aP;go_simp;refine(K1 (x:=⟨2,a0.x.role,a0.x.YR⟩) (m:=a0.m) (k:=1) S.out rfl rfl oX.out.1.1 oX.out.1.2 HAM.out.2 hw3 HT.out HE.out (S.out.req HAM.out.1) HD.out).mono ?_;rintro e V1⟨hs,ho1,v1,rfl,hr1⟩;simp only[ak,am]at hs;replace S:=ai hs;clear hs;have HR9:=ai hr1;clear hr1 ho1;refine hK.out _ _ (by first|exact S.out.H.at_ 0) (fun hHeld=>?_);clear hK K;try simp only[gL,eK,ej,dQ,bd,ak,am]
  refine aQ (rs:=[11]) (by kernel_rfl) (by simp) ?_;refine jm rfl (fun K hK=>?_) aP;go_simp;refine(K1 (x:=⟨2,a0.x.role,a0.x.YR⟩) (m:=a0.m) (k:=0) S.out rfl rfl oX.out.2.1 oX.out.2.2 HAM.out.2 hw3 HT.out HE.out (S.out.req HAM.out.1) HD'.out).mono ?_;rintro e V2⟨hs,ho2,v2,rfl,hr2⟩;simp only[ak,am]at hs;replace S:=ai hs;clear hs;replace HR9:=ai (HR9.out.out ho2);have HR8:=ai hr2;clear hr2 ho2;refine hK.out _ _ (by first|exact S.out.H.at_ 0) (fun hHeld=>?_);clear hK K;try simp only[gL,eK,ej,dQ,bd,ak,am]
  refine aQ (rs:=[12]) (by kernel_rfl) (by simp) ?_;refine jm rfl (fun K hK=>?_) aP;go_simp;refine(FZ v1 v2 y (by have:=IY.out.1;omega) (by have:=IY.out.2;omega) V2 HR9.out.rep HR8.out.rep).mono ?_;rintro e V3⟨rfl,nu⟩;replace S:=ai (S.out.call nu);clear nu HR9 HR8;refine hK.out _ _ (by first|exact S.out.H.at_ 0) (fun hHeld=>?_);clear hK K;try simp only[gL,eK,ej,dQ,bd,ak,am]
  refine tkc hHeld ?_;refine ax8 (by kernel_rfl) ?_ _;clear hHeld;have ac2:=ai S.out.tail;clear S;go_wp2_with fail;go_roundw
  case rel=>exact⟨k+1,T',by go_num,by omega,ac2.out,ap7.out⟩
  simp[av];omega
 have hkk:k=m2.length:=by omega
 subst hkk
 have d1:decide ((m2.length:Int)<(m2.length:Int))=false:=by simp
 go_wp2_with fail
 go_ret
 exact⟨rfl,HW3.out.trans (S.out.below.mono HW3.out.size)⟩
section
open Go.RowKit Go.Joins Go.ChangeShapes Go.WideShapes Go.Deep
section
variable{H:Type}{enc:jH×jD→H}{W:jC}
def Opens(enc:jH×jD→H)(W:jC)(t:jH)(cs:List jD):Prop:=∃fuel x,iQ enc Tryz.prog W 0 (fun _=>true) true fuel t cs=some x
variable{t:jH}{fs:Array Field}{cs:List jD}
theorem Opens.struct(ht:Tryz.prog.underlying t=some (.struct fs))(h:Opens enc W t cs):
 cs.length=Tryz.prog.cellsOf t∧∀(i:Nat)(f:Field),fs[i]? =some f→Opens enc W f.type ((cs.drop f.offset).take (Tryz.prog.cellsOf f.type)):=by
 obtain⟨fuel,x,hx⟩:=h
 obtain⟨xs,n,_,_,hlen,hxl,hf⟩:=DataW.trod_struct ht hx
 refine⟨hlen,fun i f hi=>?_⟩
 have h1:=hf i f hi
 have hil:i<xs.length:=by rw[hxl];exact(aw.1 hi).1
 rw[an hil]at h1
 exact⟨n,_,h1⟩
theorem Opens.int{t:jH}{k:IntKind}{cs:List jD}(ht:Tryz.prog.underlying t=some (.int k))(h:Opens enc W t cs):∃n,cs=[.int k n]∧(iK k n).wf=true:=by
 obtain⟨fuel,x,hx⟩:=h;obtain⟨n,e,_,hw⟩:=DataW.trod_int ht hx;exact⟨n,e,hw⟩
theorem Opens.string{t:jH}{cs:List jD}(ht:Tryz.prog.underlying t=some .string)(h:Opens enc W t cs):∃s:ByteArray,cs=[.string s]∧s.size≤maxLen:=by
 obtain⟨fuel,x,hx⟩:=h;obtain⟨n,e,_,hw⟩:=DataW.trod_string ht hx;exact⟨n,e,hw⟩
theorem Opens.slice{t e:jH}{cs:List jD}(ht:Tryz.prog.underlying t=some (.slice e))(h:Opens enc W t cs):
 cs=[.slice none 0 0]∨∃(a:jG)(len cap:Nat),cs=[.slice (some a) len cap]∧len≤cap∧cap≤maxLen∧
  ∀i,i<cap→∃cs',W.cells? 0 (a.add (i*Tryz.prog.cellsOf e)) (Tryz.prog.cellsOf e)=some cs'∧Opens enc W e cs':=by
 obtain⟨fuel,x,hx⟩:=h
 rcases open_slice ht hx with⟨h0,_⟩|⟨a,len,cap,m,n,D,Pl,hcs,hb,hl,hm,hmm,_,hi⟩
 ·exact .inl h0
 refine .inr ⟨a,len,cap,hcs,hl,hm,fun i h=>?_⟩
 obtain⟨cs',h1,h2⟩:=hi i (by rw[hmm];simpa using h)
 exact⟨cs',h1,n,_,h2⟩
theorem v8{α:Type}{cells:α→List jD}{sz:Nat}(hsz:∀y,(cells y).length=sz):∀ys:List α,(ys.flatMap cells).length=ys.length*sz
 |[]=>lV
 |y::ys=>by rw[dg,cd,v8 hsz ys,hsz,c_,iY];omega
theorem vZ(cells:α→List jD)(Q:α→Prop){sz len:Nat}{x:jG}(hsz:∀y,(cells y).length=sz)
 (h:∀i,i<len→∃y,Q y∧W.cells? 0 (x.add (i*sz)) sz=some (cells y)):∀k,k≤len→∃ys:List α,ys.length=k∧(∀y∈ys,Q y)∧∀j u,(ys.flatMap cells)[j]? =some u→W.cell? (x.add j)=some u:=by
 intro k
 induction k with
 |zero=>exact fun _=>⟨[],rfl,(fun _ h=>qch),fun j u h=>WY⟩
 |succ k ih=>
  intro hk;obtain⟨ys,hl,hQ,hc⟩:=ih jS;obtain⟨y,hy,hcy⟩:=h k jS;obtain⟨_,hcl,hat⟩:=World.cells?_some hcy;refine⟨ys++[y],by simp[hl],fun z hz=>?_,fun j u hj=>?_⟩
  ·rcases ed.1 hz with h|h
   ·exact hQ z h
   simp at h;subst h;exact hy
  rw[eZ,List.flatMap_singleton]at hj;have hfl:=v8 hsz ys;rw[hl]at hfl;by_cases hjl:j<k*sz
  ·rw[eL jS]at hj;exact hc j u hj
  rw[d7 jS,hfl]at hj;have hj2:j-k*sz<sz:=by have:=(ci.1 hj).1;rw[hsz]at this;exact this
  have h1:=hat (j-k*sz) hj2;have e:j=k*sz+(j-k*sz):=jS;rw[e,←Go.Deep.add_add,h1];exact hj
theorem D2{x:jG}{xs:List jD}(h:∀j u,xs[j]? =some u→W.cell? (x.add j)=some u):Rd W W (some x) xs:=fun hne=>by
 have h0:0<xs.length:=by
  rcases fM xs.length with h0|h0
  ·exact absurd (da h0) hne
  exact h0
 have hc0:=h 0 _ (an h0);obtain⟨b,off,sp⟩:=x;have hsp:sp=none:=by
  cases sp with
  |none=>rfl
  |some k=>
   simp only[iU,if_true,fJ]at hc0;split at hc0<;>simp at hc0
 subst hsp;have hblk:b<W.heap.size:=by
  simp only[iU,if_true,fJ]at hc0;rcases fB b W with hlt|hge
  ·exact hlt
  rw[fH hge]at hc0;simp at hc0
 refine⟨b,off,rfl,hblk,fun j u hj=>?_⟩;have:=h j u hj;rwa[addr_add]at this
theorem Au:∀ys:List Int,ys.map (br .u64)=ys.flatMap (fun n:Int=>[br .u64 n])
 |[]=>rfl
 |y::ys=>by rw[df,dg,Au ys];try rfl
theorem wf_u64{n:Int}(h:(iK .u64 n).wf=true):U n:=bounds_u64 h
end
end
open Go.RowKit Go.Joins Go.ChangeShapes Go.WideShapes Go.Deep
section
variable{H:Type}{enc:jH×jD→H}{W:jC}
theorem yF(h:Opens enc W 32 [v]):∃(a:Option jG)(l:List Item)(cap:Nat),v=.slice a l.length cap∧l.length≤cap∧cap≤maxLen∧(∀x∈l,U x.h∧U x.n)∧Rd W W a (l.flatMap Q8):=by
 rcases h.slice Tryz.underlying32 with h0|⟨a,len,cap,hcs,hl,hm,hi⟩
 ·simp only[List.cons.injEq,and_true]at h0;exact⟨none,[],0,h0,ay _,B8,(fun _ h=>qch),Rd.none_⟩
 simp only[List.cons.injEq,and_true]at hcs;have hC:Tryz.prog.cellsOf 39=2:=oo;obtain⟨ys,hyl,hQ,hr⟩:=vZ (W:=W) Q8 (fun x=>U x.h∧U x.n) (sz:=2) (len:=len) (x:=a) (fun _=>rfl) (fun i h=>by
  obtain⟨cs',h1,h2⟩:=hi i jS;obtain⟨hlen,hf⟩:=h2.struct Tryz.underlying39;rw[hC]at hlen h1;match cs',hlen with
  |[c0,c1],_=>
   obtain⟨n0,e0,w0⟩:=(hf 0 _ rfl).int (k:=.u64) oo;obtain⟨n1,e1,w1⟩:=(hf 1 _ rfl).int (k:=.u64) oo;have e0':[c0]=[br .u64 n0]:=e0;have e1':[c1]=[br .u64 n1]:=e1;simp only[List.cons.injEq,and_true]at e0' e1';subst e0' e1';exact⟨⟨n0,n1⟩,⟨wf_u64 w0,wf_u64 w1⟩,h1⟩) len aa
 exact⟨some a,ys,cap,by rw[hcs,hyl],jS,hm,hQ,D2 hr⟩
theorem NW(h:Opens enc W 33 [v]):∃(a:Option jG)(l:List Int)(cap:Nat),v=(cZ a l cap)∧l.length≤cap∧cap≤maxLen∧(∀x∈l,U x)∧Rd W W a (qM l):=by
 rcases h.slice Tryz.underlying33 with h0|⟨a,len,cap,hcs,hl,hm,hi⟩
 ·simp only[List.cons.injEq,and_true]at h0;exact⟨none,[],0,h0,ay _,B8,(fun _ h=>qch),Rd.none_⟩
 simp only[List.cons.injEq,and_true]at hcs;have hC:Tryz.prog.cellsOf 22=1:=oo;obtain⟨ys,hyl,hQ,hr⟩:=vZ (W:=W) (fun n:Int=>[br .u64 n]) U (sz:=1) (len:=len) (x:=a) (fun _=>rfl) (fun i h=>by
  obtain⟨cs',h1,h2⟩:=hi i jS;obtain⟨n,rfl,hw⟩:=h2.int Tryz.underlying22;rw[hC]at h1;exact⟨n,wf_u64 hw,h1⟩) len aa
 refine⟨some a,ys,cap,by rw[hcs,hyl],jS,hm,hQ,?_⟩;unfold qM;rw[Au ys];exact D2 hr
theorem CI{c0 c1 c2 c3 c4 c5 c6 c7 c8 c9:jD}(h:Opens enc W 35 [c0,c1,c2,c3,c4,c5,c6,c7,c8,c9]):
 ∃m:ReqM,[c0,c1,c2,c3,c4,c5,c6,c7,c8,c9]=uD m∧ReqOk W W m∧ReqRaw m:=by
 obtain⟨_,hf⟩:=h.struct Tryz.underlying35
 have g0:Opens enc W 3 [c0]:=hf 0 _ rfl
 have g1:Opens enc W 22 [c1]:=hf 1 _ rfl
 have g2:Opens enc W 9 [c2]:=hf 2 _ rfl
 have g3:Opens enc W 9 [c3]:=hf 3 _ rfl
 have g4:Opens enc W 3 [c4]:=hf 4 _ rfl
 have g5:Opens enc W 32 [c5]:=hf 5 _ rfl
 have g6:Opens enc W 22 [c6]:=hf 6 _ rfl
 have g7:Opens enc W 22 [c7]:=hf 7 _ rfl
 have g8:Opens enc W 22 [c8]:=hf 8 _ rfl
 have g9:Opens enc W 33 [c9]:=hf 9 _ rfl
 obtain⟨n0,e0,w0⟩:=g0.int Tryz.underlying3
 obtain⟨n1,e1,w1⟩:=g1.int Tryz.underlying22
 obtain⟨s2,e2,w2⟩:=g2.string Tryz.underlying9
 obtain⟨s3,e3,w3⟩:=g3.string Tryz.underlying9
 obtain⟨n4,e4,w4⟩:=g4.int Tryz.underlying3
 obtain⟨a5,l5,p5,rfl,q5,r5,u5,d5⟩:=yF g5
 obtain⟨n6,e6,w6⟩:=g6.int Tryz.underlying22
 obtain⟨n7,e7,w7⟩:=g7.int Tryz.underlying22
 obtain⟨n8,e8,w8⟩:=g8.int Tryz.underlying22
 obtain⟨a9,l9,p9,rfl,q9,r9,u9,d9⟩:=NW g9
 simp only[List.cons.injEq,and_true]at e0 e1 e2 e3 e4 e6 e7 e8
 subst e0 e1 e2 e3 e4 e6 e7 e8
 exact⟨⟨⟨n0,n1,s2,s3,n4,l5,n6,n7,n8,l9⟩,a5,p5,a9,p9⟩,rfl,⟨d5,d9,q5,q9⟩,⟨wf_u64 w1,w2,w3,r5,u5,wf_u64 w6,wf_u64 w7,wf_u64 w8,r9,u9⟩⟩
variable{cs:List jD}
theorem OO(h:Opens enc W 37 cs):∃a:ActM,cs=xY a∧ReqOk W W a.m∧ReqRaw a.m:=by
 obtain⟨hlen,hf⟩:=h.struct Tryz.underlying37;have hC:Tryz.prog.cellsOf 37=13:=oo;rw[hC]at hlen;match cs,hlen with
 |[d0,d1,d2,c0,c1,c2,c3,c4,c5,c6,c7,c8,c9],_=>
  have g0:Opens enc W 30 [d0,d1,d2]:=hf 0 _ rfl;have g1:Opens enc W 35 [c0,c1,c2,c3,c4,c5,c6,c7,c8,c9]:=hf 1 _ rfl;obtain⟨_,f0⟩:=g0.struct Tryz.underlying30;have k0:Opens enc W 22 [d0]:=f0 0 _ rfl;have k1:Opens enc W 3 [d1]:=f0 1 _ rfl;have k2:Opens enc W 22 [d2]:=f0 2 _ rfl;obtain⟨n0,e0,w0⟩:=k0.int Tryz.underlying22;obtain⟨n1,e1,w1⟩:=k1.int Tryz.underlying3;obtain⟨n2,e2,w2⟩:=k2.int Tryz.underlying22;obtain⟨m,e,ok,raw⟩:=CI g1;simp only[List.cons.injEq,and_true]at e0 e1 e2;subst e0 e1 e2;refine⟨⟨⟨n0,n1,n2⟩,m⟩,?_,ok,raw⟩;show _=Ij _++uD m;rw[←e];try rfl
def SF(w:jC)(a:Option jG)(len:Nat):Prop:=
 len≤maxLen∧∀k,k≤len→∃l:List ActM,l.length=k∧(∀a∈l,ReqRaw a.m)∧Acts w w a l
variable{a:Option jG}
theorem Ln{len cap:Nat}(h:Opens enc W 25 [.slice a len cap]):SF W a len:=by
 rcases h.slice Tryz.underlying25 with h0|⟨x,len',cap',hcs,hl,hm,hi⟩
 ·simp only[List.cons.injEq,and_true]at h0;injection h0 with e1 e2 e3;subst e1 e2;exact⟨B8,fun k hk=>⟨[],mO,(fun _ h=>qch),Rd.none_,(fun _ h=>qch)⟩⟩
 simp only[List.cons.injEq,and_true]at hcs;injection hcs with e1 e2 e3;subst e1 e2;have hC:Tryz.prog.cellsOf 37=13:=oo;rw[hC]at hi;refine⟨jS,fun k hk=>?_⟩;obtain⟨ys,hyl,hQ,hr⟩:=vZ (W:=W) xY (fun a=>ReqOk W W a.m∧ReqRaw a.m) (sz:=13) (x:=x) Bt (fun i h=>by
  obtain⟨cs',h1,h2⟩:=hi i jS;obtain⟨a,rfl,ok,raw⟩:=OO h2;exact⟨a,⟨ok,raw⟩,h1⟩) k hk
 exact⟨ys,hyl,fun m hm=>(hQ m hm).2,D2 hr,fun m hm=>(hQ m hm).1⟩
theorem ON{len cap:Nat}(h:∃fuel x,iQ enc Tryz.prog W 0 (fun _=>true) true fuel 25 (eo a len cap).cells.toList=some x):SF W a len:=by
 obtain⟨fuel,x,hx⟩:=h;exact Ln ⟨fuel,x,by simpa[Value.cells]using hx⟩
end
open Go.RowKit Go.Joins Go.ChangeShapes Go.WideShapes Go.Deep
set_option maxRecDepth 100000
theorem size4{W:jC}(h:Tb W):4≤W.heap.size:=by
 have h1:=b8 W _ (h.2 0 B8).1;have h2:3<W.heap.size:=h1;omega
section
variable{H:Type}{enc:jH×jD→H}{W:jC}{r:Reach}{b0:Nat}
variable{t:jH}{fs:Array Field}
theorem CU(hs:Tryz.prog.underlying t=some (.struct fs))(hv:Value.okWide Tryz.prog W r b0 t v)(h:∃fuel x,iQ enc Tryz.prog W 0 (fun _=>true) true fuel t v.cells.toList=some x):
 ∃cs:List jD,v=.agg cs.toArray∧cs.length=Tryz.prog.cellsOf t∧Opens enc W t cs:=by
 obtain⟨cs,rfl,hsz⟩:=okWide_struct hs hv
 obtain⟨l⟩:=cs
 obtain⟨fuel,x,hx⟩:=h
 exact⟨l,rfl,hsz,fuel,x,by simpa[Value.cells]using hx⟩
theorem key_open{v:jD}(hv:Value.okWide Tryz.prog W r b0 24 v)(h:∃fuel x,iQ enc Tryz.prog W 0 (fun _=>true) true fuel 24 v.cells.toList=some x):∃ka kb,v=(cI ka kb)∧U ka∧U kb:=by
 obtain⟨cs,rfl,hl,ho⟩:=CU Tryz.underlying24 hv h;have hC:Tryz.prog.cellsOf 24=2:=oo;rw[hC]at hl;match cs,hl with
 |[c0,c1],_=>
  obtain⟨_,hf⟩:=ho.struct Tryz.underlying24;have g0:Opens enc W 22 [c0]:=hf 0 _ rfl;have g1:Opens enc W 22 [c1]:=hf 1 _ rfl;obtain⟨n0,e0,w0⟩:=g0.int Tryz.underlying22;obtain⟨n1,e1,w1⟩:=g1.int Tryz.underlying22;simp only[List.cons.injEq,and_true]at e0 e1;subst e0 e1;exact⟨n0,n1,rfl,wf_u64 w0,wf_u64 w1⟩
theorem acts_open2{a:Option jG}{len cap:Nat}(h:∃fuel x,iQ enc Tryz.prog W 0 (fun _=>true) true fuel 25 (eo a len cap).cells.toList=some x):∃l:List ActM,len=l.length∧l.length≤maxLen∧(∀a∈l,ReqRaw a.m∧a.m.r.items.length≤a.m.ic∧a.m.r.jV.length≤a.m.tc)∧Acts W W a l:=by
 obtain⟨h1,h2⟩:=ON h;obtain⟨l,e,h3,h4⟩:=h2 len aa;exact⟨l,e.symm,jS,fun a ha=>⟨h3 a ha,(h4.ok a ha).ic,(h4.ok a ha).tc⟩,h4⟩
end
open Go.Lib
def Ma:List (String×DataW Unit):=[("unicode/utf8.acceptRanges",Rows.laid_unicode_utf8_acceptRanges),("unicode/utf8.first",Rows.laid_unicode_utf8_first)]
def QZ:List (String×DataW Unit):=[("errors.errorType",Rows.laid_errors_errorType)]
def AD:List (String×DataW Unit):=[("unicode/utf8.acceptRanges",Rows.laid_unicode_utf8_acceptRanges),("errors.errorType",Rows.laid_errors_errorType),("unicode/utf8.first",Rows.laid_unicode_utf8_first)]
theorem RP:Rows.laid_unicode_utf8_first=Lib.firstData:=oo
theorem OP:(Rows.laid_unicode_utf8_acceptRanges:DataW Unit)=Lib.acceptData:=oo
def ar7:Go.Shelf.Ren:=⟨fun n=>n,fun|5=>5|119=>405|138=>407|139=>408|n=>n,fun|3=>2|4=>3|n=>n⟩
theorem WH:U8Types Tryz.prog ar7:=⟨Tryz.underlying5,Tryz.underlying405,Tryz.underlying407,Tryz.underlying408⟩
theorem yE:(AD.filter fun x=>x.2.handleName?.isNone)=Ma:=oo
theorem wv:(AD.filter fun x=>x.2.handleName?.isSome)=QZ:=oo
theorem AC{W:jC}(hL:laidMetH Tryz.prog AD W):laidMet Tryz.prog Ma W∧handlesMet Tryz.prog QZ W:=by
 unfold laidMetH at hL;rw[wv]at hL;have h2:laidMet Tryz.prog (AD.filter fun x=>x.2.handleName?.isNone) W∧handlesMet Tryz.prog QZ W:=hL;rw[yE]at h2;exact h2
theorem tabs_of{W:jC}(hL:laidMetH Tryz.prog AD W):Tb W:=by
 have hL:=(AC hL).1;have h1:=Lib.laidMet.reads hL (.tail _ (.head _));have h2:=Lib.laidMet.reads hL (.head _);rw[RP]at h1;rw[OP]at h2;exact utf8Tabs_of_readsT WH ⟨oo,oo,oo,oo,oo,oo,oo⟩ h1 h2
theorem Tryz.XN:Tryz.prog.globalNamed "errors.errorType"=some 1:=oo
theorem Tryz.WW:(Tryz.prog.cutTypes.find? (·.1== "internal/reflectlite.rtype")).map (·.2)=some 412:=oo
theorem Tryz.oneRow:((bu Tryz.prog.types.size).filter fun t=>Tryz.prog.rowNamed t [101,114,114,111,114])=[171]:=oo
theorem er_of{W:jC}(hL:laidMetH Tryz.prog AD W):Er W:=by
 obtain⟨name,u,ty,e1,e2,e3,e4,e5⟩:=(AC hL).2 _ (eM.2 rfl);have en:name=[101,114,114,111,114]:=(Option.some.inj e1).symm;subst en;obtain rfl:=Option.some.inj (Tryz.WW.symm.trans e2);have hm:ty∈(bu Tryz.prog.types.size).filter fun t=>Tryz.prog.rowNamed t [101,114,114,111,114]:=eN.2 ⟨dh.2 e3,e4⟩;rw[Tryz.oneRow]at hm;obtain rfl:=eM.1 hm;have hh:typeHandle Tryz.prog 171=.pointer (some ⟨4,171,none⟩):=oo;rw[hh]at e5;show W.cell? _=_;simpa using World.var?_cell Tryz.XN e5 0
noncomputable def laidWorld(os:Os):jC:=
 let w0:=World.holding Tryz.prog os ⟨#[], #[],[]⟩
 let put (h:Array Obj) (g:Nat) (cs:Array jD):Array Obj:=h.modify g fun
  |.cells _ t frozen=>.cells cs t frozen
  |o=>o
 let h1:=put w0.heap 2 (Lib.firstTab.map fun z=>br .u8 z).toArray
 let h2:=put h1 3 ((bu 16).flatMap fun i=>[br .u8 (Lib.accLo i),br .u8 (Lib.accHi i)]).toArray
 let h3:=put h2 1 #[rO 26]
 {w0 with heap:=h3}
theorem laid_metL(os:Os)(args:Array jD):laidMet Tryz.prog Ma ((laidWorld os).forCall (fun _ _=>0) ⟨#[],args,[]⟩).memory:=
 (LaidIn.of_run (l:=Ma) [3,2] 8 oo oo oo oo).met
theorem laid_met(os:Os)(args:Array jD):laidMetH Tryz.prog AD ((laidWorld os).forCall (fun _ _=>0) ⟨#[],args,[]⟩).memory:=
 laidMetH_of_parts (by rw[yE];exact laid_metL os args) (by rw[wv];kernel_rfl)
end Go.Proofs.YtfcnedcahoifoaaGreatDoor

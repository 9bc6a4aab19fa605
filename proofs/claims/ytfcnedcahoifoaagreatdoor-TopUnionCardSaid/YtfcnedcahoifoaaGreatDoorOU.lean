import Derived.Deep.Slices
import Derived.Deep.Fields
import Derived.ChangeSame
import Derived.ShutString
import Derived.ProofKit
import Derived.Lib.SmallJoins
import Derived.Lib.LaidIn
import Derived.Lib.LaidU8T
import Derived.LaidHandle
import Derived.Stop.Joined
import Derived.Deep.DeepHandedRow
import Derived.Deep.DeepWitnessRowRef
import Derived.Test.YtfcnedcahoifoaaGreatDoorON
namespace Go.Proofs.YtfcnedcahoifoaaGreatDoor
open Go.RowKit
open _root_.Array renaming getElem?_eq_none→fH,getElem?_eq_some_iff→aw
open _root_.Bool renaming true_and→eF
open _root_.ByteArray renaming mk→jf
open _root_.Go renaming Act→gG,Addr→jG,Calls→jE,Code→bk9,Ending→bi6,Exit→bk7,FuncId→bl9,Operand→bl7,Oper→bk0,Program→bi3,TypeId→jH,Value→jD,World→jC,bodyPost_ret→jF,info_parts→bi5,wpAnyH_take→bk5,wp_region_held_drew→bi1
open _root_.Go.Act renaming put→gL
open _root_.Go.Addr renaming add→iU
open _root_.Go.Code renaming region→jo,wp_mono→jg
open _root_.Go.DataW renaming trod→iQ
open _root_.Go.Lib renaming hid→ai
open _root_.Go.Lit renaming int→iK
open _root_.Go.Oper renaming wp→je
open _root_.Go.Region renaming Mode→fD,free→iV,noSelect→gS,ready→eE,wanted→eQ
open _root_.Go.Result renaming andThen_ok→iF
open _root_.Go.RowKit renaming intOf→av
open _root_.Go.Sem renaming run_bind→eT,run_pure→fX
open _root_.Go.Value renaming int→br,slice→eo
open _root_.Go.World renaming block_lt_of_cell?→b8,cell?→fJ,ownsRow_nil→dY
open _root_.Int renaming toNat_natCast→dM
open _root_.List renaming append_assoc→eH,append_eq_nil_iff→iM,append_nil→eB,cons_append→dj,eq_nil_of_length_eq_zero→da,eq_of_mem_replicate→gh,ext_getElem→iO,filter_cons→eC,findIdx?_cons→jl,findIdx?_eq_none_iff→fU,flatMap_append→eZ,flatMap_cons→dg,getElem?_append_left→eL,getElem?_append_right→d7,getElem?_eq_getElem→an,getElem?_eq_some_iff→ci,getElem?_set_self→gM,getElem?_set→jq,getElem_cons_succ→ej,getElem_cons_zero→dQ,getElem_mem→ar,getElem_of_mem→dR,getElem_set→eW,getElem_take→jt,getElem_toArray→eK,length_append→cd,length_cons→c_,length_map→ax,length_nil→dp,length_replicate→ey,length_singleton→fT,length_take→cv,length→ez,map_append→dH,map_cons→df,map_map→fY,map_nil→jA,map_set→iJ,mem_append→ed,mem_cons_of_mem→dS,mem_cons_self→di,mem_cons→cw,mem_filter→eN,mem_map→dq,mem_of_getElem?→cm,mem_of_mem_take→dy,mem_or_eq_of_mem_set→dO,mem_range→dh,mem_singleton→eM,nil_append→dz,pairwise_cons→b6,pairwise_iff_getElem→cj,range_succ→fV,range→bu,replicate→de,setIfInBounds_toArray→bd,set_cons_succ→am,set_cons_zero→ak,sum_cons→aP,take_append_drop→fQ,take_length→dP,take_succ_eq_append_getElem→aj
open _root_.Nat renaming add_mul→iY,div_lt_of_lt_mul→iZ,eq_zero_or_pos→fM,le_refl→ay,lt_or_ge→fB,lt_or_gt_of_ne→iD,mul_comm→aQ,reduceAdd→ao,zero_add→au,zero_le→be
open _root_.Option renaming map_some→jb
open _root_.Or renaming inl→ge
set_option maxRecDepth 100000
set_option maxHeartbeats 16000000
set_option linter.unusedVariables false
set_option linter.unusedSimpArgs false
def Yl(w:jC)(c:lO)(e:bi6)(w':jC):Prop:=Below w w w'∧
 ((0≤c.budget∧c.budget≤1000000∧∃g,w.heap.size≤g∧e=.returned (.tuple #[jO g,jJ 0])∧kB w' (fun _=>False) g c newT)∨(¬(0≤c.budget∧c.budget≤1000000)∧e=.returned (.tuple #[.pointer none,jJ 180])))
theorem Fz(c:lO)(w:jC):
 jE Tryz.prog 27 #[.agg #[jK c.id,jJ c.budget,jK c.life],.agg #[jK c.ka,jK c.kb]] w (Yl w c):=by
 have HH:=ah (((kj.nil (fun _=>False) w).alloc w 63 [jK c.id,jJ c.budget,jK c.life]).alloc (w.heap.size+1) 24 [jK c.ka,jK c.kb])
 rcases(by omega:c.budget<0∨(¬c.budget<0∧1000000<c.budget)∨(¬c.budget<0∧¬1000000<c.budget))with hb|⟨hb,hb2⟩|⟨hb,hb2⟩
 ·have HB:=ah hb;go_in;go_wp2_with fail;refine kh (fun _=>True) HH trivial (fun V9 H9 _=>?_);clear HH;go_ret2;exact⟨H9.out.out.below aa fun _ h=>h.elim,.inr ⟨fun h=>by have:=HB.out;omega,rfl⟩⟩
 ·have HB:=ah hb2;go_in;go_wp2_with fail;refine kh (fun _=>True) HH trivial (fun V9 H9 _=>?_);clear HH;go_ret2;exact⟨H9.out.out.below aa fun _ h=>h.elim,.inr ⟨fun h=>by have:=HB.out;omega,rfl⟩⟩
 have HB:=ah hb
 have HB2:=ah hb2
 go_in
 have HH2:=ah (HH.alloc (aN w) 117 [jM,jK 0,jM,jK 0,jM,jK 0,jK c.id,jJ c.budget,jK c.life,jK c.ka,jK c.kb])
 clear HH
 go_wp2_with fail
 refine kq (fun _=>True) HH2 trivial (fun V HV _=>?_)
 clear HH2
 refine(Ry V).mono ?_
 rintro e w2⟨rfl,hb2⟩
 replace HV:=ah (HV.call hb2)
 clear hb2
 have x:=fk (HV.facts)
 have HZ:=aT (ah ((HV.put 0 1 (.int .u64 1)).put 0 2 aO))
 go_wp2_with fail
 refine kh (fun _=>True) HZ trivial (fun V9 H9 _=>?_)
 clear x HZ HV
 go_ret2
 refine⟨H9.out.out.below aa fun _ h=>h.elim,.inl ⟨by have:=HB.out;omega,by have:=HB2.out;omega,w.heap.size+1+1,jS,rfl,none,0,[],none,0,none,0,(H9.blk _ ab).2,rfl,⟨fun h=>absurd rfl h,fun _ h=>WY⟩,⟨fun h=>absurd rfl h,fun _ h=>WY⟩,ay _,fun h=>absurd rfl h,fun h=>absurd rfl h,fun h=>absurd rfl h,fun h=>absurd rfl h,ay _⟩⟩
structure Pb where
 id:Int
 budget:Int
 life:Int
def OA(x:Pb):List jD:=[jK x.id,jJ x.budget,jK x.life]
noncomputable def qF(ka kb:Int)(x:Pb):lO:=⟨x.id,x.budget,x.life,(Kl ka kb x.id).1,(Kl ka kb x.id).2⟩
noncomputable def lE(ka kb:Int)(l:List Pb):Col:=l.map fun x=>(qF ka kb x,newT)
structure pP(B:Nat)(W:jC)(cb:Nat)(ka kb:Int)(ids:List Int)(G:List Nat)(cs:List lO)(iv tv:jD):Prop where
 blk:jR W cb 81 #[jK ka,jK kb,iv,tv]
 cbB:B≤cb
 zW:W.ownsRow B 22 1 iv ids.length (qM ids)
 BX:W.ownsRow B 82 1 tv G.length (wh G)
 len:G.length=cs.length
 nd:G.Nodup
 gB:∀g∈G,B≤g∧g≠cb
 NU:∀r,iv.ownBlock=some r→r≠cb∧r∉G∧tv.ownBlock≠some r
 BN:∀r,tv.ownBlock=some r→r≠cb∧r∉G
 ten:∀(k:Nat)(hk:k<G.length)(hc:k<cs.length),kB W (fun _=>False) G[k] cs[k] newT
section
variable{B:Nat}{W W1 W':jC}{cb:Nat}{ka kb:Int}{ids:List Int}{G:List Nat}{cs:List lO}{iv tv:jD}
variable{g:Nat}
theorem pP.XJ(h:pP B W cb ka kb ids G cs iv tv)(hg:g∈G):g<W.heap.size:=by
 obtain⟨k,hk,rfl⟩:=dR hg;obtain⟨_,_,_,_,_,_,_,ht⟩:=h.ten k hk (by rw[←h.len];exact hk);exact ht.blk.lt
theorem pP.call(h:pP B W cb ka kb ids G cs iv tv)(hb:Below W W W'):pP B W' cb ka kb ids G cs iv tv:=
 ⟨h.blk.later hb,h.cbB,lf h.zW hb,lf h.BX hb,h.len,h.nd,h.gB,h.NU,h.BN,fun k hk hc=>(h.ten k hk hc).later hb⟩
theorem pP.drew(h:pP B W cb ka kb ids G cs iv tv):pP B W.drew cb ka kb ids G cs iv tv:=h.call (Below.refl _ W).drew
theorem pP.ag1(h:pP B W cb ka kb ids G cs iv tv){id:Int}{v':jD}(hr:W1.ownsRow B 22 1 v' (ids.length+1) (qM ids++[.int .u64 id]))(hg:W.grownBy W1 iv.ownBlock)(hv:v'.ownBlock=iv.ownBlock∨∃r,v'.ownBlock=some r∧W.heap.size≤r):
 pP B (W1.setCell ⟨cb,2,none⟩ v') cb ka kb (ids++[id]) G cs v' tv:=by
 have hcw:=h.blk.lt
 have hv2:∀r,v'.ownBlock=some r→r≠cb∧r∉G∧tv.ownBlock≠some r:=fun r e=>by
  rcases hv with e2|⟨q,e2,hq⟩
  ·exact h.NU r (e2▸e)
  rw[e2]at e;cases e;exact⟨by omega,fun hm=>by have:=h.XJ hm;omega,fun e3=>by have:=(pf h.BX _ e3).2;omega⟩
 have hs:=k6 W1 cb 2 v'
 have hb1:jR W1 cb 81 #[jK ka,jK kb,iv,tv]:=h.blk.grown hg (fun e=>(h.NU _ e.symm).1 rfl)
 have ht1:=od h.BX hg (fun r e e2=>(h.NU r e2).2.2 e)
 refine⟨?_,h.cbB,?_,od ht1 hs (fun r e e2=>by cases e2;exact(h.BN _ e).1 rfl),h.len,h.nd,h.gB,hv2,h.BN,fun k hk hc=>?_⟩
 ·have:=hb1.kY 2 v';simpa using this
 ·have:=od hr hs (fun r e e2=>by cases e2;exact(hv2 _ e).1 rfl);rw[cd,fT,show qM (ids++[id])=qM ids++[.int .u64 id] by simp[qM]];exact this
 have hgm:=ar hk
 have h1:Out (fun b=>iv.ownBlock=some b) W W1:=⟨hg.os,hg.tape,hg.output,hg.size,fun i hi hx=>hg.block i hi fun e=>hx e.symm⟩
 have h2:Out (fun b=>b=cb) W1 (W1.setCell ⟨cb,2,none⟩ v'):=(Out.refl (fun b=>b=cb) W1).setCell (p:=⟨cb,2,none⟩) (.inl rfl) _
 exact((h.ten k hk hc).out h1 (fun _ e=>e.elim) fun e=>(h.NU _ e).2.1 hgm).out h2 (fun _ e=>e.elim) (h.gB _ hgm).2
variable{c:lO}
theorem pP.Ye(h:pP B W cb ka kb ids G cs iv tv){v':jD}(hr:W1.ownsRow B 82 1 v' (G.length+1) (wh G++[.pointer (aC g)]))(hg:W.grownBy W1 tv.ownBlock)(hv:v'.ownBlock=tv.ownBlock∨∃r,v'.ownBlock=some r∧W.heap.size≤r)
 (mo:kB W (fun _=>False) g c newT) (hgB:B≤g) (hgc:g≠cb) (Xx:g∉G) (hgi:iv.ownBlock≠some g) (hgt:tv.ownBlock≠some g):
 pP B (W1.setCell ⟨cb,3,none⟩ v') cb ka kb ids (G++[g]) (cs++[c]) iv v':=by
 have hcw:=h.blk.lt
 have hgw:g<W.heap.size:=by obtain⟨_,_,_,_,_,_,_,ht⟩:=mo;exact ht.blk.lt
 have hv2:∀r,v'.ownBlock=some r→r≠cb∧r∉G∧iv.ownBlock≠some r∧r≠g:=fun r e=>by
  rcases hv with e2|⟨q,e2,hq⟩
  ·have e3:tv.ownBlock=some r:=e2▸e;exact⟨(h.BN r e3).1,(h.BN r e3).2,fun e4=>(h.NU r e4).2.2 e3,fun e4=>hgt (e4▸e3)⟩
  rw[e2]at e;cases e;exact⟨jS,fun hm=>by have:=h.XJ hm;omega,fun e3=>by have:=(pf h.zW _ e3).2;omega,jS⟩
 have hs:=k6 W1 cb 3 v'
 have hb1:jR W1 cb 81 #[jK ka,jK kb,iv,tv]:=h.blk.grown hg (fun e=>(h.BN _ e.symm).1 rfl)
 have ht1:=od h.zW hg (fun r e e2=>(h.NU r e).2.2 e2)
 have h1:Out (fun b=>tv.ownBlock=some b) W W1:=⟨hg.os,hg.tape,hg.output,hg.size,fun i hi hx=>hg.block i hi fun e=>hx e.symm⟩
 have h2:Out (fun b=>b=cb) W1 (W1.setCell ⟨cb,3,none⟩ v'):=(Out.refl (fun b=>b=cb) W1).setCell (p:=⟨cb,3,none⟩) (.inl rfl) _
 refine⟨?_,h.cbB,od ht1 hs (fun r e e2=>by cases e2;exact(h.NU _ e).1 rfl),?_,by simp[h.len],?_,fun x hx=>?_,fun r e=>⟨(h.NU r e).1,fun hm=>?_,fun e2=>(hv2 r e2).2.2.1 e⟩,fun r e=>⟨(hv2 r e).1,fun hm=>?_⟩,fun k hk hc=>?_⟩
 ·have:=hb1.kY 3 v';simpa using this
 ·have:=od hr hs (fun r e e2=>by cases e2;exact(hv2 _ e).1 rfl);rw[cd,fT,show wh (G++[g])=wh G++[.pointer (aC g)] by simp[wh]];exact this
 ·refine List.nodup_append.2 ⟨h.nd,lV,fun a ha b hb e=>?_⟩;simp at hb;exact Xx (by rw[←hb,←e];exact ha)
 ·rcases ed.1 hx with hx|hx
  ·exact h.gB x hx
  simp at hx;rw[hx];exact⟨hgB,hgc⟩
 ·rcases ed.1 hm with hm|hm
  ·exact(h.NU r e).2.1 hm
  simp at hm;rw[hm]at e;exact hgi e
 ·rcases ed.1 hm with hm|hm
  ·exact(hv2 r e).2.1 hm
  simp at hm;exact(hv2 r e).2.2.2 hm
 by_cases hkl:k<G.length
 ·have hgm:=ar hkl;rw[List.getElem_append_left hkl,List.getElem_append_left (by rw[←h.len];exact hkl)];exact((h.ten k hkl (by rw[←h.len];exact hkl)).out h1 (fun _ e=>e.elim) fun e=>(h.BN _ e).2 hgm).out h2 (fun _ e=>e.elim) (h.gB _ hgm).2
 have hkk:k=G.length:=by simp at hk;omega
 subst hkk
 rw[List.getElem_append_right aa,List.getElem_append_right (by rw[h.len];exact ay _)]
 simp only[Nat.sub_self,dQ,show G.length-cs.length=0 by rw[h.len];omega]
 exact(mo.out h1 (fun _ e=>e.elim) fun e=>hgt e).out h2 (fun _ e=>e.elim) hgc
variable{C:Col}
theorem pP.col(h:pP B W cb ka kb ids G cs iv tv)(hi:ids=C.map (·.1.id))(hc:C=cs.map fun c=>(c,newT))(hB:4≤B):kE (·∈G) W cb G ka kb C:=by
 have hcl:C.length=G.length:=by rw[hc,ax,h.len]
 have hil:ids.length=C.length:=by rw[hi,ax]
 obtain⟨IA,ic,e1,_,hr1,ha1⟩:=li h.zW;obtain⟨TA,tc,e2,_,hr2,ha2⟩:=li h.BX;refine⟨⟨IA,ic,TA,tc,?_,⟨?_,fun _ ad e hm=>?_⟩,⟨hr2,fun _ ad e hm=>?_⟩⟩,fun hm=>(h.gB _ hm).2 rfl,hcl.symm,h.nd,fun g hg=>hg,fun g hg=>by have:=(h.gB g hg).1;omega,fun k hk hg=>?_⟩
 ·have:=h.blk;rw[e1,e2,hil,←hcl]at this;exact this
 ·rw[EB,←hi];exact hr1
 ·subst e;rw[e1]at h;exact(h.NU ad.block rfl).2.1 hm
 ·subst e;rw[e2]at h;exact(h.BN ad.block rfl).2 hm
 have e3:C[k]=(cs[k]'(by rw[←h.len];exact hg),newT):=by simp[hc]
 rw[e3];exact(h.ten k hg (by rw[←h.len];exact hg)).mono fun _ e=>e.elim
end
theorem nH.new(c:lO):nH c newT:=⟨GT.nil,GG.new,GL.new _ _,⟨by show(0:Int)≤0;omega,by show(0:Int)≤_;omega⟩,rfl⟩
instance(x0:Pb):CoeOut (sH 21 x0) (Array jD):=⟨fun _=>#[jK x0.id,jJ x0.budget,jK x0.life]⟩
theorem Tryz.Rb:(Tryz.prog.info? 82).map (fun i=>(i.zero,i.size,i.bytes))=some (some (.pointer none),1,8):=oo
variable{w:jC}{ops:Array bk0}{o:bk0}{a:gG}{Q:bk7→gG→jC→Prop}
theorem ti{P:bi3}{K:gG→jC→Prop}{E:Prop}(hgd:o.guard=none)(s x:bl7)(t:jH)
 (ho:o.op=.call {callee:=.builtin .append,args:=#[s,x],argTypes:=#[t,t]})
 (base:Nat) (e:jH) (i:TypeInfo) (z:jD) (size bytes:Nat) (ht:P.underlying t=some (.slice e)) (hi:P.info? e=some i) (hz:i.zero=some z)
 (hsize:i.size=size) (hby:i.bytes=bytes) (hzs:z.cells.size=size) (hsz:0<size)
 (v:jD) (n:Nat) (xs:List jD) (hs:a.eval s=v) (hown:w.ownsRow base e size v n xs)
 (B:Nat) (A:Option jG) (m c:Nat) (news:List jD) (hx:a.eval x=.slice A m c) (hm:news.length=m*size) (hr:Rd w B A news) (h1:∀u∈news,u.oneCell'=true)
 (h63:n+m≤maxLen) (hbytes:(n+m)*bytes≤140737488355328) (hbase:base≤w.heap.size)
 (h:∀A' c' w',w'.ownsRow base e size (.slice A' (n+m) c') (n+m) (xs++news)→w.grownBy w' v.ownBlock→((eo A' (n+m) c').ownBlock=v.ownBlock∨(eo A' (n+m) c').ownBlock=some w)→K (a.put o.dst (.slice A' (n+m) c')) w'):
 if eQ o (yielded ops a.tmps)=true then je P o a w K Q else E:=by
 have hw:eQ o (yielded ops a.tmps)=true:=by simp[eQ,hgd]
 rw[if_pos hw]
 obtain⟨v',w',hrun,h2,h3,h4⟩:=rg (P:=P) w base t o.type e i z size bytes ht hi hz hsize hby hzs hsz v n xs hown B A m c news hm hr h1 h63 hbytes hbase
 obtain⟨A',c',rfl,_⟩:=lB h2
 unfold je execOp
 simp only[ho,resolve,invoke,builtin,eT,fX,iF,List.map_toArray,df,jA,hs,hx,hrun]
 exact h A' c' w' h2 h3 h4
variable{ka kb:Int}{k:Nat}
theorem Hp{l:List Pb}(hk:k<l.length)(hnd:l.Pairwise fun a b=>a.id≠b.id):m6 (lE ka kb (l.take k)) l[k].id=none:=by
 unfold m6 lE;rw[fU];intro x hx;obtain⟨y,hy,rfl⟩:=dq.1 hx;obtain⟨j,hj,rfl⟩:=dR hy;have hjk:j<k:=by simp at hj;omega
 rw[jt];have:=cj.1 hnd j k jS hk hjk;simpa[qF]using this
variable{B:Nat}{ids:List Int}{G:List Nat}{C:Col}{X:Nat→Prop}
theorem pP.ax6{W:jC}{cb:Nat}{cs:List lO}{iv tv:jD}(h:pP B W cb ka kb ids G cs iv tv)(hi:ids=C.map (·.1.id))(hc:C=cs.map fun c=>(c,newT))(hB:4≤B)(hX:∀b,X b→b∈G∨b<B)(hGX:∀g∈G,X g):kE X W cb G ka kb C:=by
 have hcl:C.length=G.length:=by rw[hc,ax,h.len]
 have hil:ids.length=C.length:=by rw[hi,ax]
 obtain⟨IA,ic,e1,_,hr1,ha1⟩:=li h.zW;obtain⟨TA,tc,e2,_,hr2,ha2⟩:=li h.BX;refine⟨⟨IA,ic,TA,tc,?_,⟨?_,fun _ ad e hm=>?_⟩,⟨hr2,fun _ ad e hm=>?_⟩⟩,fun hm=>?_,hcl.symm,h.nd,hGX,fun g hg=>by have:=(h.gB g hg).1;omega,fun k hk hg=>?_⟩
 ·have:=h.blk;rw[e1,e2,hil,←hcl]at this;exact this
 ·rw[EB,←hi];exact hr1
 ·rcases hX _ hm with hm|hm
  ·subst e;rw[e1]at h;exact(h.NU ad.block rfl).2.1 hm
  have:=ha1 ad e;omega
 ·rcases hX _ hm with hm|hm
  ·subst e;rw[e2]at h;exact(h.BN ad.block rfl).2 hm
  have:=ha2 ad e;omega
 ·rcases hX _ hm with hm|hm
  ·exact(h.gB _ hm).2 rfl
  have:=h.cbB;omega
 have e3:C[k]=(cs[k]'(by rw[←h.len];exact hg),newT):=by simp[hc]
 rw[e3];exact(h.ten k hg (by rw[←h.len];exact hg)).mono fun _ e=>e.elim
def VF(w:jC)(ka kb:Int)(l:List Pb)(e:bi6)(w':jC):Prop:=Below w w w'∧∃cb G,e=.returned (.tuple #[jO cb,jJ 0])∧kE (·∈G) w' cb G ka kb (lE ka kb l)∧∀g∈G,w.heap.size≤g
def S4(w:jC)(ka kb:Int)(l:List Pb)(e:bi6)(w':jC):Prop:=Below w w w'∧∃cb G,e=.returned (.tuple #[jO cb,jJ 0])∧(∀X:Nat→Prop,(∀b,X b→b∈G∨b<w.heap.size)→(∀g∈G,X g)→kE X w' cb G ka kb (lE ka kb l))∧∀g∈G,w.heap.size≤g
theorem Ds(ka kb:Int)(A:Option jG)(l:List Pb)(cap:Nat)(h1l:1≤l.length)(h8l:l.length≤8)(hnd:l.Pairwise fun a b=>a.id≠b.id)(hbd:∀x∈l,0≤x.budget∧x.budget≤1000000)(hu:∀x∈l,U x.id)(w:jC)(hw:4≤w.heap.size)(hS:Rd w w A (l.flatMap OA)):
 jE Tryz.prog 15 #[cI ka kb,jN A l cap] w (S4 w ka kb l):=by
 obtain⟨t0,ht0,tz0,tz1,tz2⟩:=bi5 Tryz.p_
 obtain⟨t1,ht1,hy0,hy1,hy2⟩:=bi5 Tryz.Rb
 have HS:=ah hS
 have HND:=ah hnd
 have IY:=ah hbd
 have HU:=ah hu
 have d1:decide ((l.length:Int)<1)=false:=ag
 have d2:decide ((8:Int)<l.length)=false:=ag
 have HB0:=ah (jP (jQ (w.alloc (aW ka kb))) (.cells #[jK ka,jK kb,jM,jM] 81))
 have IT:Hid (pP (w.heap.size+1) ((w.alloc (aW ka kb)).alloc (.cells #[jK ka,jK kb,jM,jM] 81)) (w.heap.size+1) ka kb [] [] [] aO aO):=
  ⟨jR.new2 w _ _ _,ay _,dY _ _ _ _,dY _ _ _ _,rfl,List.nodup_nil,(fun _ h=>qch),(fun _ h=>qch),(fun _ h=>qch),(fun _ h=>qch)⟩
 have HKB:=ah (jR.new w 24 #[jK ka,jK kb])
 obtain⟨W0,hW0⟩:∃W0,W0=w.alloc (aW ka kb):=⟨_,rfl⟩
 have hWs:W0.heap.size=w.heap.size+1:=by rw[hW0];simp
 have HWS:=ah hWs
 have HWB:(bB w W0):=by show Below _ _ _;rw[hW0];exact jP (jQ w) _
 clear hS hnd hbd hu
 go_in
 go_wp2_with fail
 rw[←hW0]at HB0 IT HKB
 clear d1 d2
 go_loopw[24] (fun i wr=>∃(k:Nat)(G:List Nat)(iv tv:jD),i=(aJ k)∧k≤l.length∧Hid (pP (w.heap.size+1) wr (w.heap.size+1) ka kb ((l.take k).map (·.id)) G ((l.take k).map (qF ka kb)) iv tv)∧(bB W0 wr)) (fun i _=>l.length-(av i).toNat)
 case atStart=>
  rw[←hW0];exact⟨0,[],_,_,rfl,be _,IT,HB0⟩
 clear IT HB0 hW0
 obtain⟨k,G,iv,tv,rfl,hkk,HN,HB⟩:=hrel
 obtain⟨ids,EF⟩:∃ids,ids=(l.take k).map (·.id):=⟨_,rfl⟩
 rw[←EF]at HN
 have SW:=ah EF
 have hil:ids.length≤8:=by rw[EF,ax,cv];omega
 clear EF
 obtain⟨IA,ic,rfl,-⟩:=li HN.zW
 obtain⟨TA,tc,rfl,-⟩:=li HN.BX
 have hcw:=HN.blk.lt
 by_cases h1:k<l.length
 ·have d1:decide ((k:Int)<l.length)=true:=ae;obtain⟨b,off,rfl,hb,hc⟩:=oP (n:=3) (fun _=>rfl) B8 HS jS;have hs0:=HB.size;have S1:(bB w wr):=HWB.trans (HB.mono jS);have i0:wr.cell? ⟨b,off+k*3,none⟩=some (.int .u64 l[k].id):=(S1.cell (p:=⟨b,off+k*3+0,none⟩) hb).trans (hc k h1 0 _ B8 rfl);have i1':wr.cell? ⟨b,off+k*3+1,none⟩=some (.int .i64 l[k].budget):=(S1.cell (p:=⟨b,off+k*3+1,none⟩) hb).trans (hc k h1 1 _ B8 rfl);have i2':wr.cell? ⟨b,off+k*3+2,none⟩=some (.int .u64 l[k].life):=(S1.cell (p:=⟨b,off+k*3+2,none⟩) hb).trans (hc k h1 2 _ B8 rfl);have xO:(0:Int)≤k:=jS;have xN:(k:Int)<l.length:=jS;have hbw:b<wr.heap.size:=by have:=S1.size;omega
  have Ww:Hid (m6 (lE ka kb (l.take k)) l[k].id=none):=Hp h1 HND;have Fi:Hid (l.take (k+1)=l.take k++[l[k]]):=aj h1;have HXB:Hid (0≤l[k].budget∧l[k].budget≤1000000):=IY _ (ar h1);have HXU:Hid (U l[k].id):=HU _ (ar h1);clear hc;generalize l[k]=c0 at*
  have S0:Hid (kE (·∈G) wr (w.heap.size+1) G ka kb (lE ka kb (l.take k))):=HN.col (by rw[SW];unfold lE;rw[fY];try rfl) (by unfold lE;rw[fY];try rfl) jS;have I1:(lE ka kb (l.take k)).length≤100:=by unfold lE;rw[ax,cv];omega
  have hba:=jP (jQ wr) (.cells (lz 21 c0) 63);have BE:=ah (jR.new wr 63 (lz 21 c0));have MQ:=ah (HN.call hba);have HB1:Hid (Below W0 W0 (wr.alloc (.cells (lz 21 c0) 63))):=HB.trans (hba.mono hs0);have QF:=ah (uA (·∈G) (w.heap.size+1) G ka kb (lE ka kb (l.take k)) c0.id I1 _ (S0.later hba));rw[Ww]at QF;unfold Ad at QF;clear hba;go_wp2_with fail;refine QF.mono ?_;rintro e w1⟨rfl,rfl⟩;clear QF i0 i1' i2' d1 S0 Ww;go_wp2_with fail;refine Ql (fun V=>jR V wr 63 (lz 21 c0)∧pP (w.heap.size+1) V (w.heap.size+1) ka kb ids G ((l.take k).map (qF ka kb)) (cZ IA ids ic) (.slice TA G.length tc)∧Below W0 W0 V) ⟨BE,MQ,HB1⟩ (fun V hV=>?_);obtain⟨hV1,hV2,AQ⟩:=hV;clear BE MQ HB1;generalize wr.heap.size=bx at*
  have BE:=ah hV1.drew;have MQ:=ah hV2.drew;have HB1:Hid (Below W0 W0 V.drew):=AQ.drew;clear hV1 hV2 AQ;have c0':=ce BE 0;have c1':=ce BE 1;have c2':=ce BE 2;have SU:Hid (jR V.drew w 24 #[jK ka,jK kb]):=HKB.below HB1 jS;have c3':=ce SU 0;have Ip:=ce SU 1;have hbx:bx<V.drew.heap.size:=BE.lt;have hkx:w.heap.size<V.drew.heap.size:=SU.lt;refine bi1 (S:=(fun w'=>w'.cell? ⟨bx,0,none⟩=some (.int .u64 c0.id)∧w'.cell? ⟨bx,1,none⟩=some (.int .i64 c0.budget)∧w'.cell? ⟨bx,2,none⟩=some (.int .u64 c0.life)∧(rU 8 w' w ka kb))) oo ⟨c0',c1',c2',c3',Ip⟩ (fun hHeld=>?_);refine re hHeld ?_;generalize V.drew=V2 at*
  refine pL 4 fun K hK=>?_;go_simp;refine(Mb ka kb c0.id HXU V2).mono ?_;rintro e w3⟨rfl,hb3⟩;have BD:=ah (BE.later hb3);have Wt:=ah (MQ.call hb3);have hz2:=HB1.size;have HB3:(bB W0 w3):=HB1.trans (hb3.mono hz2);have Cs:=ah (SU.later hb3);have hz3:=hb3.size;clear BE MQ HB1 SU hb3 c0' c1' c2' c3' Ip;have c0':=ce BD 0;have c1':=ce BD 1;have c2':=ce BD 2;have c3':=ce Cs 0;have Ip:=ce Cs 1;refine hK.out _ _ ⟨c0',c1',c2',c3',Ip⟩ (fun hHeld=>?_);clear hK K;refine az ?_;refine pL 5 fun K hK=>?_;go_simp;refine(Fz (qF ka kb c0) w3).mono ?_;rintro e w4⟨hb4,h4⟩;obtain⟨-,-,g,hg3,rfl,mo⟩|⟨hbad,-⟩:=h4
  rotate_left
  ·exact absurd HXB hbad
  have xc:=ah mo;have Cq:=ah (BD.later hb4);have HN4:=ah (Wt.call hb4);have HB4:(bB W0 w4):=HB3.trans (hb4.mono HB3.size);have MR:=ah (Cs.later hb4);have Rg:=hb4.size;have Zu:Hid ((∀r,(eo IA ids.length ic).ownBlock=some r→r<w3.heap.size)∧(∀r,(eo TA G.length tc).ownBlock=some r→r<w3.heap.size)∧(∀x∈G,x<w3.heap.size)∧w.heap.size+1<w3.heap.size):=⟨fun r e=>(pf Wt.zW r e).2,fun r e=>(pf Wt.BX r e).2,fun x hx=>Wt.XJ hx,Wt.blk.lt⟩;clear BD Wt HB3 Cs hb4 c0' c1' c2' c3' Ip mo;have c0':=ce Cq 0;have c1':=ce Cq 1;have c2':=ce Cq 2;have c3':=ce MR 0;have Ip:=ce MR 1;refine hK.out _ _ ⟨c0',c1',c2',c3',Ip⟩ (fun hHeld=>?_);clear hK K;refine az ?_;refine re hHeld ?_;refine hdn ?_;clear hHeld;go_wp2_with fail;clear c0' c1' c2' c3' Ip;have HN5:=ah HN4.drew;have Yv:Hid (jR w4.drew bx 63 (lz 21 c0)):=Cq.drew;have y_:Hid (Below W0 W0 w4.drew):=HB4.drew;have HT5:Hid (kB w4.drew (fun _=>False) g (qF ka kb c0) newT):=xc.later (Below.refl _ w4).drew;have hz5:w3.heap.size≤w4.drew.heap.size:=Rg;have k0:w4.drew.cell? (bW w)=some (cZ IA ids ic):=HN5.blk.cell 2;have k1:w4.drew.cell? ⟨bx,0,none⟩=some (.int .u64 c0.id):=Yv.cell 0;clear HN4 Cq HB4 xc MR Rg;refine kG (S:=(fun w'=>w'.cell? (bW w)=some (cZ IA ids ic)∧w'.cell? ⟨bx,0,none⟩=some (.int .u64 c0.id))) (s:=11) oo ?_;refine sU ⟨k0,k1⟩ ?_;generalize w4.drew=w5 at*
  refine oY 7 fun K hK=>?_;go_simp;have hba:Below w5 w5 (w5.alloc (.cells #[jK c0.id] 22)):=jP (jQ w5) _;have HRA:Hid (Rd (w5.alloc (.cells #[jK c0.id] 22)) (dE w5) (aM w5) [jK c0.id]):=JJ (cs:=[jK c0.id]) (jR.new w5 _ _);have Vt:=ah (HN5.call hba);have Vr:=ah (Yv.later hba);have HT6:=ah (HT5.later hba);have VA:Hid (Below W0 W0 (w5.alloc (.cells #[jK c0.id] 22))):=y_.trans (hba.mono y_.size);have hz6:w5.heap.size≤(w5.alloc (.cells #[jK c0.id] 22)).heap.size:=hba.size;have hgx:g<w5.heap.size:=by obtain⟨_,_,_,_,_,_,_,ht⟩:=HT5;exact ht.blk.lt
  clear hba k0 k1 HN5 Yv HT5 y_;generalize w5.alloc (.cells #[jK c0.id] 22)=w6 at*
  have k0:w6.cell? (bW w)=some (cZ IA ids ic):=Vt.blk.cell 2;have k1:w6.cell? ⟨bx,0,none⟩=some (.int .u64 c0.id):=Vr.cell 0;refine hK.out _ _ (fun _=>⟨k0,k1⟩) ?_;clear hK K;try try simp only[gL,eK,ej,dQ,bd,ak,am]
  refine oY 8 fun K hK=>?_;refine ti rfl (.tmp 48) (.tmp 51) 33 rfl (w.heap.size+1) 22 t0 (.int .u64 0) 1 8 Tryz.underlying33 ht0 tz0 tz1 tz2 rfl B8 (cZ IA ids ic) ids.length _ rfl Vt.zW (dE w5) (aM w5) 1 1 [jK c0.id] rfl lV HRA (by intro u hu;simp at hu;subst hu;rfl) O0 jS (by have:=Vt.blk.lt;omega) ?_;intro A3 c3 w8 hown hgrow hv;have Zo:=ah (Vt.ag1 (v':=.slice A3 (ids.length+1) c3) hown hgrow (by rcases hv with e|e;exact .inl e;exact .inr ⟨_,e,ay _⟩));have sZ:=Vt.blk.grown hgrow (fun e=>(Vt.NU _ e.symm).1 rfl);have aa4:∀r,(eo IA ids.length ic).ownBlock=some r→r≠bx:=fun r hr e=>by
   obtain⟨_,⟨h9,_⟩|⟨r',cap',cur',hv',hb',hh',_⟩⟩:=Vt.zW
   ·rw[h9]at hr;cases hr
   rw[hv']at hr
   cases hr
   have e9:r'=bx:=e;rw[e9]at hh';rw[show w6.heap[bx]? =_ from Vr]at hh';injection hh' with hh';injection hh' with _ hh';exact absurd hh' B8
  have ak1:Hid (jR w8 bx 63 (lz 21 c0)):=Vr.grown hgrow (fun e=>aa4 _ e.symm rfl);have hgi:(eo IA ids.length ic).ownBlock≠some g:=fun e=>by have:=Zu.1 g e;omega
  have HT7:Hid (kB (w8.setCell (bW w) (.slice A3 (ids.length+1) c3)) (fun _=>False) g (qF ka kb c0) newT):=
   (HT6.out.out (w':=w8) (X:=fun b=>(eo IA ids.length ic).ownBlock=some b) ⟨hgrow.os,hgrow.tape,hgrow.output,hgrow.size,fun i hi hx=>hgrow.block i hi fun e=>hx e.symm⟩ (fun _ e=>e.elim) hgi).out (X:=fun b=>b=w.heap.size+1) ((Out.refl (fun b=>b=w.heap.size+1) w8).setCell (p:=(bW w)) (.inl rfl) _) (fun _ e=>e.elim) (by have:=Zu.2.2.2;omega)
  have HB7:Hid (Below W0 W0 (w8.setCell (bW w) (.slice A3 (ids.length+1) c3))):=(VA.grown hgrow VA.size (fun r e=>by have:=(pf Vt.zW r e).1;have:=HWS;omega)).setCell (p:=(bW w)) (by show W0.heap.size≤w.heap.size+1;have:=HWS;omega) _;have HGX:Hid ((eo A3 (ids.length+1) c3).ownBlock≠some g):=fun e=>by
   rcases hv with e2|e2
   ·exact hgi (e2▸e)
   rw[e2]at e;cases e;omega
  have fz:w8.frozen? (bW w)=false:=sZ.frozen 2;have zl:w.heap.size+1<w8.heap.size:=sZ.lt;have zn:(eo A3 (ids.length+1) c3)=.slice A3 (ids.length+1) c3:=rfl;clear k0 k1 hown hgrow hv HRA zn;have k0:w8.cell? (bW w)=some (cZ IA ids ic):=sZ.cell 2;have k1:w8.cell? ⟨bx,0,none⟩=some (.int .u64 c0.id):=ak1.cell 0;clear sZ aa4 hgi Vt Vr HT6 VA;refine hK.out _ _ (fun _=>⟨k0,k1⟩) ?_;clear hK K;try try simp only[gL,eK,ej,dQ,bd,ak,am]
  refine sU ⟨k0,k1⟩ ?_;refine oY 11 fun K hK=>?_;go_simp;refine hK.out _ _ (fun h=>qch) ?_;clear hK K;try try simp only[gL,eK,ej,dQ,bd,ak,am]
  refine yi ?_;clear k0 k1 fz ak1;have hz7:w8.heap.size=(w8.setCell (bW w) (.slice A3 (ids.length+1) c3)).heap.size:=lV;generalize w8.setCell (bW w) (.slice A3 (ids.length+1) c3)=w7 at*
  have hm2:w7.cell? (lz 51 w)=some (.slice TA G.length tc):=Zo.blk.cell 3;go_wp2_with(at_builtin;refine Stop.i ?_);unfold Stop;have HOT:Hid ((w7.alloc (.cells #[jO g] 82)).ownsRow (w.heap.size+1) 82 1 (.slice TA G.length tc) G.length (wh G)):=Zo.BX.alloc _;refine kr _ rfl (.tmp 59) (.tmp 61) 79 rfl (w.heap.size+1) 82 t1 (.pointer none) 1 8 Tryz.underlying79 ht1 hy0 hy1 hy2 rfl B8 (.slice TA G.length tc) G.length _ rfl HOT _ _ 1 1 [jO g] rfl rfl (tY (jR.new w7 _ #[jO g])) (fun u hu=>by simp at hu;rw[hu];try rfl) (by have:=Zo.len;rw[ax,cv]at this;unfold maxLen;omega) (by have:=Zo.len;rw[ax,cv]at this;omega) mO ?_;intro v' W hown hgrow hv;obtain⟨A2,c2,rfl,-⟩:=lB hown;have Ws:=ah (Zo.call (jP (jQ w7) (.cells #[jO g] 82)));have aT0:g<w7.heap.size:=by obtain⟨_,_,_,_,_,_,_,ht⟩:=HT7;exact ht.blk.lt
  have HN9:=ah (Ws.Ye (c:=qF ka kb c0) (v':=.slice A2 (G.length+1) c2) hown hgrow (by rcases hv with e|e;exact .inl e;exact .inr ⟨_,e,ay _⟩) (HT7.later (jP (jQ w7) _)) (by have:=Zu.2.2.2;omega) (by have:=Zu.2.2.2;omega) (fun hm=>by have:=Zu.2.2.1 g hm;omega) HGX (fun e=>by have:=Zu.2.1 g e;omega));have BI:Hid (Below W0 W0 (W.setCell (lz 51 w) (.slice A2 (G.length+1) c2))):=((jP HB7 (.cells #[jO g] 82)).grown hgrow (by simp;have:=HB7.size;omega) (fun r e=>by have:=(pf Zo.BX r e).1;have:=HWS;omega)).setCell (p:=(lz 51 w)) (by show W0.heap.size≤w.heap.size+1;have:=HWS;omega) _;have zc:W.cell? (lz 51 w)=some (.slice TA G.length tc):=by
   have h9:=Ws.blk.grown hgrow (fun e=>(Ws.BN _ e.symm).1 rfl);have:=h9.cell 3;simpa using this
  have zf:W.frozen? (lz 51 w)=false:=(Ws.blk.grown hgrow (fun e=>(Ws.BN _ e.symm).1 rfl)).frozen 3;have zl:w.heap.size+1<W.heap.size:=(Ws.blk.grown hgrow (fun e=>(Ws.BN _ e.symm).1 rfl)).lt;clear hown hgrow hv HOT Ws;go_wp2;go_roundw
  case rel=>
   refine⟨k+1,G++[g],.slice A3 (ids.length+1) c3,.slice A2 (G.length+1) c2,CJ,jS,?_,BI⟩;show pP _ _ _ _ _ _ _ _ _ _;rw[Fi,dH,dH,←SW];exact HN9
  exact No
 have hkn:k=l.length:=jS
 subst hkn
 have d1:decide ((l.length:Int)<l.length)=false:=lV
 have OT:=HN
 rw[SW,dP]at OT
 have HBE:=ah (HWB.trans (HB.mono jS))
 clear HN HB
 go_wp2
 go_ret2
 exact⟨HBE,_,G,rfl,fun X hX hGX=>OT.ax6 (by unfold lE;rw[fY];try rfl) (by unfold lE;rw[fY];try rfl) jS (fun b hb=>(hX b hb).imp id fun q=>jS) hGX,fun g hg=>by have:=(OT.gB g hg).1;omega⟩
theorem Sa(ka kb:Int)(A:Option jG)(l:List Pb)(cap:Nat)(h1l:1≤l.length)(h8l:l.length≤8)(hnd:l.Pairwise fun a b=>a.id≠b.id)(hbd:∀x∈l,0≤x.budget∧x.budget≤1000000)(hu:∀x∈l,U x.id)(w:jC)(hw:4≤w.heap.size)(hS:Rd w w A (l.flatMap OA)):
 jE Tryz.prog 15 #[cI ka kb,jN A l cap] w (VF w ka kb l):=by
 refine(Ds ka kb A l cap h1l h8l hnd hbd hu w hw hS).mono ?_
 rintro e w'⟨h1,cb,G,h2,h3,h4⟩
 exact⟨h1,cb,G,h2,h3 _ (fun _ h=>.inl h) (fun _ h=>h),h4⟩
instance(x0:Int)(x1:Int):CoeOut (wU 49 x0 x1) Obj:=⟨fun _=>(.cells #[.int .u64 1,.int .i64 x0,.int .u64 x1,.int .u64 2,.int .i64 x0,.int .u64 x1] 63)⟩
theorem two_any(b l:Int)(w:jC):jE Tryz.prog 13 #[.int .i64 b,.int .u64 l] w fun e w'=>e=.returned (.slice (some (lz 43 w)) 2 2)∧w'=w.alloc (lI 49 b l):=by
 go_in;go_wp2;go_ret;exact⟨rfl,rfl⟩
theorem nK(id:Int)(w:jC):jE Tryz.prog 10 #[.int .u64 id] w fun e w'=>e=.returned (.agg #[.int .u64 id,.int .i64 3,.int .u64 0])∧(bJ w w'):=by
 have HB:=ah (jP (jQ w) (.cells #[jK id,jJ 3,jK 0] 30));go_in;go_wp2;refine jF (v:=.agg #[jK id,jJ 3,jK 0]) (by simp[results,Tryz.results10,go_sem]) rfl ?_;exact⟨rfl,HB⟩
def m9(b l:Int):List Pb:=[⟨1,b,l⟩,⟨2,b,l⟩]
theorem Jb(b l:Int)(w:jC):Rd (w.alloc (lI 49 b l)) (w.alloc (lI 49 b l)).heap.size (some (lz 43 w)) ((m9 b l).flatMap OA):=tY (jR.new w _ _)
theorem vR(b l:Int):(m9 b l).Pairwise fun x y=>x.id≠y.id:=by simp[m9]
theorem zL(b l:Int):∀x∈m9 b l,U x.id:=fun x hx=>by
 simp[m9]at hx;rcases hx with rfl|rfl
 ·exact⟨by show(0:Int)≤1;omega,by show(1:Int)≤18446744073709551615;omega⟩
 exact⟨by show(0:Int)≤2;omega,by show(2:Int)≤18446744073709551615;omega⟩
def MD:ByteArray:=⟨#[97,61,120]⟩
def O4:List kI:=[(⟨#[97]⟩,⟨#[120]⟩)]
theorem TH:pE (tx MD)=some O4:=TO
theorem WQ:setB O4=true:=TO
theorem Qg:vt (tx MD)=some O4:=by
 refine Gk ?_;unfold mW;rw[TH];exact⟨O4,List.Perm.refl _,fun a b h1 h2=>by simp[O4]at h2;omega,by rw[if_pos WQ]⟩
theorem VR:Sc.lU (tx MD)=some [((⟨#[97]⟩:ByteArray),(⟨#[120]⟩:ByteArray))]:=TO
theorem FW:mw MD=true:=by unfold mw;rw[VR];try rfl
theorem PN:Sc.lU (tx ⟨#[]⟩)=some []:=TO
theorem YT:mw ⟨#[]⟩=true:=by unfold mw;rw[PN];try rfl
theorem YZ(l:List kI):nX ⟨#[]⟩ l=true:=by unfold nX;rw[PN];try rfl
theorem Qr:nX MD O4=true:=by
 unfold nX;rw[VR];have h1:Sc.k8 O4 ⟨#[97]⟩=(⟨#[120]⟩,true):=TO;have h2:Sc.mu (tx ⟨#[120]⟩)=some [Sc.Sg.that 120]:=TO;have h3:Sc.rn (tx ⟨#[120]⟩)=[120]:=TO;simp only[Sc.allM,List.all_cons,List.all_nil,Bool.and_true,h1,eF];rw[Sc.vE h2 TO,h3];exact .for_ _ _ _ _ rfl .nil
theorem NI{l:List mV}{a b:Int}(h:late l a=false)(hab:a≤b):late l b=false:=by
 unfold late at h⊢
 cases hl:l.getLast? with
 |none=>rfl
 |some x=>rw[hl]at h;simp only[decide_eq_false_iff_not]at h⊢;omega
variable{c:lO}{T:kM}{now:Int}
theorem Wg{α:Type}{T2:kM}{text:ByteArray}{step:kM→Except Int (kM×α)}{a:α}(hG:nH c T)(hu:U now)(hn:T.tm≤now)(hs:step (ko c T now)=.ok (T2,a))(h1:T2.lb=T.lb)(h2:T2.ll=T.ll)(h3:T2.tm=now)(ht:text.size≤200)(hl:kO T.ll<18446744073709551615):
 ∃b l,EQ c T now text step=.ok ({T2 with lb:=b,ll:=l},a):=by
 obtain⟨b,l,e,-⟩:=Wj hG.lg hu ht (NI hG.late hn) hl
 refine⟨b,l,?_⟩
 unfold EQ
 rw[if_neg jS,hs]
 simp only
 rw[h1,h2,h3,e]
variable{labels:ByteArray}{kind:Int}{items:List Item}
theorem Pp{l:List kI}(h0:T.tb=[])(hi:items.length≤50)(hp:vt (tx labels)=some l)(hk:1≤kind∧kind≤3)(hc:kJ [⟨l,mF (nC kind) items,T.tm⟩]≤c.budget):
 me c T labels kind items=.ok ({T with tb:=[⟨l,mF (nC kind) items,T.tm⟩]},[]):=by
 have e1:mf T.tb l kind=nC kind:=by rw[h0];simp[mf,mQ,o_]
 have e2:we T.tb ⟨l,mF (nC kind) items,T.tm⟩=some [⟨l,mF (nC kind) items,T.tm⟩]:=by rw[h0];simp[we,Dm,CL,mQ,o_]
 unfold me
 rw[if_neg jS,hp]
 simp only
 rw[if_pos hk,e1,if_pos (wj hk).2.1,e2]
 simp only
 rw[show pI c.budget 100 [⟨l,mF (nC kind) items,T.tm⟩] []=some ([⟨l,mF (nC kind) items,T.tm⟩],[])from by show(if _ then _ else _)=_;rw[if_pos hc]]
theorem J1(sc:ByteArray)(hs:mw sc=true)(hk:1≤kind∧kind≤3):kA [] sc kind=.ok (nC kind):=by
 unfold kA nj;rw[if_pos hs];simp only;rw[if_pos hk];rfl
variable{sc:ByteArray}
theorem J0{s:mq}(hs:mw sc=true)(hm:nX sc s.l=true)(hk:1≤kind∧kind≤3)(hkk:s.k.kind=kind):kA [s] sc kind=.ok (mZ (nC kind) s.k):=by
 unfold kA nj;rw[if_pos hs];simp only;rw[if_pos hk];have:mj sc [s] 1=[0]:=by simp[mj,uo,hm]
 rw[show[s].length=1 from rfl,this];simp[nN,hkk]
variable{r:s9}
theorem ae6(h:nR C)(hk:C[k]? =some (c,T))(hf:lN r):nR (Hz C k c T r).1∧(Hz C k c T r).1.map (·.1)=C.map (·.1):=by
 obtain⟨hkl,hke⟩:=ci.1 hk;have hT:=(h.at_ hk).2;have key:∀T',nH c T'→nR (C.set k (c,T'))∧(C.set k (c,T')).map (·.1)=C.map (·.1):=fun T' g=>by
  have h1:=h.set hkl (T:=T') (by rw[hke];exact g);rw[hke]at h1;refine⟨h1,?_⟩;rw[iJ];refine iO lV fun i hi hj=>?_;rw[eW];split
  ·subst_vars;simp[hke]
  rfl
 unfold Hz;split
 ·cases hn:qt c T r with
  |error e=>exact⟨h,rfl⟩
  |ok x=>exact key _ (T_ (T2:=x.1) (a:=x.2) hT hf hn).1.g
 cases ho:p6 c T r with
 |error e=>exact⟨h,rfl⟩
 |ok x=>exact key _ (ZT (T2:=x.1) (y:=x.2) hT hf ho).1
variable{x:Cu}
theorem Ia(h:nR C)(hf:lN r):nR (tW C x r).1∧(tW C x r).1.map (·.1)=C.map (·.1):=by
 unfold tW;split
 ·exact⟨h,rfl⟩
 split
 ·exact⟨h,rfl⟩
 rename_i c T he;split
 ·exact⟨h,rfl⟩
 split
 ·exact⟨h,rfl⟩
 exact ae6 h he hf
theorem ER(h:nR C)(hf:lN r):(tW C x r).1.length=C.length:=by
 have:=congrArg ez (Ia (x:=x) h hf).2;simpa using this
theorem Q7(a b id:Int):U (Kl a b id).1∧U (Kl a b id).2:=⟨Sp.Jk _ _ _,Sp.Jk _ _ _⟩
theorem nR.new{ka kb:Int}{l:List Pb}(hnd:l.Pairwise fun a b=>a.id≠b.id)(hb:∀x∈l,0≤x.budget∧x.budget≤1000000)(hu:∀x∈l,U x.id∧U x.life):nR (lE ka kb l):=by
 refine⟨fun x hx=>?_,fun x hx=>?_,?_⟩
 ·obtain⟨y,hy,rfl⟩:=dq.1 hx;exact⟨(hu y hy).1,(hb y hy).1,(hb y hy).2,(hu y hy).2,(Q7 _ _ _).1,(Q7 _ _ _).2⟩
 ·obtain⟨y,hy,rfl⟩:=dq.1 hx;exact nH.new _
 unfold lE;rw[List.pairwise_map];exact hnd.imp fun h=>h
theorem qh{id:Int}(hf:m6 C id=some k)(hk:C[k]? =some (c,T))(ho:1≤r.op∧r.op≤7):tW C ⟨id,3,0⟩ r=Hz C k c T r:=
 R6 hf hk ho (by
  show zZ 3 r.op=true;have:r.op=1∨r.op=2∨r.op=3∨r.op=4∨r.op=5∨r.op=6∨r.op=7:=jS;rcases this with e|e|e|e|e|e|e<;>rw[e]<;>decide)
structure SbX where
def bX:SbX:=⟨⟩
instance:CoeOut SbX Sk:=⟨fun _=>mF (nC 1) [⟨5,0⟩,⟨6,0⟩,⟨5,0⟩]⟩
def DV:s9:=⟨1,0,MD,⟨#[]⟩,1,[⟨5,0⟩,⟨6,0⟩,⟨5,0⟩],0,0,0,[]⟩
def xn:s9:=⟨2,0,⟨#[]⟩,MD,1,[],0,0,0,[]⟩
theorem U.nat{n:Nat}(h:n≤18446744073709551615):U (n:Int):=⟨by show(0:Int)≤_;omega,by show(n:Int)≤18446744073709551615;omega⟩
theorem U.zero:U 0:=U.nat (n:=0) jS
theorem vU:lN DV:=⟨U.zero,B8,B8,B8,fun x hx=>by
 simp[DV]at hx;rcases hx with rfl|rfl|rfl
 ·exact⟨U.nat (n:=5) jS,U.zero⟩
 ·exact⟨U.nat (n:=6) jS,U.zero⟩
 exact⟨U.nat (n:=5) jS,U.zero⟩,U.zero,U.zero,U.zero,B8,fun x hx=>by simp[DV]at hx⟩
theorem vT:lN xn:=⟨U.zero,B8,B8,B8,fun x hx=>by simp[xn]at hx,U.zero,U.zero,U.zero,B8,fun x hx=>by simp[xn]at hx⟩
theorem WI: "query".toByteArray.size≤200:=TO
theorem WJ: "ingest".toByteArray.size≤200:=TO
theorem ar4: "grant".toByteArray.size≤200:=TO
theorem ar1: "rollup".toByteArray.size≤200:=TO
variable{h:Int}{s:Sk}
theorem Gf(hG:nH c T)(hu:U now)(hn:T.tm≤now)(hm:kA (ko c T now).tb sc kind=.ok s)(hl:kO T.ll<18446744073709551615):∃b l,pM c T now sc kind h=.ok ({ko c T now with lb:=b,ll:=l},rt s h):=
 Wg (T2:=ko c T now) (a:=rt s h) hG hu hn (by show(kA (ko c T now).tb sc kind).map _=_;rw[hm];try rfl) rfl rfl rfl WI hl
theorem NT{T2:kM}{ps:List Nat}(hG:nH c T)(hu:U now)(hn:T.tm≤now)(ht:me c (ko c T now) labels kind items=.ok (T2,ps))(hl:kO T.ll<18446744073709551615):∃b l,nl c T now labels kind items=.ok ({T2 with lb:=b,ll:=l},ps):=by
 obtain⟨h1,h2,h3,_⟩:=zQ ht;exact Wg (T2:=T2) (a:=ps) hG hu hn ht h2 h1 h3 WJ hl
theorem Tw:∃C1 C2 C3 n,tW (lE 3 4 (m9 1000 9)) ⟨1,3,0⟩ DV=(C1,⟨0,n,[],[]⟩)∧tW C1 ⟨1,3,0⟩ xn=(C2,⟨0,2,[],[]⟩)∧tW C2 ⟨2,3,0⟩ xn=(C3,⟨0,0,[],[]⟩):=by
 obtain⟨c1,hc1⟩:∃c,c=qF 3 4 ⟨1,1000,9⟩:=⟨_,rfl⟩;obtain⟨c2,hc2⟩:∃c,c=qF 3 4 ⟨2,1000,9⟩:=⟨_,rfl⟩;have e0:lE 3 4 (m9 1000 9)=[(c1,newT),(c2,newT)]:=by rw[hc1,hc2];try rfl
 have i1:c1.id=1:=by rw[hc1];try rfl
 have i2:c2.id=2:=by rw[hc2];try rfl
 have b1:c1.budget=1000:=by rw[hc1];try rfl
 have l1:c1.life=9:=by rw[hc1];try rfl
 have f1:∀T U:kM,m6 [(c1,T),(c2,U)] 1=some 0:=fun T U=>by simp[m6,i1,jl]
 have f2:∀T U:kM,m6 [(c1,T),(c2,U)] 2=some 1:=fun T U=>by simp[m6,i1,i2,jl]
 rw[e0];have ab3:kJ [⟨O4,bX,0⟩]≤c1.budget:=by rw[b1];decide+kernel
 have ht:me c1 (ko c1 newT 0) MD 1 [⟨5,0⟩,⟨6,0⟩,⟨5,0⟩]=.ok ({ko c1 newT 0 with tb:=[⟨O4,bX,0⟩]},[]):=Pp (T:=ko c1 newT 0) rfl B8 Qg B8 ab3;obtain⟨b,l,hi⟩:=NT (nH.new c1) U.zero (by show(0:Int)≤0;omega) ht (by show(0:Int)<_;omega);have g1:=wy (nH.new c1) U.zero vU.iu hi;generalize hT1:({({ko c1 newT 0 with tb:=[⟨O4,bX,0⟩]}:kM)with lb:=b,ll:=l}:kM)=T1 at*
 have hb1:T1.tb=[⟨O4,bX,0⟩]:=by rw[←hT1]
 have hl1:kO T1.ll=1:=by rw[g1.1.last];try rfl
 have d1:tW [(c1,newT),(c2,newT)] ⟨1,3,0⟩ DV=([(c1,T1),(c2,newT)],⟨0,kJ T1.tb,[],[]⟩):=by
  rw[qh (f1 _ _) rfl B8];exact xR B8 (by show p6 c1 newT DV=_;unfold p6;rw[if_pos (show DV.op=1 from rfl)];show(nl c1 newT 0 MD 1 [⟨5,0⟩,⟨6,0⟩,⟨5,0⟩]).map _=_;rw[hi];try rfl)
 have ab4:(ko c1 T1 0).tb=[⟨O4,bX,0⟩]:=by
  show T1.tb.filter _=_;rw[hb1,l1];try rfl
 have hm1:kA (ko c1 T1 0).tb MD 1=.ok (mZ (nC 1) (bX)):=by
  rw[ab4];exact J0 FW Qr B8 TO
 obtain⟨b2,l2,hq⟩:=Gf (h:=0) g1.1.g U.zero (by rw[g1.1.tm];omega) hm1 (by rw[hl1];omega);have hask:rt (mZ (nC 1) (bX)) 0=2:=TO;rw[hask]at hq;generalize({ko c1 T1 0 with lb:=b2,ll:=l2}:kM)=T2 at*
 have d2:tW [(c1,T1),(c2,newT)] ⟨1,3,0⟩ xn=([(c1,T2),(c2,newT)],⟨0,2,[],[]⟩):=by
  rw[qh (f1 _ _) rfl B8];exact xR B8 (by show p6 c1 T1 xn=_;unfold p6;rw[if_neg B8,if_pos (show xn.op=2 from rfl)];show(pM c1 T1 0 MD 1 0).map _=_;rw[hq];try rfl)
 have hm2:kA (ko c2 newT 0).tb MD 1=.ok (nC 1):=J1 MD FW B8;obtain⟨b3,l3,hq3⟩:=Gf (h:=0) (nH.new c2) U.zero (by show(0:Int)≤0;omega) hm2 (by show(0:Int)<_;omega);have ac1:rt (nC 1) 0=0:=TO;rw[ac1]at hq3;generalize({ko c2 newT 0 with lb:=b3,ll:=l3}:kM)=T3 at*
 have d3:tW [(c1,T2),(c2,newT)] ⟨2,3,0⟩ xn=([(c1,T2),(c2,T3)],⟨0,0,[],[]⟩):=by
  rw[qh (f2 _ _) rfl B8];exact xR B8 (by show p6 c2 newT xn=_;unfold p6;rw[if_neg B8,if_pos (show xn.op=2 from rfl)];show(pM c2 newT 0 MD 1 0).map _=_;rw[hq3];try rfl)
 exact⟨_,_,_,_,d1,d2,d3⟩
instance:CoeOut (Cp 35) Obj:=⟨fun _=>(.cells #[.int .u64 5,.int .u64 0,.int .u64 6,.int .u64 0,.int .u64 5,.int .u64 0] 39)⟩
theorem nG.nil(X:Nat→Prop)(w:jC)(r:s9)(hi:r.items=[])(ht:r.jV=[]):nG X w ⟨r,none,0,none,0⟩:=
 ⟨⟨by rw[hi];exact Rd.none_,fun _ _ e=>LS⟩,⟨by rw[ht];exact Rd.none_,fun _ _ e=>LS⟩,by simp[hi],by simp[ht]⟩
variable{C':Col}{m:ReqM}{y:Rep}
theorem EP{V:jC}{cb:Nat}{bs:List (Nat×jH×List jD)}(hG:nR C)(I1:C.length≤100)(hf:lN m.r)(hw:4≤w.heap.size)(hT:Tb w)(hE:Er w)(hg:∀g∈G,w.heap.size≤g)(H:kj (·∈G) w V bs)(hC:kE (·∈G) V cb G ka kb C)(hbs:∀b∈bs,b.1∉G)(hM:nG (·∈G) V m)(hd:tW C x m.r=(C',y)):
 jE Tryz.prog 16 #[.pointer (aC cb),.agg (Ij x).toArray,.agg (uD m).toArray] V fun e W=>kj (·∈G) w W bs∧kE (·∈G) W cb G ka kb C'∧∃A k E k2,e=.returned (.agg #[.int .i64 y.e,.int .u64 y.n,.slice A y.notices.length k,.slice E y.entries.length k2])∧Rd W W.heap.size A (lC y.notices)∧Rd W W.heap.size E (y.entries.flatMap nE)∧(aX A V)∧(aX E V)∧Out (·∈G) V W:=by
 have hb:(bJ w V):=H.out.below (ay _) hg
 have hs:=H.size
 have Q:=MB (·∈G) cb G ka kb C x m hG I1 hf V jS (fun b hb=>hC.XJ hb) (hT.later hb) (hE.later hb) hC hM
 rw[hd]at Q
 refine Q.mono ?_
 rintro e W⟨ho,sZ,v,rfl,A,k,E,k2,rfl,⟨h1,h2⟩,h3,h4⟩
 exact⟨H.wP ho (fun k e=>.inl e) hbs,sZ,A,k,E,k2,rfl,h1,h3,h2,h4,ho⟩
theorem CC(w:jC)(hw:4≤w.heap.size)(hT:Tb w)(hE:Er w):jE Tryz.prog 7 #[] w fun e w'=>e=.returned (.bool true)∧(bJ w w'):=by
 obtain⟨C1,C2,C3,n,d1,d2,d3⟩:=Tw;have g0:nR (lE 3 4 (m9 1000 9)):=nR.new (vR _ _) (fun x hx=>by simp[m9]at hx;rcases hx with rfl|rfl<;>decide) (fun x hx=>⟨zL _ _ x hx,by simp[m9]at hx;rcases hx with rfl|rfl<;>exact U.nat (n:=9) jS⟩);have g1:=(Ia (x:=⟨1,3,0⟩) g0 vU).1;have c1:=ER (x:=⟨1,3,0⟩) g0 vU;rw[d1]at g1 c1;have g2:=(Ia (x:=⟨1,3,0⟩) g1 vT).1;have c2:=ER (x:=⟨1,3,0⟩) g1 vT;rw[d2]at g2 c2;have c0:(lE 3 4 (m9 1000 9)).length=2:=rfl;have HT:=ah hT;have HE:=ah hE;have HD1:=ah d1;have HD2:=ah d2;have HD3:=ah d3;have HG0:=ah g0;have DH:=ah g1;have HG2:=ah g2;have yT:Hid (C1.length≤100∧C2.length≤100∧(lE 3 4 (m9 1000 9)).length≤100):=by simp only at c1 c2;exact⟨jS,jS,jS⟩
 clear d1 d2 d3 g0 g1 g2 c0 c1 c2 hT hE;generalize hC0:lE 3 4 (m9 1000 9)=C0 at*
 go_in;go_wp2_with fail;refine(two_any 1000 9 w).mono ?_;rintro e w1⟨rfl,rfl⟩;go_wp2_with fail;have hba:=jP (jQ w) (.cells #[jK 1,jJ 1000,jK 9,jK 2,jJ 1000,jK 9] 63);refine(Sa 3 4 _ (m9 1000 9) 2 B8 B8 (vR _ _) (fun x hx=>by simp[m9]at hx;rcases hx with rfl|rfl<;>decide) (zL _ _) _ (by have:=hba.size;omega) (Jb 1000 9 w)).mono ?_;rintro e w2⟨hb2,cb,G,rfl,sZ,hG⟩;rw[hC0]at sZ;clear hC0;have hb0:(bJ w w2):=hba.trans (hb2.mono hba.size);have YG:Hid ((∀g∈G,w.heap.size≤g)∧∀g∈G,g<w2.heap.size):=⟨fun g hg=>by have:=hG g hg;have:=hba.size;omega,fun g hg=>sZ.XJ hg⟩;have HV:=ah ((kj.nil (·∈G) w).call hb0);have Lv:=ah sZ;clear hb2 sZ hG hba hb0;go_wp2_with fail;refine(nK 1 w2).mono ?_;rintro e w3⟨rfl,hb3⟩;replace HV:=ah (HV.call hb3);replace Lv:=ah (Lv.later hb3);have hz3:=hb3.size;clear hb3;have HA:=ah (HV.al (rO 35));have HCA:=ah (Lv.later (jP (jQ w3) (rO 35)));have Zq:Hid (nG (·∈G) (w3.alloc (rO 35)) ⟨DV,some (lz 43 w3),3,none,0⟩):=
  ⟨⟨tY (jR.new w3 _ _),fun _ ad e hm=>by cases e;have:=YG.2 _ hm;simp only at this;omega⟩,⟨Rd.none_,fun _ _ e=>LS⟩,ay 3,ay 0⟩
 go_wp2_with fail;refine(EP (x:=⟨1,3,0⟩) (m:=⟨DV,some (lz 43 w3),3,none,0⟩) HG0 yT.2.2 vU hw HT HE YG.1 HA HCA (fun b hb=>by cases hb) Zq HD1).mono ?_;rintro e w4⟨h4,hc4,A1,k1,E1,l1,rfl,-,-,-,-,Mg⟩;have Rg:=Mg.size;have aR6:w3.heap.size≤w4.heap.size:=by simp at Rg;omega
 have HV4:=ah (h4.alloc w4 55 [jJ 0,jK n,.slice A1 0 k1,.slice E1 0 l1]);have HC4:=ah (hc4.later (jP (jQ w4) (.cells #[jJ 0,jK n,.slice A1 0 k1,.slice E1 0 l1] 55)));simp only[dp];clear h4 hc4 Mg Zq HA HCA HV Lv Rg;go_wp2_with fail;refine kq (fun V=>kE (·∈G) V cb G 3 4 C1) HV4 HC4 (fun V5 H5 hc5=>?_);clear HV4 HC4;refine(nK 1 V5).mono ?_;rintro e w6⟨rfl,hb6⟩;replace H5:=ah (H5.call hb6);have Vz:=ah (hc5.later hb6);clear hc5 hb6;go_wp2_with fail;refine(EP (x:=⟨1,3,0⟩) (m:=⟨xn,none,0,none,0⟩) DH yT.1 vT hw HT HE YG.1 H5 Vz (fun b hb hm=>by simp at hb;subst hb;have:=YG.2 _ hm;simp only at this;omega) (nG.nil _ _ _ rfl rfl) HD2).mono ?_;rintro e w7⟨h7,hc7,A2,k2,E2,l2,rfl,-,-,-,-,ho7⟩;have hz7:w4.heap.size<w7.heap.size:=(h7.blk _ ab).2.lt;have Vk:=ah (h7.alloc w7 55 [jJ 0,jK 2,.slice A2 0 k2,.slice E2 0 l2]);have Wz:=ah (hc7.later (jP (jQ w7) (.cells #[jJ 0,jK 2,.slice A2 0 k2,.slice E2 0 l2] 55)));simp only[dp];clear h7 hc7 ho7 H5 Vz;go_wp2_with fail;refine kq (fun V=>kE (·∈G) V cb G 3 4 C2) Vk Wz (fun V8 H8 hc8=>?_);clear Vk Wz;refine(nK 2 V8).mono ?_;rintro e w9⟨rfl,nu⟩;replace H8:=ah (H8.call nu);have HC9:=ah (hc8.later nu);clear hc8 nu;go_wp2_with fail;refine(EP (x:=⟨2,3,0⟩) (m:=⟨xn,none,0,none,0⟩) HG2 yT.2.1 vT hw HT HE YG.1 H8 HC9 (fun b hb hm=>by simp at hb;rcases hb with rfl|rfl<;>(have:=YG.2 _ hm;simp only at this;omega)) (nG.nil _ _ _ rfl rfl) HD3).mono ?_;rintro e w10⟨h10,au9,A3,k3,E3,l3,rfl,-,-,-,-,au2⟩;have aA3:=ah (h10.alloc w10 55 [jJ 0,jK 0,.slice A3 0 k3,.slice E3 0 l3]);have x:=fk (h10.facts);simp only[dp];clear h10 au9 au2 H8 HC9;go_wp2;go_ret;exact⟨rfl,aA3.out.out.below aa YG.1⟩
def yW(id:Int):Cu:=⟨id,3,0⟩
theorem R3(h:nR C)(hf:lN r)(e:tW C x r=(C',y)):nR C'∧C'.map (·.1)=C.map (·.1)∧C'.length=C.length:=by
 have h1:=Ia (x:=x) h hf;have h2:=ER (x:=x) h hf;rw[e]at h1 h2;exact⟨h1.1,h1.2,h2⟩
theorem an7{er:Int}(h3:r.op=3)(h:qt c T r=.error er):Hz C k c T r=(C,uJ er):=by unfold Hz;rw[if_pos h3,h]
theorem az2{T':kM}{u:Unit}(h3:r.op=3)(h:qt c T r=.ok (T',u)):Hz C k c T r=(C.set k (c,T'),⟨0,rt (vm (C.set k (c,T')) c.id r.scope r.kind r.jV) r.h,[],[]⟩):=by unfold Hz;rw[if_pos h3,h]
structure IQ(X:Nat→Prop)(w:jC)(v:jD)(r:Rep):Prop where
 at_:∃A k E k2,v=.agg #[.int .i64 r.e,.int .u64 r.n,.slice A r.notices.length k,.slice E r.entries.length k2]∧pO X w A (lC r.notices)∧pO X w E (r.entries.flatMap nE)
def VZ(R:gG→gG→jC→Prop)(a:gG):bk7→gG→jC→Prop:=fun e a' w'=>match e with|.normal=>R a a' w'|_=>False
theorem AH{R:gG→gG→jC→Prop}{a':gG}{w':jC}(h:R a a' w'):VZ R a .normal a' w':=h
theorem D6{P:bi3}{c:bk9}(R:gG→gG→jC→Prop)(h1:c.wp P (VZ R a) a w)(h2:∀a' w',R a a' w'→Q .normal a' w'):c.wp P Q a w:=
 jg (fun e a' w' h=>by cases e<;>first|exact h2 a' w' h|exact h.elim) h1
variable{b:Nat×jH×List jD}
theorem kj.aC3{w0:jC}{bs:List (Nat×jH×List jD)}(h:kj X w0 w (b::bs)):kj X w0 w bs:=⟨h.out,fun c hc=>h.blk c (dS _ hc),(b6.1 h.apart).2⟩
structure aA0(m:ReqM) where
def aG9(m:ReqM):aA0 m:=⟨⟩
instance(m:ReqM):CoeOut (aA0 m) (List jD):=⟨fun _=>[.int .i64 m.r.op,.int .u64 m.r.now,.string m.r.labels,.string m.r.scope,.int .i64 m.r.kind,.slice m.ia m.r.items.length m.ic,.int .u64 m.r.h,.int .u64 m.r.to,.int .u64 m.r.id,.slice m.ta m.r.jV.length m.tc]⟩
structure aA1(m:ReqM) where
def aH1(m:ReqM):aA1 m:=⟨⟩
instance(m:ReqM):CoeOut (aA1 m) (Array jD):=⟨fun _=>#[.int .i64 m.r.op,.int .u64 m.r.now,.string m.r.labels,.string m.r.scope,.int .i64 m.r.kind,.slice m.ia m.r.items.length m.ic,.int .u64 m.r.h,.int .u64 m.r.to,.int .u64 m.r.id,.slice m.ta m.r.jV.length m.tc]⟩
structure az9(y:Rep)(N:Option jG)(i:Nat)(E:Option jG)(j:Nat) where
def aG8(y:Rep)(N:Option jG)(i:Nat)(E:Option jG)(j:Nat):az9 y N i E j:=⟨⟩
instance(y:Rep)(N:Option jG)(i:Nat)(E:Option jG)(j:Nat):CoeOut (az9 y N i E j) (List jD):=⟨fun _=>[.int .i64 y.e,.int .u64 y.n,.slice N y.notices.length i,.slice E y.entries.length j]⟩
structure az8 where
def aG4:az8:=⟨⟩
instance:CoeOut az8 (List jD):=⟨fun _=>[.int .i64 0,.int .u64 0,.slice none 0 0,.slice none 0 0]⟩
section
variable{P:bi3}{ops:Array bk0}{Q:bk7→gG→jC→Prop}{md:fD}{S:jC→Prop}
variable{v:jD}{fuel:Nat}{l:Array Bool}
theorem tk3{oi:bk0}{a':gG}(i:Nat)(hS:S w)(h:wpAnyH P md ops Q S fuel (l.setIfInBounds i true) a' w)
 (hg:ZH md ops l i=true:=by decide+kernel)
 (hi:ops[i]? =some oi:=by exact rfl)
 (hQ:∀c a w,Q (.panic c) (a.put oi.dst v) w→Q (.panic c) a w:=by exact fun _ _ _ h=>h)
 (hy:eQ oi (yielded ops a.tmps)=true∧∀w,S w→(execOp a.eval oi).run P w=.ok (.value v) w:=by(refine⟨by rfl,?_⟩;intro w hSw;(try dsimp only at hSw);(try simp only[kz,au,ao,and_true]at hSw);(repeat obtain⟨_,hSw⟩:=hSw);go_simp<;>with_reducible rfl))
 (ea:a.put oi.dst v=a':=by((try simp only[gL,eK,ej,dQ,bd,ak,am]);rfl)):
 wpAnyH P md ops Q S (fuel+1) l a w:=by
 subst ea
 exact bk5 hi (rY hg).1 (rY hg).2.1 (rY hg).2.2 hQ (ge hy) hS h
theorem tkc{q:Prop}(hS:S w)(h:q)(e:S w→q→wpAnyH P md ops Q S fuel l a w:=by
 (
  intro hs hq
  (try refine tk3 0 hs ?_);(try refine tk3 1 hs ?_);(try refine tk3 2 hs ?_);(try refine tk3 3 hs ?_);(try refine tk3 4 hs ?_);(try refine tk3 5 hs ?_);(try refine tk3 6 hs ?_);(try refine tk3 7 hs ?_);(try refine tk3 8 hs ?_);(try refine tk3 9 hs ?_);(try refine tk3 10 hs ?_);(try refine tk3 13 hs ?_)
  exact hq)):wpAnyH P md ops Q S fuel l a w:=e hS h
end
abbrev Lay:=List (Nat×List Nat)
abbrev Bks:=List (Nat×jH×List jD)
def InG(L:Lay)(b:Nat):Prop:=∃q∈L,b∈q.2
def Bar(L:Lay)(bs:Bks)(b:Nat):Prop:=InG L b∨∃x∈bs,x.1=b
structure ke(w:jC)(ka kb:Int)(L:Lay)(V:jC)(k9:List Col)(bs:Bks):Prop where
 H:kj (InG L) w V bs
 col:∀(k:Nat)(q:Nat×List Nat)(C:Col),L[k]? =some q→k9[k]? =some C→kE (Bar L bs) V q.1 q.2 ka kb C
 ae0:∀x∈bs,¬InG L x.1
 gw:∀b,InG L b→w.heap.size≤b∧b<V.heap.size
 ai0:L.Pairwise fun p q=>∀g∈p.2,g∉q.2
section
variable{w V W:jC}{ka kb:Int}{L:Lay}{k9:List Col}{bs bs':Bks}{C C':Col}{cb:Nat}{G:List Nat}{P:bi3}{a:gG}
theorem ke.below(h:ke w ka kb L V k9 bs):Below w.heap.size w V:=h.H.out.below (ay _) fun b hb=>(h.gw b hb).1
theorem ke.bar(h:ke w ka kb L V k9 bs){b:Nat}(hb:Bar L bs b):w.heap.size≤b∧b<V.heap.size:=hb.elim (h.gw b) fun⟨x,hx,e⟩=>by
 have q:=h.H.blk x hx;exact⟨q.1.elim (fun z=>e▸(h.gw _ z).1) (fun z=>e▸z),e▸q.2.lt⟩
theorem ke.call(h:ke w ka kb L V k9 bs)(hb:Below V.heap.size V W):ke w ka kb L W k9 bs:=
 ⟨h.H.call hb,fun k q C e1 e2=>(h.col k q C e1 e2).later hb,h.ae0,fun b hb'=>⟨(h.gw b hb').1,by have:=(h.gw b hb').2;have:=hb.size;omega⟩,h.ai0⟩
theorem ke.drew(h:ke w ka kb L V k9 bs):ke w ka kb L V.drew k9 bs:=h.call (Below.refl _ V).drew
theorem ke.al(h:ke w ka kb L V k9 bs)(o:Obj):ke w ka kb L (V.alloc o) k9 bs:=h.call (jP (jQ V) o)
theorem ke.alloc(h:ke w ka kb L V k9 bs)(g:Nat)(t:TypeId)(cs:List Value)(hg:g=V.heap.size:=by simp):ke w ka kb L (V.alloc (.cells cs.toArray t)) k9 ((g,t,cs)::bs):=by
 subst hg;refine⟨h.H.alloc _ t cs rfl,fun k q C e1 e2=>?_,fun x hx=>?_,fun b hb=>?_,h.ai0⟩
 ·refine((h.col k q C e1 e2).wide (Y:=Bar L ((V.heap.size,t,cs)::bs)) (fun b hb=>hb.elim (fun z=>.inl (.inl z)) fun⟨x,hx,e⟩=>?_) (fun g hg=>.inl ⟨q,cm e1,hg⟩)).later (jP (jQ V) _);rcases cw.1 hx with rfl|hx
  ·exact .inr (by simp only at e;omega)
  exact .inl (.inr ⟨x,hx,e⟩)
 ·rcases cw.1 hx with rfl|hx
  ·intro z;have:=(h.gw _ z).2;simp only at this;omega
  exact h.ae0 x hx
 have:=h.gw b hb;exact⟨this.1,by simp;omega⟩
theorem ke.tail(h:ke w ka kb L V k9 (b::bs)):ke w ka kb L V k9 bs:=
 ⟨h.H.aC3,fun k q C e1 e2=>(h.col k q C e1 e2).narrow (fun b hb=>hb.imp id fun⟨x,hx,e⟩=>⟨x,dS _ hx,e⟩) (fun g hg=>.inl ⟨q,cm e1,hg⟩),fun x hx=>h.ae0 x (dS _ hx),h.gw,h.ai0⟩
variable{g:Nat}
theorem ke.wr(h:ke w ka kb L V k9 bs)(H:kj (InG L) w W bs')(ho:Out (·=g) V W)(hg:∃x∈bs,x.1=g)(hm:∀b,(∃x∈bs',x.1=b)→∃x∈bs,x.1=b):ke w ka kb L W k9 bs':=by
 have hn:¬InG L g:=fun z=>by obtain⟨x,hx,e⟩:=hg;exact h.ae0 x hx (e▸z)
 refine⟨H,fun k q C e1 e2=>?_,fun x hx z=>?_,fun b hb=>⟨(h.gw b hb).1,by have:=(h.gw b hb).2;have:=ho.size;omega⟩,h.ai0⟩
 ·exact((h.col k q C e1 e2).out ho (fun b hb=>⟨.inr (by rw[hb];exact hg),fun z=>hn ⟨q,cm e1,by rw[←hb];exact z⟩⟩)).narrow (fun b hb=>hb.imp id (hm b)) (fun g hg=>.inl ⟨q,cm e1,hg⟩)
 obtain⟨y,hy,e⟩:=hm x.1 ⟨x,hx,rfl⟩;exact h.ae0 y hy (by rw[e];exact z)
variable{cs:List jD}
theorem an5{b:Nat}{t:jH}{ds:List jD}(e:bs[k]? =some (g,t,cs)):(∃x∈bs.set k (g,t,ds),x.1=b)→∃x∈bs,x.1=b:=fun⟨x,hx,e2⟩=>by
 rcases dO hx with hx|rfl
 ·exact⟨x,hx,e2⟩
 exact⟨_,cm e,e2⟩
theorem ke.put(h:ke w ka kb L V k9 bs)(k i:Nat)(v:Value){g:Nat}{t:TypeId}{cs:List Value}(e:bs[k]? =some (g,t,cs):=by rfl):ke w ka kb L (V.setCell ⟨g,i,none⟩ v) k9 (bs.set k (g,t,cs.set i v)):=
 h.wr (h.H.put k i v e) (Out.setCell (X:=(·=g)) (Out.refl _ V) (p:=⟨g,i,none⟩) (.inl rfl) v) ⟨_,cm e,rfl⟩ fun b=>an5 e
theorem ke.all(h:ke w ka kb L V k9 bs)(k:Nat)(vs:List Value){g:Nat}{t:TypeId}{cs:List Value}(e:bs[k]? =some (g,t,cs):=by rfl)(hl:vs.length=cs.length:=by rfl):ke w ka kb L (lp V g 0 vs) k9 (bs.set k (g,t,vs)):=
 h.wr (h.H.all k vs e hl) (Out.lp (X:=(·=g)) (g:=g) (.inl rfl) vs 0 (Out.refl _ V)) ⟨_,cm e,rfl⟩ fun b=>an5 e
theorem ke.nil(H:kj (InG []) w V bs):ke w ka kb [] V [] bs:=⟨H,fun k q C e _=>by simp at e,fun x _⟨q,hq,_⟩=>(by cases hq),fun b⟨q,hq,_⟩=>(by cases hq),List.Pairwise.nil⟩
theorem ke.aF6(h:ke w ka kb L V k9 bs)(hb:Below V.heap.size V W)(hc:∀X:Nat→Prop,(∀b,X b→b∈G∨b<V.heap.size)→(∀g∈G,X g)→kE X W cb G ka kb C)(hG:∀g∈G,V.heap.size≤g):ke w ka kb ((cb,G)::L) W (C::k9) bs:=by
 have hi:∀{b},InG L b→InG ((cb,G)::L) b:=fun⟨q,hq,z⟩=>⟨q,dS _ hq,z⟩;have sZ:kE (Bar ((cb,G)::L) bs) W cb G ka kb C:=hc _ (fun b hb=>by
  rcases hb with⟨q,hq,hb⟩|hb
  ·rcases cw.1 hq with rfl|hq
   ·exact .inl hb
   exact .inr (h.gw b ⟨q,hq,hb⟩).2
  exact .inr (h.bar (.inr hb)).2) fun g hg=>.inl ⟨_,di ..,hg⟩
 refine⟨⟨(h.H.call hb).out.mono fun k _ hk=>hi hk,fun b hm=>⟨((h.H.call hb).blk b hm).1.imp hi id,((h.H.call hb).blk b hm).2⟩,h.H.apart⟩,fun k q C' e1 e2=>?_,fun x hx=>?_,fun b hb'=>?_,b6.2 ⟨fun q hq g hg hg'=>by have:=hG g hg;have:=(h.gw g ⟨q,hq,hg'⟩).2;omega,h.ai0⟩⟩
 ·cases k with
  |zero=>cases e1;cases e2;exact sZ
  |succ k=>
   refine((h.col k q C' e1 e2).wide (fun b hb=>?_) (fun g hg=>.inl ⟨q,cm e1,hg⟩)).later hb;rcases hb with⟨p,hp,hb⟩|hb
   ·rcases cw.1 hp with rfl|hp
    ·exact .inr (hG b hb)
    exact .inl (.inl ⟨p,hp,hb⟩)
   exact .inl (.inr hb)
 ·rintro⟨q,hq,hb'⟩;rcases cw.1 hq with rfl|hq
  ·have:=hG _ hb';have:=(h.H.blk x hx).2.lt;omega
  exact h.ae0 x hx ⟨q,hq,hb'⟩
 obtain⟨q,hq,hb'⟩:=hb';rcases cw.1 hq with rfl|hq
 ·exact⟨by have:=hG b hb';have:=h.H.size;omega,sZ.XJ hb'⟩
 have:=h.gw b ⟨q,hq,hb'⟩;have:=hb.size;exact⟨by omega,by omega⟩
theorem ke.req(h:ke w ka kb L V k9 bs)(hM:ReqOk w w.heap.size m):nG (Bar L bs) V m:=
 nG.later ⟨pO.of hM.i (fun b hb=>(h.bar hb).1),pO.of hM.t (fun b hb=>(h.bar hb).1),hM.ic,hM.tc⟩ h.below
theorem ak8(h:ke w ka kb L V k9 bs)(hL:L[k]? =some (cb,G))(hC:k9[k]? =some C)(hG:nR C)(hl:C.length≤100)(hf:lN m.r)(hw:4≤w.heap.size)(hT:Tb w)(hE:Er w)(hM:nG (Bar L bs) V m)(hd:tW C x m.r=(C',y)):
 jE Tryz.prog 16 #[.pointer (some ⟨cb,0,none⟩),.agg (Ij x).toArray,.agg (uD m).toArray] V fun e W=>ke w ka kb L W (k9.set k C') bs∧Out (Bar L bs) V W∧∃v,e=.returned v∧IQ (Bar L bs) W v y:=by
 have hb:=h.below
 have hs:=h.H.size
 have Q:=MB (Bar L bs) cb G ka kb C x m hG hl hf V (by omega) (fun b hb=>(h.bar hb).2) (hT.later hb) (hE.later hb) (h.col k _ C hL hC) hM
 rw[hd]at Q
 refine Q.mono ?_
 rintro e W⟨ho,hc',v,rfl,A,j,E,j2,rfl,⟨h1,h2⟩,h3,h4⟩
 have hin:∀b,b∈G→InG L b:=fun b hb=>⟨_,cm hL,hb⟩
 refine⟨⟨h.H.wP ho (fun b hb=>.inl (hin b hb)) (fun b hb e=>h.ae0 b hb (hin _ e)),fun k2 q C2 e1 e2=>?_,h.ae0,fun b hb=>⟨(h.gw b hb).1,by have:=(h.gw b hb).2;have:=ho.size;omega⟩,h.ai0⟩,ho.mono fun b _ hb=>.inl (hin b hb),_,rfl,A,j,E,j2,rfl,⟨h1,fun _ ad e hx=>by have:=h2 ad e;have:=(h.bar hx).2;omega⟩,⟨h3,fun _ ad e hx=>by have:=h4 ad e;have:=(h.bar hx).2;omega⟩⟩
 by_cases e:k=k2
 ·subst e;rw[hL]at e1;cases e1;rw[gM (ci.1 hC).1]at e2;cases e2;exact hc'
 rw[List.getElem?_set_ne e]at e2
 refine(h.col k2 q C2 e1 e2).out ho fun b hb=>⟨.inl (hin b hb),fun hb2=>?_⟩
 obtain⟨hk,ek⟩:=ci.1 hL
 obtain⟨hk2,ek2⟩:=ci.1 e1
 have hp:=cj.1 h.ai0
 rcases iD e with hl|hl
 ·have:=hp k k2 hk hk2 hl b (by rw[ek];exact hb);rw[ek2]at this;exact this hb2
 have:=hp k2 k hk2 hk hl b (by rw[ek2];exact hb2)
 rw[ek]at this
 exact this hb
theorem ap8{c:bk9}(h:ke w ka kb L V k9 bs)(k:∀W,Hid (ke w ka kb L W k9 bs)→c.wp P Q a W):c.wp P Q a V:=k V (ai h)
variable{R:bi6→jC→Prop}
theorem ac9{f:bl9}{args:Array jD}(h:ke w ka kb L V k9 bs)(k:∀W,Hid (ke w ka kb L W k9 bs)→jE P f args W R):jE P f args V R:=k V (ai h)
theorem aE8{fn:Func}{x:bk7}(h:ke w ka kb L V k9 bs)(k:∀W,Hid (ke w ka kb L W k9 bs)→bodyPost P fn R x a W):bodyPost P fn R x a V:=k V (ai h)
variable{md:fD}{fuel:Nat}{l:Array Bool}
theorem aB4{S:jC→Prop}(h:ke w ka kb L V k9 bs)(k:∀W,Hid (ke w ka kb L W k9 bs)→wpAnyH P md ops Q S fuel l a W):wpAnyH P md ops Q S fuel l a V:=k V (ai h)
theorem rq1(i:Nat){S:jC→Prop}
 (h:∀K':gG→jC→Prop,Shut (∀a w,S w→(S w→wpAnyH P md ops Q S fuel (l.setIfInBounds i true) a w)→K' a w)→if eQ o (yielded ops a.tmps)=true then je P o a w K' Q else K' (a.put o.dst undef) w)
 (hr:eE md ops l=[i]:=by decide+kernel) (ho:ops[i]? =some o:=by exact rfl):wpAnyH P md ops Q S (fuel+1) l a w:=wpAnyH_ready hr (by simp) (.cons ho h .nil)
theorem rq2(i j:Nat){S:jC→Prop}{o':bk0}
 (h:∀K':gG→jC→Prop,Shut (∀a w,S w→(S w→wpAnyH P md ops Q S fuel (l.setIfInBounds i true) a w)→K' a w)→if eQ o (yielded ops a.tmps)=true then je P o a w K' Q else K' (a.put o.dst undef) w)
 (h':∀K':gG→jC→Prop,Shut (∀a w,S w→(S w→wpAnyH P md ops Q S fuel (l.setIfInBounds j true) a w)→K' a w)→if eQ o' (yielded ops a.tmps)=true then je P o' a w K' Q else K' (a.put o'.dst undef) w)
 (hr:eE md ops l=[i,j]:=by decide+kernel) (ho:ops[i]? =some o:=by exact rfl) (ho':ops[j]? =some o':=by exact rfl):wpAnyH P md ops Q S (fuel+1) l a w:=wpAnyH_ready hr (by simp) (.cons ho h (.cons ho' h' .nil))
end
namespace Ex
variable{l:List Int}{n:Int}
theorem az0{x:Int}:x∈ins l n↔x=n∨x∈l:=by
 unfold ins;split
 ·rename_i h;have:=UX h;constructor
  ·exact .inr
  rintro(rfl|h)
  ·exact this
  exact h
 have e:x∈l↔x∈l.take (lb l n)∨x∈l.drop (lb l n):=by rw[←ed,fQ]
 rw[e];simp only[ed,cw];constructor
 ·rintro(h|h|h)<;>simp[h]
 rintro(h|h|h)<;>simp[h]
theorem ad6:∀{l m:List Int},mN l→mN m→(∀x,x∈l↔x∈m)→l=m
 |[],[],_,_,_=>rfl
 |[],y::m,_,_,h=>by have:=(h y).2 (by simp);simp at this
 |x::l,[],_,_,h=>by have:=(h x).1 (by simp);simp at this
 |x::l,y::m,hl,hm,h=>by
  have hxy:x=y:=by
   have h1:=(h x).1 (by simp);have h2:=(h y).2 (by simp);rcases cw.1 h1 with e|h1
   ·exact e
   rcases cw.1 h2 with e|h2
   ·exact e.symm
   have:=hl.Mi h2;have:=hm.Mi h1;omega
  subst hxy;congr 1;refine ad6 hl.tail hm.tail fun z=>?_;have hz:=h z;simp only[cw]at hz;constructor
  ·intro hzl;rcases hz.1 (.inr hzl)with e|h'
   ·subst e;have:=hl.Mi hzl;omega
   exact h'
  intro hzm;rcases hz.2 (.inr hzm)with e|h'
  ·subst e;have:=hm.Mi hzm;omega
  exact h'
variable{m:List Int}
theorem ai9{x:Int}:x∈kp l m↔x∈m∨x∈l:=by
 induction m generalizing l with
 |nil=>simp[kp]
 |cons y m ih=>
  show x∈kp (ins l y) m↔_;rw[ih,az0,cw];constructor
  ·rintro(h|h|h)<;>simp[h]
  rintro((h|h)|h)<;>simp[h]
theorem aq8:mN []:=fun i j _ hj=>by simp at hj
end Ex
namespace Hl
variable{l:List Nat}
theorem as7{m:List Nat}(h:l.length=m.length)(hn:∀i,i<l.length→mJ l i=mJ m i):l=m:=by
 apply iO h;intro i h1 h2;have:=hn i h1;simpa[mJ,h1,h2]using this
section
variable{w w':jC}{g:Nat}{l:List Nat}
end
theorem ar5(l m:List Nat)(k:Nat):mrg l m (bu (k+1))=nS (mrg l m (bu k)) k (mJ m k):=by rw[fV];exact Qm _ _ _ _
variable{p:Nat}
theorem an8{r j:Nat}(h:j≠p):mJ (nS l p r) j=mJ l j:=by
 unfold nS mJ;rw[jq];rw[if_neg (fun e=>h e.symm)]
theorem aw8(n j:Nat):mJ (de n 0) j=0:=by
 unfold mJ;by_cases h:j<n<;>simp[h]
def top(B:Nat):List Int→Nat→Nat
 |[],_=>0
 |n::ns,p=>max (if o_ B n.toNat=p then pF B n.toNat else 0) (top B ns p)
def regs(B:Nat)(ns:List Int):List Nat:=mx B (de (2^B) 0) ns
theorem q9(B:Nat)(ns:List Int):(regs B ns).length=2^B:=by rw[regs,ox,ey]
theorem an9{r i:Nat}(hi:i<l.length):mJ (nS l p r) i=if i=p then max (mJ l i) r else mJ l i:=by
 unfold nS;by_cases h:i=p
 ·subst h;rw[if_pos rfl,UT hi,if_pos rfl]
 rw[if_neg h];exact an8 h
theorem aw9{n i:Nat}(hi:i<l.length):mJ (uK B l n) i=max (mJ l i) (if o_ B n=i then pF B n else 0):=by
 unfold uK;rw[an9 hi];by_cases h:i=o_ B n
 ·rw[if_pos h,if_pos h.symm]
 rw[if_neg h,if_neg (fun e=>h e.symm)];omega
theorem aj8{B:Nat}:∀{ns:List Int}{l:List Nat}{i:Nat},i<l.length→mJ (mx B l ns) i=max (mJ l i) (top B ns i)
 |[],l,i,_=>by show mJ l i=max (mJ l i) 0;omega
 |n::ns,l,i,h=>by
  show mJ (mx B (uK B l n.toNat) ns) i=_;rw[aj8 (by rw[tP];exact h),aw9 h];show _=max (mJ l i) (max _ _);omega
variable{ns:List Int}
theorem ad3{i:Nat}(h:i<2^B):mJ (regs B ns) i=top B ns i:=by
 rw[regs,aj8 (by rw[ey];exact h),aw8];omega
theorem ao9(B:Nat)(ms ns:List Int)(p:Nat):top B (ms++ns) p=max (top B ms p) (top B ns p):=by
 induction ms with
 |nil=>show top B ns p=max 0 _;omega
 |cons m ms ih=>show max _ (top B (ms++ns) p)=max (max _ _) _;rw[ih];omega
theorem an1(hl:l.length=2^B)(h:∀i,i<2^B→mJ l i=top B ns i):l=regs B ns:=
 as7 (by rw[hl,q9]) (fun i hi=>by rw[hl]at hi;rw[h i hi,ad3 hi])
theorem aq5{l m:List Nat}:∀{k i:Nat},i<l.length→mJ (mrg l m (bu k)) i=if i<k then max (mJ l i) (mJ m i)else mJ l i
 |0,i,_=>by rw[if_neg (by omega)];rfl
 |k+1,i,h=>by
  rw[ar5,an9 (by rw[si];exact h),aq5 h];by_cases h1:i=k
  ·subst h1;rw[if_pos rfl,if_neg (by omega),if_pos (by omega)]
  rw[if_neg h1];by_cases h2:i<k
  ·rw[if_pos h2,if_pos (by omega)]
  rw[if_neg h2,if_neg (by omega)]
theorem ak0(l m:List Nat):(rk l m).length=l.length:=si _ _ _
theorem ap3{m:List Nat}{i:Nat}(h:i<l.length)(hm:i<m.length):mJ (rk l m) i=max (mJ l i) (mJ m i):=by
 rw[rk,aq5 h,if_pos hm]
theorem ap1(B:Nat)(ms ns:List Int):rk (regs B ms) (regs B ns)=regs B (ms++ns):=
 an1 (by rw[ak0,q9]) (fun i hi=>by
  rw[ap3 (by rw[q9];exact hi) (by rw[q9];exact hi),ad3 hi,ad3 hi,ao9])
variable{ms:List Int}
theorem am9(h:∀i,top B ms i=top B ns i):regs B ms=regs B ns:=
 an1 (q9 _ _) (fun i hi=>by rw[ad3 hi,h])
theorem ax0(B:Nat)(ns:List Int)(n:Int):uK B (regs B ns) n.toNat=regs B (ns++[n]):=by rw[regs,regs,IK]
end Hl
namespace Cm
theorem WS(a b:Int):sat a b=min (a+b) 18446744073709551615:=by unfold sat;split<;>omega
theorem ay7(l:List Int)(p i:Nat)(v:Int)(hp:p<l.length):nth (l.set p v) i=if i=p then v else nth l i:=by
 unfold nth;rw[jq];by_cases h:p=i
 ·subst h;simp[hp]
 rw[if_neg h,if_neg (fun e=>h e.symm)]
theorem ay8(f:Nat→Int→Int)(l:List Int)(p i:Nat)(hp:p<l.length):nth (UR f l p) i=if i=p then f p (nth l p)else nth l i:=ay7 l p i _ hp
theorem ac3(f:Nat→Int→Int)(i:Nat):∀(ps:List Nat)(l:List Int),(∀p∈ps,p<l.length)→ps.Nodup→nth (lL f l ps) i=if i∈ps then f i (nth l i)else nth l i
 |[],l,_,_=>by simp[lL]
 |p::ps,l,hp,hn=>by
  have hn':=List.nodup_cons.1 hn;have h1:nth (lL f l (p::ps)) i=nth (lL f (UR f l p) ps) i:=rfl;rw[h1,ac3 f i ps (UR f l p) (fun q hq=>by rw[Kf];exact hp q (dS _ hq)) hn'.2,ay8 f l p i (hp p ab)];by_cases e:i=p
  ·subst e;simp[hn'.1]
  simp[e]
variable{m:List Int}
theorem aw4{l:List Int}(h:l.length=m.length)(hn:∀i,i<l.length→nth l i=nth m i):l=m:=by
 apply iO h;intro i h1 h2;have:=hn i h1;simpa[nth,h1,h2]using this
theorem JS{a b c:Nat}(hc:c<b):(a*b+c)/b=a∧(a*b+c)%b=c:=
 ⟨by rw[Nat.add_comm,Nat.add_mul_div_right _ _ (by omega),Nat.div_eq_of_lt hc,au],by rw[Nat.add_comm,Nat.add_mul_mod_self_right,Nat.mod_eq_of_lt hc]⟩
def tells(C:Nat)(h:Int)(i:Nat):Bool:=decide (ET C (i/C:Nat) h=(i%C:Nat))
def raw(C:Nat)(l:List (Int×Int))(i:Nat):Int:=(l.map fun it=>if tells C it.1 i then it.2 else 0).sum
variable{R:Nat}
theorem mem_places{C:Nat}(hC:0<C){i:Nat}(hi:i<R*C):i∈places R C h↔tells C h i=true:=by
 have hdiv:i/C<R:=iZ (by rw[aQ];exact hi);have hbd:=My (c:=C) (by omega) (i/C:Nat) h;constructor
 ·intro hm;obtain⟨k,hk,e⟩:=dq.1 hm;have hb:=My (c:=C) (by omega) k h;obtain⟨v,hv⟩:∃v:Nat,ET C k h=v:=⟨(ET C k h).toNat,by omega⟩;have e':i=k*C+v:=by rw[←e,place,hv,dM]
  have hvc:v<C:=by omega
  have h1:i/C=k:=by rw[e'];exact(JS hvc).1
  have h2:i%C=v:=by rw[e'];exact(JS hvc).2
  simp only[tells,decide_eq_true_eq,h1,h2];exact hv
 intro ht;simp only[tells,decide_eq_true_eq]at ht;refine dq.2 ⟨i/C,dh.2 hdiv,?_⟩;rw[place,ht,dM];exact Nat.div_add_mod' i C
theorem al2{C:Nat}(hC:0<C)(h:Int):(places R C h).Nodup:=by
 unfold places;refine List.Pairwise.map _ ?_ List.nodup_range;intro a b hab e;have ha:=My (c:=C) (by omega) a h;have hb:=My (c:=C) (by omega) b h;obtain⟨va,hva⟩:∃v:Nat,ET C a h=v:=⟨(ET C a h).toNat,by omega⟩;obtain⟨vb,hvb⟩:∃v:Nat,ET C b h=v:=⟨(ET C b h).toNat,by omega⟩;simp only[place,hva,hvb,dM]at e;have h1:(a*C+va)/C=a:=(JS (by omega)).1;have h2:(b*C+vb)/C=b:=(JS (by omega)).1;exact hab (by rw[←h1,e,h2])
theorem ay6(C:Nat)(i:Nat):raw C [] i=0:=rfl
theorem ai8(C:Nat)(l m:List (Int×Int))(i:Nat):raw C (l++m) i=raw C l i+raw C m i:=by simp[raw]
theorem aq9(n i:Nat):nth (de n 0) i=0:=by
 unfold nth;rw[List.getElem?_replicate];split<;>rfl
theorem as3{C:Nat}{L M:List Int}(h:mX R C=true)(hL:L.length=R*C)(hM:M.length=R*C):
 ∃N,ni ⟨R,C,L⟩ ⟨R,C,M⟩=(⟨R,C,N⟩,0)∧N.length=R*C∧∀i,i<R*C→nth N i=sat (nth L i) (nth M i):=by
 have hr:kP R C L.length=true:=rE h (by rw[hL];simp)
 have hm:kP R C M.length=true:=rE h (by rw[hM];simp)
 refine⟨lL (fun p o=>sat o (nth M p)) L (bu L.length),?_,by rw[mT];exact hL,fun i hi=>?_⟩
 ·rw[ni,if_pos ⟨hr,hm,rfl,rfl⟩]
 rw[ac3 _ _ _ _ (fun p hp=>dh.1 hp) List.nodup_range,if_pos (dh.2 (by rw[hL];exact hi))]
end Cm
namespace Hi
def au4(l:List (Int×Int)):Prop:=∀x∈l,U x.1∧U x.2
section
variable{w w':jC}{B B':Nat}{A:Option jG}{l:List (Int×Int)}
end
theorem ax1{p:Int→Bool}:∀{l:jX}{a n:Int},UB l→U n→cap (S p (mY l a n))=cap (S p l+if p a then n else 0)
 |[],a,n,_,_=>by simp[mY,S]
 |x::l,a,n,h,hn=>by
  obtain⟨h1,h2⟩:=h.cons;have hs:=Bu (p:=p) h2;have ih:=ax1 (p:=p) (a:=a) h2 hn;unfold U at h1 hn;unfold mY;split
  ·simp only[S];unfold cap at ih⊢;have hs2:=Bu (p:=p) (wg (a:=a) h2 hn);split<;>split at ih<;>split<;>simp_all<;>omega
  split
  ·rename_i e;simp only[S,e];unfold cap;rw[WS];split<;>omega
  simp only[S];unfold cap;split<;>split<;>omega
theorem ah4(a a' b:Int)(hb:0≤b)(h:cap a=cap a'):cap (a+b)=cap (a'+b):=by unfold cap at*;omega
theorem ao4{p:Int→Bool}:∀{m l:jX},UB l→UB m→cap (S p (ku l m))=cap (S p l+S p m)
 |[],l,_,_=>by simp[ku,S]
 |x::m,l,h,hm=>by
  obtain⟨h1,h2⟩:=hm.cons;rw[yB,ao4 (m:=m) (wg h h1) h2,ah4 _ _ _ (Bu h2) (ax1 h h1)];simp only[S];congr 1;omega
theorem ao6(p:Int→Bool)(l m:jX):S p (l++m)=S p l+S p m:=by
 induction l with
 |nil=>simp[S]
 |cons x l ih=>simp only[dj,S,ih];omega
theorem aj9{p:Int→Bool}:∀{l:jX},(∀x∈l,p x.1=false)→S p l=0
 |[],_=>rfl
 |x::l,h=>by
  simp only[S];rw[aj9 (p:=p) (l:=l) (fun y hy=>h y (by simp[hy])),h x (by simp)];simp
theorem ao0:∀{l m:jX},ou l→ou m→UB l→UB m→NZ l→NZ m→(∀a,cap (S (·==a) l)=cap (S (·==a) m))→l=m
 |[],[],_,_,_,_,_,_,_=>rfl
 |[],y::m,_,hm,_,um,_,ap5,h=>by
  exfalso;obtain⟨u1,u2⟩:=um.cons;have:=h y.1;have h0:=ap5 y (by simp);have hs:=Bu (p:=(·==y.1)) u2;simp only[S,cap,beq_self_eq_true,if_true]at this;unfold U at u1;omega
 |x::l,[],hl,_,as9,_,zl,_,h=>by
  exfalso;obtain⟨u1,u2⟩:=as9.cons;have:=h x.1;have h0:=zl x (by simp);have hs:=Bu (p:=(·==x.1)) u2;simp only[S,cap,beq_self_eq_true,if_true]at this;unfold U at u1;omega
 |x::l,y::m,hl,hm,as9,um,zl,ap5,h=>by
  obtain⟨l1,l2⟩:=b6.1 hl;obtain⟨m1,m2⟩:=b6.1 hm;obtain⟨u1,u2⟩:=as9.cons;obtain⟨v1,v2⟩:=um.cons;have x0:=zl x (by simp);have y0:=ap5 y (by simp);unfold U at u1 v1;have e1:x.1=y.1:=by
   rcases Int.lt_trichotomy x.1 y.1 with hlt|heq|hgt
   ·exfalso;have:=h x.1;have n1:S (·==x.1) (y::m)=0:=aj9 (fun z hz=>by
     rcases cw.1 hz with rfl|h'
     ·simp;omega
     have:=m1 z h';simp;omega)
    have hs:=Bu (p:=(·==x.1)) u2;rw[n1]at this;simp only[S,cap,beq_self_eq_true,if_true]at this;omega
   ·exact heq
   exfalso;have:=h y.1;have n1:S (·==y.1) (x::l)=0:=aj9 (fun z hz=>by
    rcases cw.1 hz with rfl|h'
    ·simp;omega
    have:=l1 z h';simp;omega)
   have hs:=Bu (p:=(·==y.1)) v2;rw[n1]at this;simp only[S,cap,beq_self_eq_true,if_true]at this;omega
  have az7:S (·==x.1) l=0:=aj9 (fun z hz=>by have:=l1 z hz;simp;omega);have nm:S (·==x.1) m=0:=aj9 (fun z hz=>by have:=m1 z hz;simp;omega);have e2:x.2=y.2:=by
   have:=h x.1;simp only[S,cap,az7,nm,beq_self_eq_true,if_true,←e1]at this;omega
  have ht:l=m:=ao0 l2 m2 u2 v2 (fun z hz=>zl z (by simp[hz])) (fun z hz=>ap5 z (by simp[hz])) (fun a=>by
   have:=h a;by_cases ea:x.1=a
   ·subst ea;rw[az7,nm]
   simp only[S]at this;have d1:(x.1==a)=false:=by simp[ea]
   have d2:(y.1==a)=false:=by rw[←e1];exact d1
   simp only[d1,d2]at this;simpa using this)
  rw[ht,Prod.ext e1 e2]
variable{n:Int}
theorem aD8{p:Int→Bool}{l:jX}{a:Int}(h:UB l)(hn:U n):cap (S p (qa l a n))=cap (S p l+if p a then n else 0):=by
 unfold qa;split
 ·rename_i e;subst e;simp
 exact ax1 h hn
def toB(f:Int)(l:List (Int×Int)):jX:=l.map fun it=>(lj f it.1,it.2)
variable{f:Int}{l:List (Int×Int)}
theorem av9(h:au4 l):UB (toB f l):=fun x hx=>by
 obtain⟨y,hy,rfl⟩:=dq.1 hx;exact(h y hy).2
structure HOf(f:Int)(l:List (Int×Int))(L:jX):Prop where
 ac0:Rt f L
 ub:oT L
 cnt:∀p,cap (S p L)=cap (S p (toB f l))
theorem aB6(h:ld f=true):Rt f []:=⟨h,List.Pairwise.nil,fun _ h=>(by simp at h),fun _ h=>(by simp at h)⟩
variable{L:jX}
theorem az5(h:Rt f L)(v n:Int):pc f L v n=(f,qa L (lj f v) n,0):=by rw[pc,if_pos (tD h)]
theorem az3{a a' b b':Int}(h:cap a=cap a')(k:cap b=cap b')(ha:0≤a)(ha':0≤a')(hb:0≤b)(hb':0≤b'):cap (a+b)=cap (a'+b'):=by unfold cap at*;omega
variable{M:jX}
theorem as1(h:Rt f L)(k:Rt f M):l8 f L f M=(f,ku L M,0):=by rw[l8,if_pos ⟨tD h,tD k,rfl⟩]
variable{m:List (Int×Int)}
theorem aB8(h:HOf f l L)(k:HOf f m M)(e:∀p,cap (S p (toB f l))=cap (S p (toB f m))):L=M:=
 ao0 h.ac0.rise k.ac0.rise h.ub.ub k.ub.ub h.ac0.nz k.ac0.nz (fun a=>by rw[h.cnt,k.cnt,e])
theorem as4(h:HOf f l L)(k:HOf f m M)(hl:au4 l)(hm:au4 m):HOf f (l++m) (ku L M):=
 ⟨WT h.ac0 k.ac0 h.ub.ub k.ub.ub,qo h.ub k.ub,fun p=>by
  rw[ao4 h.ub.ub k.ub.ub,toB,dH,ao6];exact az3 (h.cnt p) (k.cnt p) (Bu h.ub.ub) (Bu (av9 hl)) (Bu k.ub.ub) (Bu (av9 hm))⟩
end Hi
theorem am3{l m:List Int}(h:l.Perm m):l.sum=m.sum:=by
 induction h with
 |nil=>rfl
 |cons x _ ih=>simp only[aP,ih]
 |swap x y l=>simp only[aP];omega
 |trans _ _ a b=>exact a.trans b
variable{ns:List Int}{p:Nat}
theorem Hl.top_le:Hl.top B ns p≤k↔∀n∈ns,(if Hl.o_ B n.toNat=p then Hl.pF B n.toNat else 0)≤k:=by
 induction ns with
 |nil=>simp[Hl.top]
 |cons m ns ih=>simp only[Hl.top,cw,forall_eq_or_imp,Nat.max_le,ih]
variable{ms:List Int}
theorem Hl.an0(h:∀x,x∈ms↔x∈ns):Hl.regs B ms=Hl.regs B ns:=
 Hl.am9 fun i=>Nat.le_antisymm (Hl.top_le.2 fun n hn=>Hl.top_le.1 aa n ((h n).1 hn)) (Hl.top_le.2 fun n hn=>Hl.top_le.1 aa n ((h n).2 hn))
def u5(hs:List Int):List Int:=Ex.kp [] hs
variable{hs:List Int}
theorem yt{x:Int}:x∈u5 hs↔x∈hs:=by unfold u5;rw[Ex.ai9];simp
theorem u9(hs:List Int):Ex.mN (u5 hs):=Ex.pY Ex.aq8 hs
theorem am5(h:∀x,x∈hs↔x∈ms):u5 hs=u5 ms:=Ex.ad6 (u9 hs) (u9 ms) fun x=>by rw[yt,yt,h]
theorem ai4(hs ms:List Int):Ex.kp (u5 hs) (u5 ms)=u5 (hs++ms):=
 Ex.ad6 (Ex.pY (u9 hs) _) (u9 _) fun x=>by rw[Ex.ai9,yt,yt,yt,ed];exact Or.comm
theorem ak4(hs:List Int)(h:Int):Ex.kp (u5 hs) [h]=u5 (hs++[h]):=by unfold u5;rw[Ex.Cf]
theorem ah5(hs ms:List Int):(u5 hs).length≤(u5 (hs++ms)).length:=by
 rw[←ai4];exact Ex.xK (u9 hs) _
theorem aw0(hs ms:List Int):(u5 ms).length≤(u5 (hs++ms)).length:=by
 rw[am5 (hs:=hs++ms) (ms:=ms++hs) fun x=>by simp only[ed];exact Or.comm];exact ah5 ms hs
def aa2(hs:List Int):Sk:=⟨1,0,u5 hs,0,⟨#[]⟩,0,0,[],0,[]⟩
def T9(hs:List Int):Sk:=⟨1,1,[],(7:Nat),Hl.bs (Hl.regs 7 hs),0,0,[],0,[]⟩
theorem Cr(hs:List Int):Hl.kD ((7:Nat):Int) (Hl.regs 7 hs)=true:=pZ (by omega) (by omega) hs
theorem ai5(hs:List Int):lQ (Hl.bs (Hl.regs 7 hs))=Hl.regs 7 hs:=sR _ (Hl.kU (Cr hs))
theorem ml(hs:List Int):mG (aa2 hs)=T9 hs:=by
 have e:Hl.mx 7 (de (2^7) 0) (u5 hs)=Hl.regs 7 hs:=Hl.an0 (B:=7) fun x=>yt;simp only[mG,aa2,T9,T7,if_true,e]
theorem aq6(hs:List Int)(h n:Int):nQ (T9 hs) h n=T9 (hs++[h]):=by
 obtain⟨e1,_⟩:=E5 h.toNat (Cr hs);simp only[nQ,T9,ai5,e1,Hl.ax0,if_true,if_neg (show¬(1:Int)=0 by decide)]
theorem az4(hs:List Int)(h n:Int):nQ (aa2 hs) h n=aa2 (hs++[h]):=by
 simp only[nQ,aa2,ak4,if_true]
theorem aw7(hs:List Int)(h:Int):qY (aa2 hs) h=decide (64<(u5 (hs++[h])).length):=by
 simp[qY,aa2,ak4]
theorem aw5(hs:List Int)(h:Int):qY (T9 hs) h=false:=by simp[qY,T9]
theorem ay9(hs ms:List Int):p7 (aa2 hs) (aa2 ms)=aa2 (hs++ms):=by
 simp only[p7,aa2,ai4,if_true]
theorem ah6(hs ms:List Int):p7 (T9 hs) (T9 ms)=T9 (hs++ms):=by
 obtain⟨e1,_⟩:=xH (Cr hs) (Cr ms);simp only[p7,T9,ai5,e1,Hl.ap1,if_true,if_neg (show¬(1:Int)=0 by decide)]
theorem ar9(hs ms:List Int):qu (aa2 hs) (aa2 ms)=decide (64<(u5 (hs++ms)).length):=by simp[qu,aa2,ai4]
theorem ad7(hs ms:List Int):qu (T9 hs) (T9 ms)=false:=by simp[qu,T9]
def ym(hs:List Int)(s:Sk):Prop:=((u5 hs).length≤64∧s=aa2 hs)∨(64<(u5 hs).length∧s=T9 hs)
theorem ym.new:ym [] (nC 1):=.inl ⟨by decide,rfl⟩
variable{t:Sk}
theorem ym.one(h:ym hs s)(k:ym ms t)(e:∀x,x∈hs↔x∈ms):s=t:=by
 have e1:=am5 e;have e2:Hl.regs 7 hs=Hl.regs 7 ms:=Hl.an0 e;rcases h with⟨h1,rfl⟩|⟨h1,rfl⟩<;>rcases k with⟨k1,rfl⟩|⟨k1,rfl⟩
 ·unfold aa2;rw[e1]
 ·rw[e1]at h1;omega
 ·rw[e1]at h1;omega
 unfold T9;rw[e2]
theorem ym.add(k:ym hs s)(h n:Int):ym (hs++[h]) (wQ s h n):=by
 unfold wQ;rcases k with⟨k1,rfl⟩|⟨k1,rfl⟩
 ·rw[aw7];by_cases c:64<(u5 (hs++[h])).length
  ·rw[if_pos (by simpa using c),ml,aq6];exact .inr ⟨c,rfl⟩
  rw[if_neg (by simpa using c),az4];exact .inl ⟨by omega,rfl⟩
 rw[aw5,if_neg (by simp),aq6];exact .inr ⟨by have:=ah5 hs [h];omega,rfl⟩
theorem ym.merge(h:ym hs s)(k:ym ms t):ym (hs++ms) (mZ s t):=by
 have l0:∀l,(aa2 l).level=0:=fun _=>rfl;have l1:∀l,(T9 l).level=1:=fun _=>rfl;unfold mZ;rcases h with⟨h1,rfl⟩|⟨h1,rfl⟩<;>rcases k with⟨k1,rfl⟩|⟨k1,rfl⟩
 ·simp only[l0,show(max (0:Int) 0-0).toNat=0 from rfl,sW,ar9];by_cases c:64<(u5 (hs++ms)).length
  ·rw[if_pos (by simpa using c),ml,ml,ah6];exact .inr ⟨c,rfl⟩
  rw[if_neg (by simpa using c),ay9];exact .inl ⟨by omega,rfl⟩
 ·simp only[l0,l1,show(max (0:Int) 1-0).toNat=1 from rfl,show(max (0:Int) 1-1).toNat=0 from rfl,sW,ml,ad7];rw[if_neg (by simp),ah6];exact .inr ⟨by have:=aw0 hs ms;omega,rfl⟩
 ·simp only[l0,l1,show(max (1:Int) 0-0).toNat=1 from rfl,show(max (1:Int) 0-1).toNat=0 from rfl,sW,ml,ad7];rw[if_neg (by simp),ah6];exact .inr ⟨by have:=ah5 hs ms;omega,rfl⟩
 simp only[l1,show(max (1:Int) 1-1).toNat=0 from rfl,sW,ad7];rw[if_neg (by simp),ah6];exact .inr ⟨by have:=ah5 hs ms;omega,rfl⟩
def UIt(l:List (Int×Int)):Prop:=∀x∈l,U x.1∧U x.2
def ak2(c:List Int):Sk:=⟨2,0,[],0,⟨#[]⟩,2,32,c,0,[]⟩
def U2(l:List (Int×Int))(s:Sk):Prop:=∃c,s=ak2 c∧c.length=64∧Us c∧∀i,i<64→nth c i=min (Cm.raw 32 l i) 18446744073709551615
theorem U2.new:U2 [] (nC 2):=⟨de 64 0,rfl,by simp,fun x hx=>by rw[gh hx];exact u0,fun i _=>by rw[Cm.aq9,Cm.ay6];decide⟩
theorem ax8:Cm.mX ((2:Nat):Int) ((32:Nat):Int)=true:=by decide
theorem ay5{c:List Int}(h:c.length=64):Cm.kP 2 ((32:Nat):Int) c.length=true:=by rw[h];decide
variable{l m:List (Int×Int)}
theorem U2.one(h:U2 l s)(k:U2 m t)(e:∀i,Cm.raw 32 l i=Cm.raw 32 m i):s=t:=by
 obtain⟨c,rfl,c1,-,c2⟩:=h;obtain⟨d,rfl,d1,-,d2⟩:=k;have:c=d:=Cm.aw4 (c1.trans d1.symm) fun i hi=>by rw[c2 i (by omega),d2 i (by omega),e]
 rw[this]
theorem ap0(h:UIt l)(i:Nat):0≤Cm.raw 32 l i:=by
 unfold Cm.raw;induction l with
 |nil=>simp
 |cons x l ih=>
  have:=ih fun y hy=>h y (by simp[hy]);have hx:=(h x (by simp)).2.1;simp only[df,aP];split<;>omega
variable{n:Int}
theorem U2.add(k:U2 l s)(hl:UIt l)(hn:U n):U2 (l++[(h,n)]) (wQ s h n):=by
 obtain⟨c,rfl,c1,c3,c2⟩:=k;have e0:qY (ak2 c) h=false:=by simp[qY,ak2]
 have e1:wQ (ak2 c) h n=ak2 (Cm.lL (fun _ o=>Cm.sat o n) c (Cm.places 2 32 h)):=by
  have e2:Cm.xX ⟨2,32,c⟩ h n=(⟨2,32,Cm.lL (fun _ o=>Cm.sat o n) c (Cm.places 2 32 h)⟩,0):=by
   unfold Cm.xX;exact if_pos (ay5 c1)
  unfold wQ;rw[e0,if_neg (by simp)];simp only[nQ,ak2,e2,if_true,if_neg (show¬(2:Int)=1 by decide)]
 refine⟨_,e1,by rw[Cm.mT];exact c1,Us.lL (fun p o ho=>Cm.uQ ho.1 hn.1) c3,fun i hi=>?_⟩;rw[Cm.ac3 _ _ _ _ (by rw[c1];exact Cm.CO (r:=2) (c:=32) (by omega) _) (Cm.al2 (by omega) _),c2 i hi,Cm.ai8];have h0:=ap0 hl i;have h1:=hn.1;have er:Cm.raw 32 [(h,n)] i=if Cm.tells 32 h i=true then n else 0:=by simp[Cm.raw]
 rw[er];by_cases ht:Cm.tells 32 h i=true
 ·rw[if_pos ((Cm.mem_places (R:=2) (C:=32) (by omega) (by omega)).2 ht),if_pos ht,Cm.WS];omega
 rw[if_neg (fun hm=>ht ((Cm.mem_places (R:=2) (C:=32) (by omega) (by omega)).1 hm)),if_neg ht];omega
theorem U2.merge(h:U2 l s)(k:U2 m t)(hl:UIt l)(hm:UIt m):U2 (l++m) (mZ s t):=by
 obtain⟨c,rfl,c1,c3,c2⟩:=h;obtain⟨d,rfl,d1,d3,d2⟩:=k;obtain⟨N,e2,n1,n2⟩:=Cm.as3 (R:=2) (C:=32) (L:=c) (M:=d) ax8 c1 d1;have e1:mZ (ak2 c) (ak2 d)=ak2 N:=by
  have e3:Cm.ni ⟨2,32,c⟩ ⟨2,32,d⟩=(⟨2,32,N⟩,0):=e2;simp only[mZ,ak2,show(max (0:Int) 0-0).toNat=0 from rfl,sW,qu,p7,e3];simp
 refine⟨N,e1,n1,?_,fun i hi=>?_⟩
 ·intro x hx;obtain⟨i,hi,e⟩:=dR hx;have en:nth N i=x:=by unfold nth;rw[an hi];exact e
  rw[←en,n2 i (by omega)];exact Cm.uQ (rI c3 i).1 (rI d3 i).1
 rw[n2 i hi,c2 i hi,d2 i hi,Cm.ai8,Cm.WS];have:=ap0 hl i;have:=ap0 hm i;omega
theorem aw3(h:l.Perm m)(i:Nat):Cm.raw 32 l i=Cm.raw 32 m i:=by
 unfold Cm.raw;exact am3 (h.map _)
def ap4(g:Hi.jX):Sk:=⟨3,0,[],0,⟨#[]⟩,0,0,[],3,g⟩
def U3(l:List (Int×Int))(s:Sk):Prop:=∃g,s=ap4 g∧Hi.HOf 3 l g
theorem U3.new:U3 [] (nC 3):=⟨[],rfl,Hi.aB6 (by decide),(fun _ h=>by simp at h),fun p=>by simp[Hi.toB]⟩
theorem U3.one(h:U3 l s)(k:U3 m t)(e:∀p,Hi.S p (Hi.toB 3 l)=Hi.S p (Hi.toB 3 m)):s=t:=by
 obtain⟨c,rfl,c1⟩:=h;obtain⟨d,rfl,d1⟩:=k;rw[Hi.aB8 c1 d1 fun p=>by rw[e]]
theorem U3.add(k:U3 l s)(hh:U h)(hn:U n):U3 (l++[(h,n)]) (wQ s h n):=by
 obtain⟨g,rfl,k⟩:=k;have e0:qY (ap4 g) h=false:=by simp[qY,ap4]
 have e2:=Hi.az5 k.ac0 h n;have e1:wQ (ap4 g) h n=ap4 (Hi.qa g (Hi.lj 3 h) n):=by
  unfold wQ;rw[e0,if_neg (by simp)];simp only[nQ,ap4,e2,if_neg (show¬(3:Int)=1 by decide),if_neg (show¬(3:Int)=2 by decide)]
 refine⟨_,e1,Hi.WV k.ac0 k.ub.ub hh hn,Hi.Sw k.ub (Hi.q_ 3 hh) hn,fun p=>?_⟩;rw[Hi.aD8 k.ub.ub hn,Hi.toB,dH,Hi.ao6];simp only[df,jA,Hi.S];have h3:=k.cnt p;unfold Hi.toB at h3;rw[Hi.ah4 _ _ _ (by split<;>(have:=hn;unfold U at this;omega)) h3];congr 1;omega
theorem U3.merge(h:U3 l s)(k:U3 m t)(hl:UIt l)(hm:UIt m):U3 (l++m) (mZ s t):=by
 obtain⟨c,rfl,c1⟩:=h;obtain⟨d,rfl,d1⟩:=k;have e2:=Hi.as1 c1.ac0 d1.ac0;refine⟨Hi.ku c d,?_,Hi.as4 c1 d1 hl hm⟩;simp only[mZ,ap4,show(max (0:Int) 0-0).toNat=0 from rfl,sW,qu,p7,e2];simp
theorem aC1(h:l.Perm m)(p:Int→Bool):Hi.S p (Hi.toB 3 l)=Hi.S p (Hi.toB 3 m):=by
 have e:∀l:Hi.jX,Hi.S p l=(l.map fun x=>if p x.1 then x.2 else 0).sum:=fun l=>by
  induction l with
  |nil=>rfl
  |cons x l ih=>simp only[Hi.S,df,aP,ih]
 rw[e,e];unfold Hi.toB;exact am3 ((h.map _).map _)
def pairs(l:List Item):List (Int×Int):=l.map fun x=>(x.h,x.n)
def UI'(l:List Item):Prop:=∀x∈l,U x.h∧U x.n
variable{l:List Item}
theorem UI'.pairs(h:UI' l):UIt (pairs l):=fun x hx=>by
 obtain⟨y,hy,rfl⟩:=dq.1 hx;exact h y hy
def Uni(kind:Int)(l:List Item)(s:Sk):Prop:=(kind=1∧ym (l.map (·.h)) s)∨(kind=2∧U2 (pairs l) s)∨(kind=3∧U3 (pairs l) s)
theorem Uni.new{kind:Int}(hk:1≤kind∧kind≤3):Uni kind [] (nC kind):=by
 rcases(by omega:kind=1∨kind=2∨kind=3)with rfl|rfl|rfl
 ·exact .inl ⟨rfl,ym.new⟩
 ·exact .inr (.inl ⟨rfl,U2.new⟩)
 exact .inr (.inr ⟨rfl,U3.new⟩)
theorem Uni.add{kind:Int}{l:List Item}{s:Sk}(k:Uni kind l s)(hl:UI' l){x:Item}(hx:U x.h∧U x.n):Uni kind (l++[x]) (wQ s x.h x.n):=by
 have af2:pairs (l++[x])=pairs l++[(x.h,x.n)]:=by simp[pairs]
 rcases k with⟨e,k⟩|⟨e,k⟩|⟨e,k⟩
 ·exact .inl ⟨e,by rw[dH];exact k.add _ _⟩
 ·exact .inr (.inl ⟨e,by rw[af2];exact k.add hl.pairs hx.2⟩)
 exact .inr (.inr ⟨e,by rw[af2];exact k.add hx.1 hx.2⟩)
theorem Uni.adds{kind:Int}:∀{m l:List Item}{s:Sk},Uni kind l s→UI' l→UI' m→Uni kind (l++m) (mF s m)
 |[],l,s,h,_,_=>by rw[eB];exact h
 |x::m,l,s,h,hl,hm=>by
  have hx:=hm x ab;have:=Uni.adds (m:=m) (h.add hl hx) (fun y hy=>by
   rcases ed.1 hy with hy|hy
   ·exact hl y hy
   simp at hy;rw[hy];exact hx) fun y hy=>hm y (dS _ hy)
  rw[eH]at this;exact this
theorem Uni.merge{kind:Int}{l m:List Item}{s t:Sk}(h:Uni kind l s)(k:Uni kind m t)(hl:UI' l)(hm:UI' m):Uni kind (l++m) (mZ s t):=by
 have af2:pairs (l++m)=pairs l++pairs m:=by simp[pairs]
 rcases h with⟨e,h⟩|⟨e,h⟩|⟨e,h⟩<;>rcases k with⟨e2,k⟩|⟨e2,k⟩|⟨e2,k⟩<;>try omega
 ·exact .inl ⟨e,by rw[dH];exact h.merge k⟩
 ·exact .inr (.inl ⟨e,by rw[af2];exact h.merge k hl.pairs hm.pairs⟩)
 exact .inr (.inr ⟨e,by rw[af2];exact h.merge k hl.pairs hm.pairs⟩)
theorem Uni.one{kind:Int}{l m:List Item}{s t:Sk}(h:Uni kind l s)(k:Uni kind m t)(e:l.Perm m):s=t:=by
 have af2:(pairs l).Perm (pairs m):=e.map _;rcases h with⟨e1,h⟩|⟨e1,h⟩|⟨e1,h⟩<;>rcases k with⟨e2,k⟩|⟨e2,k⟩|⟨e2,k⟩<;>try omega
 ·exact h.one k fun x=>(e.map (·.h)).mem_iff
 ·exact h.one k (aw3 af2)
 exact h.one k (aC1 af2)
structure l9(c:lO)(T:kM)(t:List mq)(gn:Int)(gl:List Gr)(n:Int):Prop where
 g:nH c T
 tb:T.tb=t
 gn:T.gn=gn
 gl:T.gl=gl
 tm:T.tm=0
 n:kO T.ll=n
theorem l9.new(c:lO):l9 c newT [] 1 [] 0:=⟨nH.new c,rfl,rfl,rfl,rfl,rfl⟩
def r5(k:Sk):List mq:=[⟨O4,k,0⟩]
theorem yx{k:Sk}(hl:c.life=9)(h:T.tb=r5 k):(ko c T 0).tb=r5 k:=by
 show T.tb.filter _=_;rw[h,hl];rfl
theorem aj0(h:T.tb=[]):(ko c T 0).tb=[]:=by
 show T.tb.filter _=_;rw[h];rfl
theorem an2{k:Sk}(h:GK k):kJ (r5 k)≤1000000:=by
 have:=(Ie (s:=⟨O4,k,0⟩) ⟨WQ,h,U.zero⟩).2;simp only[kJ,r5,df,jA,aP,List.sum_nil];omega
theorem ap2(l:List kI):kV l l=false:=by
 rcases Ax l l with h|h|h
 ·rw[h.1]at h;exact absurd h.2.1 (by simp)
 ·exact h.1
 exact h.1
theorem take_one{k:Sk}(h0:T.tb=r5 k)(ht:T.tm=0)(hi:items.length≤50)(hp:vt (tx labels)=some O4)(hk:1≤kind∧kind≤3)(hkk:k.kind=kind)(hc:kJ (r5 (mF k items))≤c.budget):
 me c T labels kind items=.ok ({T with tb:=r5 (mF k items)},[]):=by
 have e0:o_ (r5 k) O4=0:=by simp[o_,r5,ap2]
 have e3:mQ (r5 k) O4=true:=by unfold mQ;rw[e0];simp[r5]
 have e1:mf T.tb O4 kind=k:=by rw[h0];unfold mf;rw[if_pos e3,e0];rfl
 have e2:we T.tb ⟨O4,mF k items,T.tm⟩=some (r5 (mF k items)):=by
  rw[h0,ht];unfold we Dm CL;simp only;rw[e3,e0];rfl
 unfold me
 rw[if_neg (by omega),hp]
 simp only
 rw[if_pos hk,e1,if_pos hkk,e2]
 simp only
 rw[show pI c.budget 100 (r5 (mF k items)) []=some (r5 (mF k items),[])from by show(if _ then _ else _)=_;rw[if_pos hc]]
variable{gn:Int}{gl:List Gr}
theorem l9.in0(h:l9 c T [] gn gl n)(hb:c.budget=1000000)(hk:1≤kind∧kind≤3)(hi:items.length≤50)(hu:UI' items)(hn:n<100):
 ∃T',nl c T 0 MD kind items=.ok (T',[])∧l9 c T' (r5 (mF (nC kind) items)) gn gl (n+1):=by
 have gk:=(t7 items (wj hk).1 hu).1
 have ht:=Pp (c:=c) (T:=ko c T 0) (aj0 h.tb) hi Qg hk (by rw[hb];exact an2 gk)
 obtain⟨b,l,e⟩:=NT h.g U.zero (by rw[h.tm];omega) ht (by rw[h.n];omega)
 have g:=wy h.g U.zero hu e
 exact⟨_,e,g.1.g,rfl,h.gn,h.gl,rfl,by rw[g.1.last,h.n]⟩
theorem l9.in1{k:Sk}(h:l9 c T (r5 k) gn gl n)(hb:c.budget=1000000)(hl:c.life=9)(hk:1≤kind∧kind≤3)(hkk:k.kind=kind)(gk:GK k)(hi:items.length≤50)(hu:UI' items)(hn:n<100):
 ∃T',nl c T 0 MD kind items=.ok (T',[])∧l9 c T' (r5 (mF k items)) gn gl (n+1):=by
 have gk2:=(t7 items gk hu).1
 have ht:=take_one (c:=c) (T:=ko c T 0) (yx hl h.tb) rfl hi Qg hk hkk (by rw[hb];exact an2 gk2)
 obtain⟨b,l,e⟩:=NT h.g U.zero (by rw[h.tm];omega) ht (by rw[h.n];omega)
 have g:=wy h.g U.zero hu e
 exact⟨_,e,g.1.g,rfl,h.gn,h.gl,rfl,by rw[g.1.last,h.n]⟩
variable{t:List mq}
theorem l9.grant{to:Int}(h:l9 c T t 1 [] n)(hc:(ko c T 0).tb=t)(hs:mw sc=true)(hz:sc.size≤1000)(ht:U to)(hn:n<100):
 ∃T',sy c T 0 to sc=.ok (T',1)∧l9 c T' t 2 [⟨1,to,sc⟩] (n+1):=by
 have hi:lW T.gn T.gl to sc=.ok (2,[⟨1,to,sc⟩],1):=by
  rw[h.gn,h.gl];unfold lW;rw[if_pos hs,if_neg (by simp)];rfl
 obtain⟨b,l,e⟩:=Wg (T2:={ko c T 0 with gn:=2,gl:=[⟨1,to,sc⟩]}) (a:=(1:Int)) (step:=fun T=>(lW T.gn T.gl to sc).map fun r=>({T with gn:=r.1,gl:=r.2.1},r.2.2)) h.g U.zero (by rw[h.tm];omega) (by show(lW T.gn T.gl to sc).map _=_;rw[hi];rfl) rfl rfl rfl ar4 (by rw[h.n];omega)
 have e':sy c T 0 to sc=.ok ({({ko c T 0 with gn:=2,gl:=[⟨1,to,sc⟩]}:kM)with lb:=b,ll:=l},1):=e
 have g:=Ux h.g U.zero ht hz e'
 exact⟨_,e',g.1.g,hc,rfl,rfl,rfl,by rw[g.1.last,h.n]⟩
theorem l9.note(h:l9 c T t gn gl n)(hc:(ko c T 0).tb=t)(hn:n<100):∃T',CV c T 0 "rollup".toByteArray=.ok (T',())∧l9 c T' t gn gl (n+1):=by
 obtain⟨b,l,e⟩:=Wg (T2:=ko c T 0) (a:=()) (step:=fun T=>.ok (T,())) h.g U.zero (by rw[h.tm];omega) rfl rfl rfl rfl ar1 (by rw[h.n];omega);have e':CV c T 0 "rollup".toByteArray=.ok ({ko c T 0 with lb:=b,ll:=l},()):=e;have g:=Qk h.g U.zero e';exact⟨_,e',g.1.g,hc,h.gn,h.gl,rfl,by rw[g.1.last,h.n]⟩
theorem am8{k:Sk}{to:Int}(hs:nX sc O4=true)(hk:1≤kind∧kind≤3)(hkk:k.kind=kind):qT [⟨1,to,sc⟩] to (r5 k) ⟨#[]⟩ kind=.ok (mZ (nC kind) k):=by
 have e1:mj ⟨#[]⟩ (r5 k) 1=[0]:=by simp[mj,uo,r5,YZ]
 have e2:rJ [⟨1,to,sc⟩] to (r5 k) 0=true:=by simp[rJ,ND,r5,hs]
 unfold qT Ay nj;rw[if_pos YT,show(r5 k).length=1 from rfl,e1];simp only[jb,eC,e2,List.filter_nil,if_true];rw[if_pos hk];simp[nN,r5,hkk]
def inR(kind:Int)(l:List Item):s9:=⟨1,0,MD,⟨#[]⟩,kind,l,0,0,0,[]⟩
def grR(sc:ByteArray):s9:=⟨4,0,⟨#[]⟩,sc,0,[],0,3,0,[]⟩
def ruR(kind h:Int)(ids:List Int):s9:=⟨3,0,⟨#[]⟩,⟨#[]⟩,kind,[],h,0,0,ids⟩
def quR(kind h:Int):s9:=⟨2,0,⟨#[]⟩,⟨#[]⟩,kind,[],h,0,0,[]⟩
def ac2:List Pb:=[⟨1,1000000,9⟩,⟨2,1000000,9⟩,⟨3,1000000,9⟩]
def mis(k l:Int):Prop:=k≠l
theorem aB2{c1 c2 c3:lO}(i1:c1.id=1)(i2:c2.id=2)(i3:c3.id=3)(T1 T2 T3:kM):m6 [(c1,T1),(c2,T2),(c3,T3)] 1=some 0∧m6 [(c1,T1),(c2,T2),(c3,T3)] 2=some 1∧m6 [(c1,T1),(c2,T2),(c3,T3)] 3=some 2∧m6 [(c1,T1),(c2,T2),(c3,T3)] 9=none:=by
 simp[m6,i1,i2,i3,jl]
theorem al4(h:T.tm=0)(hk:¬(1≤kind∧kind≤3))(hi:items.length≤50):nl c T 0 MD kind items=.error 101:=by
 unfold nl EQ;rw[if_neg (by omega)];have:me c (ko c T 0) MD kind items=.error 101:=by
  unfold me;rw[if_neg (by omega),Qg];simp only;rw[if_neg hk]
 dsimp only;rw[this]
theorem ah3{c1:lO}{T':kM}{id:Int}{r:Except Int (kM×List Nat)}(hf:m6 C id=some k)(hk:C[k]? =some (c1,T))(e:nl c1 T 0 MD kind items=r):
 tW C (yW id) (inR kind items)=match r with|.error er=>(C,uJ er)|.ok x=>(C.set k (c1,x.1),⟨0,kJ x.1.tb,x.2,[]⟩):=by
 show tW C ⟨id,3,0⟩ _=_
 rw[qh hf hk (by show(1:Int)≤1∧(1:Int)≤7;omega)]
 have ho:p6 c1 T (inR kind items)=r.map fun x=>(x.1,⟨0,kJ x.1.tb,x.2,[]⟩):=by
  unfold p6;rw[if_pos (show(inR kind items).op=1 from rfl)];show(nl c1 T 0 MD kind items).map _=_;rw[e]
 cases r with
 |error er=>exact UH (by show(1:Int)≠3;omega) ho
 |ok x=>exact xR (by show(1:Int)≠3;omega) ho
theorem aq4{c1:lO}{T':kM}{id:Int}(hf:m6 C id=some k)(hk:C[k]? =some (c1,T))(e:sy c1 T 0 3 sc=.ok (T',n)):
 tW C (yW id) (grR sc)=(C.set k (c1,T'),⟨0,n,[],[]⟩):=by
 show tW C ⟨id,3,0⟩ _=_
 rw[qh hf hk (by show(1:Int)≤4∧(4:Int)≤7;omega)]
 refine xR (by show(4:Int)≠3;omega) ?_
 unfold p6
 rw[if_neg (by show¬(4:Int)=1;omega),if_neg (by show¬(4:Int)=2;omega),if_pos (show(grR sc).op=4 from rfl)]
 show(sy c1 T 0 3 sc).map _=_
 rw[e];rfl
theorem aq3{c1:lO}{T':kM}{id:Int}(hf:m6 C id=some k)(hk:C[k]? =some (c1,T))(hi:ids.length≤8):
 tW C (yW id) (ruR kind h ids)=if 1≤kind∧kind≤3 then(match CV c1 T 0 "rollup".toByteArray with|.error er=>(C,uJ er)|.ok x=>(C.set k (c1,x.1),⟨0,rt (vm (C.set k (c1,x.1)) c1.id ⟨#[]⟩ kind ids) h,[],[]⟩))else(C,uJ 101):=by
 show tW C ⟨id,3,0⟩ _=_
 rw[qh hf hk (by show(1:Int)≤3∧(3:Int)≤7;omega)]
 have hn:qt c1 T (ruR kind h ids)=if 1≤kind∧kind≤3 then CV c1 T 0 "rollup".toByteArray else .error 101:=by
  unfold qt;rw[if_neg (by show¬8<ids.length;omega),if_pos (show mw (ruR kind h ids).scope=true from YT)];rfl
 by_cases hkk:1≤kind∧kind≤3
 ·rw[if_pos hkk]at hn⊢
  cases e:CV c1 T 0 "rollup".toByteArray with
  |error er=>rw[e]at hn;exact an7 rfl hn
  |ok x=>rw[e]at hn;exact az2 rfl hn
 rw[if_neg hkk]at hn⊢
 exact an7 rfl hn
theorem aB3{c1:lO}{T':kM}{id:Int}{r:Except Int (kM×Int)}(hf:m6 C id=some k)(hk:C[k]? =some (c1,T))(e:pM c1 T 0 ⟨#[]⟩ kind h=r):
 tW C (yW id) (quR kind h)=match r with|.error er=>(C,uJ er)|.ok x=>(C.set k (c1,x.1),⟨0,x.2,[],[]⟩):=by
 show tW C ⟨id,3,0⟩ _=_
 rw[qh hf hk (by show(1:Int)≤2∧(2:Int)≤7;omega)]
 have ho:p6 c1 T (quR kind h)=r.map fun x=>(x.1,⟨0,x.2,[],[]⟩):=by
  unfold p6;rw[if_neg (by show¬(2:Int)=1;omega),if_pos (show(quR kind h).op=2 from rfl)];show(pM c1 T 0 ⟨#[]⟩ kind h).map _=_;rw[e]
 cases r with
 |error er=>exact UH (by show(2:Int)≠3;omega) ho
 |ok x=>exact xR (by show(2:Int)≠3;omega) ho
theorem aB7(ht:T.tm=0)(hk:¬(1≤kind∧kind≤3)):pM c T 0 ⟨#[]⟩ kind h=.error 101:=by
 unfold pM EQ;rw[if_neg (by omega)];have:kA (ko c T 0).tb ⟨#[]⟩ kind=.error 101:=by
  unfold kA nj;rw[if_pos YT];simp only;rw[if_neg hk]
 dsimp only;rw[this];rfl
structure al5(C0:Col)(kind h:Int)(a b:List Item)(C1 C2 C3 C4 C5 ac8 ac7 ac4 C9:Col)(y1 y2 y3 y4 y5 y6 y7 y8 y9:Rep):Prop where
 d1:tW C0 (yW 1) (inR kind a)=(C1,y1)
 d2:tW C1 (yW 3) (inR kind a)=(C2,y2)
 d3:tW C2 (yW 2) (inR kind b)=(C3,y3)
 d4:tW C3 (yW 3) (inR kind b)=(C4,y4)
 d5:tW C4 (yW 1) (grR ⟨#[]⟩)=(C5,y5)
 d6:tW C5 (yW 2) (grR MD)=(ac8,y6)
 ah2:tW ac8 (yW 3) (ruR kind h [1,2])=(ac7,y7)
 af4:tW ac7 (yW 3) (ruR kind h [2,1,9])=(ac4,y8)
 d9:tW ac4 (yW 3) (quR kind h)=(C9,y9)
 e1:y1.e=y2.e
 e2:y3.e=y4.e
 e3:y5.e=0
 e4:y6.e=0
 e5:y7.e=y9.e
 e6:y8.e=y9.e
 n1:y7.n=y9.n
 n2:y8.n=y9.n
theorem aq1{own id:Int}{r:Except Int Sk}(hf:m6 C id=some k)(hk:C[k]? =some (c,T))(hne:id≠own)(hr:qT T.gl own T.tb ⟨#[]⟩ kind=r):uV C own ⟨#[]⟩ kind id=r:=by
 unfold uV;rw[hf];simp only;rw[hk];simp only;rw[if_neg hne];exact hr
variable{a b:List Item}
theorem ao8(hk:1≤kind∧kind≤3)(ha:a.length≤50)(hb:b.length≤50)(ua:UI' a)(ub:UI' b):
 ∃C1 C2 C3 C4 C5 ac8 ac7 ac4 C9 y1 y2 y3 y4 y5 y6 y7 y8 y9,al5 (lE ka kb ac2) kind h a b C1 C2 C3 C4 C5 ac8 ac7 ac4 C9 y1 y2 y3 y4 y5 y6 y7 y8 y9:=by
 obtain⟨c1,hc1⟩:∃c,c=qF ka kb ⟨1,1000000,9⟩:=⟨_,rfl⟩
 obtain⟨c2,hc2⟩:∃c,c=qF ka kb ⟨2,1000000,9⟩:=⟨_,rfl⟩
 obtain⟨c3,hc3⟩:∃c,c=qF ka kb ⟨3,1000000,9⟩:=⟨_,rfl⟩
 have e0:lE ka kb ac2=[(c1,newT),(c2,newT),(c3,newT)]:=by rw[hc1,hc2,hc3];rfl
 have i1:c1.id=1:=by rw[hc1];rfl
 have i2:c2.id=2:=by rw[hc2];rfl
 have i3:c3.id=3:=by rw[hc3];rfl
 have b1:c1.budget=1000000:=by rw[hc1];rfl
 have b2:c2.budget=1000000:=by rw[hc2];rfl
 have b3:c3.budget=1000000:=by rw[hc3];rfl
 have l1:c1.life=9:=by rw[hc1];rfl
 have l2:c2.life=9:=by rw[hc2];rfl
 have l3:c3.life=9:=by rw[hc3];rfl
 clear hc1 hc2 hc3
 rw[e0]
 have l5:=fun T U V=>aB2 i1 i2 i3 T U V
 obtain⟨T1,p1,x1⟩:=(l9.new c1).in0 b1 hk ha ua (by omega)
 obtain⟨T3,p2,x3⟩:=(l9.new c3).in0 b3 hk ha ua (by omega)
 obtain⟨T2,p3,x2⟩:=(l9.new c2).in0 b2 hk hb ub (by omega)
 have ka1:=t7 a (wj hk).1 ua
 have kk1:(mF (nC kind) a).kind=kind:=ka1.2.trans (wj hk).2.1
 obtain⟨T3',p4,x3'⟩:=x3.in1 b3 l3 hk kk1 ka1.1 hb ub (by omega)
 have kb1:=t7 b (wj hk).1 ub
 have kk2:(mF (nC kind) b).kind=kind:=kb1.2.trans (wj hk).2.1
 have kab:=t7 b ka1.1 ub
 have kk3:(mF (mF (nC kind) a) b).kind=kind:=kab.2.trans kk1
 have U3:U 3:=U.nat (n:=3) (by omega)
 obtain⟨T1',p5,x1'⟩:=x1.grant (to:=3) (sc:=⟨#[]⟩) (yx l1 x1.tb) YT (by decide) U3 (by omega)
 obtain⟨T2',at6,x2'⟩:=x2.grant (to:=3) (sc:=MD) (yx l2 x2.tb) FW (by decide) U3 (by omega)
 obtain⟨T3a,aD2,x3a⟩:=x3'.note (yx l3 x3'.tb) (by omega)
 obtain⟨T3b,aD0,x3b⟩:=x3a.note (yx l3 x3a.tb) (by omega)
 have hm:kA (ko c3 T3b 0).tb ⟨#[]⟩ kind=.ok (mZ (nC kind) (mF (mF (nC kind) a) b)):=by
  rw[yx l3 x3b.tb];exact J0 (s:=⟨O4,_,0⟩) YT (YZ _) hk kk3
 obtain⟨bq,lq,p9⟩:=Gf (h:=h) x3b.g U.zero (by rw[x3b.tm];omega) hm (by rw[x3b.n];omega)
 have ah8:=Uni.new hk
 have ah9:UI' []:=fun x hx=>by simp at hx
 have at1:=ah8.adds (m:=a) ah9 ua
 have az6:=ah8.adds (m:=b) ah9 ub
 have uAB:=at1.adds (m:=b) (by simpa using ua) ub
 simp only[dz]at at1 az6 uAB
 have uab:UI' (a++b):=fun x hx=>(ed.1 hx).elim (ua x) (ub x)
 have mA:=ah8.merge at1 ah9 ua
 have au0:=ah8.merge az6 ah9 ub
 have mAB:=ah8.merge uAB ah9 uab
 simp only[dz]at mA au0 mAB
 have s1:=(ah8.merge mA ah9 ua).merge au0 (by simpa using ua) ub
 have s2:=(ah8.merge au0 ah9 ub).merge mA (by simpa using ub) ua
 simp only[dz]at s1 s2
 have q1:=s1.one mAB (List.Perm.refl _)
 have q2:=s2.one mAB List.perm_append_comm
 have r1:∀V:kM,uV [(c1,T1'),(c2,T2'),(c3,V)] 3 ⟨#[]⟩ kind 1=.ok (mZ (nC kind) (mF (nC kind) a)):=fun V=>aq1 (l5 _ _ _).1 rfl (by omega) (by rw[x1'.gl,x1'.tb];exact am8 (YZ _) hk kk1)
 have r2:∀V:kM,uV [(c1,T1'),(c2,T2'),(c3,V)] 3 ⟨#[]⟩ kind 2=.ok (mZ (nC kind) (mF (nC kind) b)):=fun V=>aq1 (l5 _ _ _).2.1 rfl (by omega) (by rw[x2'.gl,x2'.tb];exact am8 Qr hk kk2)
 have r9:∀V:kM,uV [(c1,T1'),(c2,T2'),(c3,V)] 3 ⟨#[]⟩ kind 9=.error 170:=fun V=>by unfold uV;rw[(l5 _ _ _).2.2.2]
 have t1:∀V:kM,vm [(c1,T1'),(c2,T2'),(c3,V)] 3 ⟨#[]⟩ kind [1,2]=mZ (nC kind) (mF (mF (nC kind) a) b):=fun V=>by
  unfold vm;simp only[List.foldl_cons,List.foldl_nil,ln,r1,r2];exact q1
 have t2:∀V:kM,vm [(c1,T1'),(c2,T2'),(c3,V)] 3 ⟨#[]⟩ kind [2,1,9]=mZ (nC kind) (mF (mF (nC kind) a) b):=fun V=>by
  unfold vm;simp only[List.foldl_cons,List.foldl_nil,ln,r1,r2,r9];exact q2
 have ah2:=aq3 (kind:=kind) (h:=h) (ids:=[1,2]) (T':=T3') (l5 T1' T2' T3').2.2.1 rfl (by decide)
 rw[if_pos hk,aD2]at ah2
 have af4:=aq3 (kind:=kind) (h:=h) (ids:=[2,1,9]) (T':=T3') (l5 T1' T2' T3a).2.2.1 rfl (by decide)
 rw[if_pos hk,aD0]at af4
 have g7:rt (vm [(c1,T1'),(c2,T2'),(c3,T3a)] c3.id ⟨#[]⟩ kind [1,2]) h=rt (mZ (nC kind) (mF (mF (nC kind) a) b)) h:=by rw[i3,t1]
 have g8:rt (vm [(c1,T1'),(c2,T2'),(c3,T3b)] c3.id ⟨#[]⟩ kind [2,1,9]) h=rt (mZ (nC kind) (mF (mF (nC kind) a) b)) h:=by rw[i3,t2]
 exact⟨_,_,_,_,_,_,_,_,_,_,_,_,_,_,_,_,_,_,ah3 (T':=T1) (l5 _ _ _).1 rfl p1,ah3 (T':=T1) (l5 T1 _ _).2.2.1 rfl p2,ah3 (T':=T1) (l5 T1 _ T3).2.1 rfl p3,ah3 (T':=T1) (l5 T1 T2 T3).2.2.1 rfl p4,aq4 (l5 T1 T2 T3').1 rfl p5,aq4 (l5 T1' T2 T3').2.1 rfl at6,ah2,af4,aB3 (T':=T1) (l5 T1' T2' T3b).2.2.1 rfl p9,rfl,rfl,rfl,rfl,rfl,rfl,g7,g8⟩
theorem aq7(hk:¬(1≤kind∧kind≤3))(ha:a.length≤50)(hb:b.length≤50):
 ∃C1 C2 C3 C4 C5 ac8 ac7 ac4 C9 y1 y2 y3 y4 y5 y6 y7 y8 y9,al5 (lE ka kb ac2) kind h a b C1 C2 C3 C4 C5 ac8 ac7 ac4 C9 y1 y2 y3 y4 y5 y6 y7 y8 y9:=by
 obtain⟨c1,hc1⟩:∃c,c=qF ka kb ⟨1,1000000,9⟩:=⟨_,rfl⟩
 obtain⟨c2,hc2⟩:∃c,c=qF ka kb ⟨2,1000000,9⟩:=⟨_,rfl⟩
 obtain⟨c3,hc3⟩:∃c,c=qF ka kb ⟨3,1000000,9⟩:=⟨_,rfl⟩
 have e0:lE ka kb ac2=[(c1,newT),(c2,newT),(c3,newT)]:=by rw[hc1,hc2,hc3];rfl
 have i1:c1.id=1:=by rw[hc1];rfl
 have i2:c2.id=2:=by rw[hc2];rfl
 have i3:c3.id=3:=by rw[hc3];rfl
 clear hc1 hc2 hc3
 rw[e0]
 have l5:=fun T U V=>aB2 i1 i2 i3 T U V
 have U3:U 3:=U.nat (n:=3) (by omega)
 obtain⟨T1',p5,x1'⟩:=(l9.new c1).grant (to:=3) (sc:=⟨#[]⟩) (aj0 rfl) YT (by decide) U3 (by omega)
 obtain⟨T2',at6,x2'⟩:=(l9.new c2).grant (to:=3) (sc:=MD) (aj0 rfl) FW (by decide) U3 (by omega)
 have ah2:=aq3 (kind:=kind) (h:=h) (ids:=[1,2]) (T':=newT) (l5 T1' T2' newT).2.2.1 rfl (by decide)
 rw[if_neg hk]at ah2
 have af4:=aq3 (kind:=kind) (h:=h) (ids:=[2,1,9]) (T':=newT) (l5 T1' T2' newT).2.2.1 rfl (by decide)
 rw[if_neg hk]at af4
 exact⟨_,_,_,_,_,_,_,_,_,_,_,_,_,_,_,_,_,_,ah3 (T':=newT) (l5 _ _ _).1 rfl (al4 rfl hk ha),ah3 (T':=newT) (l5 _ _ _).2.2.1 rfl (al4 rfl hk ha),ah3 (T':=newT) (l5 _ _ _).2.1 rfl (al4 rfl hk hb),ah3 (T':=newT) (l5 _ _ _).2.2.1 rfl (al4 rfl hk hb),aq4 (l5 newT newT newT).1 rfl p5,aq4 (l5 T1' newT newT).2.1 rfl at6,ah2,af4,aB3 (T':=newT) (l5 T1' T2' newT).2.2.1 rfl (aB7 rfl hk),rfl,rfl,rfl,rfl,rfl,rfl,rfl,rfl⟩
theorem ax7(ha:a.length≤50)(hb:b.length≤50)(ua:UI' a)(ub:UI' b):
 ∃C1 C2 C3 C4 C5 ac8 ac7 ac4 C9 y1 y2 y3 y4 y5 y6 y7 y8 y9,al5 (lE ka kb ac2) kind h a b C1 C2 C3 C4 C5 ac8 ac7 ac4 C9 y1 y2 y3 y4 y5 y6 y7 y8 y9:=by
 by_cases hk:1≤kind∧kind≤3
 ·exact ao8 hk ha hb ua ub
 exact aq7 hk ha hb
theorem aq2(hl:l.length≤50)(hu:UI' l):lN (inR kind l):=⟨U.zero,by show MD.size≤300;decide,by show(jf #[]).size≤300;decide,by show l.length≤52;omega,hu,U.zero,U.zero,U.zero,by show 0≤10;omega,fun x hx=>by simp[inR]at hx⟩
theorem ah7(h:sc.size≤300):lN (grR sc):=⟨U.zero,by show(jf #[]).size≤300;decide,h,by show 0≤52;omega,fun x hx=>by simp[grR]at hx,U.zero,U.nat (n:=3) (by omega),U.zero,by show 0≤10;omega,fun x hx=>by simp[grR]at hx⟩
theorem ap9(hh:U h)(hl:ids.length≤10)(hu:∀x∈ids,U x):lN (ruR kind h ids):=⟨U.zero,by show(jf #[]).size≤300;decide,by show(jf #[]).size≤300;decide,by show 0≤52;omega,fun x hx=>by simp[ruR]at hx,hh,U.zero,U.zero,hl,hu⟩
theorem aq0(hh:U h):lN (quR kind h):=⟨U.zero,by show(jf #[]).size≤300;decide,by show(jf #[]).size≤300;decide,by show 0≤52;omega,fun x hx=>by simp[quR]at hx,hh,U.zero,U.zero,by show 0≤10;omega,fun x hx=>by simp[quR]at hx⟩
variable{xs:List jD}
theorem aw2{A:Option jG}{ys:List jD}(h:Rd w B A xs)(hp:ys <+: xs):Rd w B A ys:=fun hn=>by
 obtain⟨t,rfl⟩:=hp;obtain⟨b,off,e,hb,hc⟩:=h (by intro e;exact hn (iM.1 e).1);exact⟨b,off,e,hb,fun j v hj=>hc j v (by rw[eL (ci.1 hj).1];exact hj)⟩
theorem am1(l:List Item)(n:Nat):(l.take n).flatMap Q8 <+: l.flatMap Q8:=by
 conv=>rhs;rw[←fQ n l,eZ]
 exact List.prefix_append _ _
theorem K1(h:Hid (nR C∧C.length≤100))(hf:lN r)(e:tW C x r=(C',y)):Hid (nR C'∧C'.length≤100):=
 have g:=R3 h.out.1 hf e
 ⟨g.1,by rw[g.2.2];exact h.out.2⟩
theorem union_any(ka kb kind:Int)(A:Option jG)(l1:List Item)(ca:Nat)(B:Option jG)(l2:List Item)(cb:Nat)(h:Int)(w:jC)(w2:l1.length≤ca∧ca≤maxLen∧(∀x∈l1,U x.h∧U x.n)∧Rd w w.heap.size A (l1.flatMap Q8))(w3:l2.length≤cb∧cb≤maxLen∧(∀x∈l2,U x.h∧U x.n)∧Rd w w.heap.size B (l2.flatMap Q8))(al7:U h)(hT:Tb w)(hE:Er w)(hw:4≤w.heap.size):
 jE Tryz.prog 5 #[.agg #[.int .u64 ka,.int .u64 kb],.int .i64 kind,.slice A l1.length ca,.slice B l2.length cb,.int .u64 h] w fun e w'=>e=.returned (.bool true)∧Below w.heap.size w w':=by
 obtain⟨p1,p2,p3,p4⟩:=w2
 obtain⟨q1,q2,q3,q4⟩:=w3
 have ua:UI' (l1.take 50):=fun x hx=>p3 x (dy hx)
 have ub:UI' (l2.take 50):=fun x hx=>q3 x (dy hx)
 have la:(l1.take 50).length≤50:=by rw[cv];omega
 have lb:(l2.take 50).length≤50:=by rw[cv];omega
 have HA:Hid (Rd w w.heap.size A ((l1.take 50).flatMap Q8)):=aw2 p4 (am1 l1 50)
 have HB:Hid (Rd w w.heap.size B ((l2.take 50).flatMap Q8)):=aw2 q4 (am1 l2 50)
 have ea:(l1.take 50).length=min l1.length 50:=by rw[cv];omega
 have eb:(l2.take 50).length=min l2.length 50:=by rw[cv];omega
 obtain⟨C1,C2,C3,C4,C5,ac8,ac7,ac4,C9,y1,y2,y3,y4,y5,y6,y7,y8,y9,hu⟩:=ax7 (ka:=ka) (kb:=kb) (kind:=kind) (h:=h) la lb ua ub
 have g0:nR (lE ka kb ac2):=nR.new (by decide) (fun x hx=>by simp[ac2]at hx;rcases hx with rfl|rfl|rfl<;>decide) (fun x hx=>by simp[ac2]at hx;rcases hx with rfl|rfl|rfl<;>exact⟨U.nat (n:=_) (by decide),U.nat (n:=9) (by decide)⟩)
 have HG0:Hid (nR (lE ka kb ac2)∧(lE ka kb ac2).length≤100):=⟨g0,by simp[lE,ac2]⟩
 have ap6:=aq2 (kind:=kind) la ua
 have fb:=aq2 (kind:=kind) lb ub
 have f12:=ap9 (kind:=kind) (ids:=[1,2]) al7 (by decide) (fun x hx=>by simp at hx;rcases hx with rfl|rfl<;>exact U.nat (n:=_) (by decide))
 have f219:=ap9 (kind:=kind) (ids:=[2,1,9]) al7 (by decide) (fun x hx=>by simp at hx;rcases hx with rfl|rfl|rfl<;>exact U.nat (n:=_) (by decide))
 have DH:=K1 HG0 ap6 hu.d1
 have HG2:=K1 DH ap6 hu.d2
 have O9:=K1 HG2 fb hu.d3
 have HG4:=K1 O9 fb hu.d4
 have HG5:=K1 HG4 (ah7 (by decide)) hu.d5
 have Zv:=K1 HG5 (ah7 (by decide)) hu.d6
 have HG7:=K1 Zv f12 hu.ah2
 have HG8:=K1 HG7 f219 hu.af4
 have HG9:=K1 HG8 (aq0 al7) hu.d9
 have HU:=ai hu
 have HFA:=ai ap6
 have HFB:=ai fb
 have HF1:=ai f12
 have HF2:=ai f219
 have HUH:=ai al7
 have HT:=ai hT
 have HE:=ai hE
 clear ua ub p3 p4 q3 q4 g0 ap6 fb f12 f219 al7 hT hE hu
 have HMA:Hid (ReqOk w w.heap.size ⟨inR kind (l1.take 50),A,ca,none,0⟩):=⟨HA.out,Rd.none_,by show(l1.take 50).length≤ca;omega,ay 0⟩
 have HMB:Hid (ReqOk w w.heap.size ⟨inR kind (l2.take 50),B,cb,none,0⟩):=⟨HB.out,Rd.none_,by show(l2.take 50).length≤cb;omega,ay 0⟩
 generalize l1.take 50=l1t at*
 generalize l2.take 50=l2t at*
 obtain⟨a1,ha1⟩:∃n,l1t.length=n:=⟨_,rfl⟩
 obtain⟨b1,hb1⟩:∃n,l2t.length=n:=⟨_,rfl⟩
 rw[ha1]at ea
 rw[hb1]at eb
 have m1:min (l1.length:Int) 50=(a1:Int):=by omega
 have m2:min (l2.length:Int) 50=(b1:Int):=by omega
 unfold maxLen at p2 q2
 have k1:(0:Int)≤(a1:Int):=by omega
 have k2:(a1:Int)≤(ca:Int):=by omega
 have k3:(0:Int)≤(b1:Int):=by omega
 have k4:(b1:Int)≤(cb:Int):=by omega
 have HLA:=ai ha1
 have Wu:=ai hb1
 clear ea eb la lb ha1 hb1 HA HB
 have S:=ai ((ke.nil (ka:=ka) (kb:=kb) (kj.nil (InG []) w)).alloc w.heap.size 24 [.int .u64 ka,.int .u64 kb])
 go_enter Tryz.func5,Tryz.ntmps5
 go_wp2_with fail
 refine(CC _ (by simp;omega) (HT.out.later S.out.below) (HE.out.later S.out.below)).mono ?_
 rintro e W1⟨rfl,hb1⟩
 replace S:=ai (S.out.call hb1)
 clear hb1
 have x:=S.out.H.facts
 simp only[Facts,kz,au,ao,and_true]at x
 go_wp2_with fail
 have hba:=jP (jQ W1) (.cells #[.int .u64 1,.int .i64 1000000,.int .u64 9,.int .u64 2,.int .i64 1000000,.int .u64 9,.int .u64 3,.int .i64 1000000,.int .u64 9] 63)
 have wZ:Hid (Rd (W1.alloc (.cells #[.int .u64 1,.int .i64 1000000,.int .u64 9,.int .u64 2,.int .i64 1000000,.int .u64 9,.int .u64 3,.int .i64 1000000,.int .u64 9] 63)) (W1.alloc (.cells #[.int .u64 1,.int .i64 1000000,.int .u64 9,.int .u64 2,.int .i64 1000000,.int .u64 9,.int .u64 3,.int .i64 1000000,.int .u64 9] 63)).heap.size (some ⟨W1.heap.size,0,none⟩) (ac2.flatMap OA)):=tY (jR.new W1 _ _)
 refine(Ds ka kb _ ac2 3 (by decide) (by decide) (by decide) (fun x hx=>by simp[ac2]at hx;rcases hx with rfl|rfl|rfl<;>decide) (fun x hx=>by simp[ac2]at hx;rcases hx with rfl|rfl|rfl<;>exact U.nat (n:=_) (by decide)) (W1.alloc (.cells #[.int .u64 1,.int .i64 1000000,.int .u64 9,.int .u64 2,.int .i64 1000000,.int .u64 9,.int .u64 3,.int .i64 1000000,.int .u64 9] 63)) (by have:=S.out.H.size;have:=hba.size;omega) wZ.out).mono ?_
 rintro e W2⟨hb2,cb0,G,rfl,sZ,hG⟩
 replace S:=ai ((S.out.call hba).aF6 hb2 sZ hG)
 clear hba wZ hb2 sZ hG x
 replace S:=ai (S.out.alloc W2.heap.size 35 [.int .i64 1,.int .u64 0,.string ⟨#[97,61,120]⟩,.string ⟨#[]⟩,.int .i64 kind,.slice A a1 ca,.int .u64 0,.int .u64 0,.int .u64 0,.slice none 0 0])
 go_wp2_with fail
 refine ap8 S.out (fun V hS=>?_)
 clear S
 try clear x
 refine D6 (fun a a' W=>∃g N i E j,a'=(((((a.put (some 50) (.pointer (some ⟨cb0,0,none⟩))).put (some 51) (.agg #[.int .u64 1,.int .i64 3,.int .u64 0])).put (some 52) (.agg #[.int .i64 1,.int .u64 0,.string ⟨#[97,61,120]⟩,.string ⟨#[]⟩,.int .i64 kind,.slice A a1 ca,.int .u64 0,.int .u64 0,.int .u64 0,.slice none 0 0])).put (some 53) (.agg #[.int .i64 y1.e,.int .u64 y1.n,.slice N y1.notices.length i,.slice E y1.entries.length j])).put (some 16) (.pointer (some ⟨g,0,none⟩)))∧ke w ka kb [(cb0,G)] W [C1] ((g,55,[.int .i64 y1.e,.int .u64 y1.n,.slice N y1.notices.length i,.slice E y1.entries.length j])::[(W2.heap.size,35,[.int .i64 1,.int .u64 0,.string ⟨#[97,61,120]⟩,.string ⟨#[]⟩,.int .i64 kind,.slice A a1 ca,.int .u64 0,.int .u64 0,.int .u64 0,.slice none 0 0]),(w.heap.size,24,[.int .u64 ka,.int .u64 kb])])) ?r1 ?_
 rotate_left
 rintro a' XW1⟨g1,al9,i1,E1,j1,rfl,hs⟩
 have S:=ai hs
 clear hs hS
 have x:=S.out.H.facts
 simp only[Facts,kz,au,ao,and_true]at x
 simp only[gL,bd,ak,am]
 go_wp2_with fail
 refine ap8 S.out (fun V hS=>?_)
 clear S
 try clear x
 refine D6 (fun a a' W=>∃g N i E j,a'=(((((a.put (some 54) (.pointer (some ⟨cb0,0,none⟩))).put (some 55) (.agg #[.int .u64 3,.int .i64 3,.int .u64 0])).put (some 56) (.agg #[.int .i64 1,.int .u64 0,.string ⟨#[97,61,120]⟩,.string ⟨#[]⟩,.int .i64 kind,.slice A a1 ca,.int .u64 0,.int .u64 0,.int .u64 0,.slice none 0 0])).put (some 57) (.agg #[.int .i64 y2.e,.int .u64 y2.n,.slice N y2.notices.length i,.slice E y2.entries.length j])).put (some 17) (.pointer (some ⟨g,0,none⟩)))∧ke w ka kb [(cb0,G)] W [C2] ((g,55,[.int .i64 y2.e,.int .u64 y2.n,.slice N y2.notices.length i,.slice E y2.entries.length j])::[(g1,55,[.int .i64 y1.e,.int .u64 y1.n,.slice al9 y1.notices.length i1,.slice E1 y1.entries.length j1]),(W2.heap.size,35,[.int .i64 1,.int .u64 0,.string ⟨#[97,61,120]⟩,.string ⟨#[]⟩,.int .i64 kind,.slice A a1 ca,.int .u64 0,.int .u64 0,.int .u64 0,.slice none 0 0]),(w.heap.size,24,[.int .u64 ka,.int .u64 kb])])) ?r2 ?_
 rotate_left
 rintro a' XW2⟨g2,ap7,i2,E2,j2,rfl,hs⟩
 have S:=ai hs
 clear hs hS
 have x:=S.out.H.facts
 simp only[Facts,kz,au,ao,and_true]at x
 simp only[gL,bd,ak,am]
 go_wp2_with fail
 replace S:=ai (S.out.put 2 5 (.slice B b1 cb))
 simp only[ak,am]at S
 refine ap8 S.out (fun V hS=>?_)
 clear S
 try clear x
 refine D6 (fun a a' W=>∃g N i E j,a'=(((((a.put (some 60) (.pointer (some ⟨cb0,0,none⟩))).put (some 61) (.agg #[.int .u64 2,.int .i64 3,.int .u64 0])).put (some 62) (.agg #[.int .i64 1,.int .u64 0,.string ⟨#[97,61,120]⟩,.string ⟨#[]⟩,.int .i64 kind,.slice B b1 cb,.int .u64 0,.int .u64 0,.int .u64 0,.slice none 0 0])).put (some 63) (.agg #[.int .i64 y3.e,.int .u64 y3.n,.slice N y3.notices.length i,.slice E y3.entries.length j])).put (some 18) (.pointer (some ⟨g,0,none⟩)))∧ke w ka kb [(cb0,G)] W [C3] ((g,55,[.int .i64 y3.e,.int .u64 y3.n,.slice N y3.notices.length i,.slice E y3.entries.length j])::[(g2,55,[.int .i64 y2.e,.int .u64 y2.n,.slice ap7 y2.notices.length i2,.slice E2 y2.entries.length j2]),(g1,55,[.int .i64 y1.e,.int .u64 y1.n,.slice al9 y1.notices.length i1,.slice E1 y1.entries.length j1]),(W2.heap.size,35,[.int .i64 1,.int .u64 0,.string ⟨#[97,61,120]⟩,.string ⟨#[]⟩,.int .i64 kind,.slice B b1 cb,.int .u64 0,.int .u64 0,.int .u64 0,.slice none 0 0]),(w.heap.size,24,[.int .u64 ka,.int .u64 kb])])) ?r3 ?_
 rotate_left
 rintro a' XW3⟨g3,av4,i3,E3,j3,rfl,hs⟩
 have S:=ai hs
 clear hs hS
 have x:=S.out.H.facts
 simp only[Facts,kz,au,ao,and_true]at x
 simp only[gL,bd,ak,am]
 go_wp2_with fail
 refine ap8 S.out (fun V hS=>?_)
 clear S
 try clear x
 refine D6 (fun a a' W=>∃g N i E j,a'=(((((a.put (some 64) (.pointer (some ⟨cb0,0,none⟩))).put (some 65) (.agg #[.int .u64 3,.int .i64 3,.int .u64 0])).put (some 66) (.agg #[.int .i64 1,.int .u64 0,.string ⟨#[97,61,120]⟩,.string ⟨#[]⟩,.int .i64 kind,.slice B b1 cb,.int .u64 0,.int .u64 0,.int .u64 0,.slice none 0 0])).put (some 67) (.agg #[.int .i64 y4.e,.int .u64 y4.n,.slice N y4.notices.length i,.slice E y4.entries.length j])).put (some 19) (.pointer (some ⟨g,0,none⟩)))∧ke w ka kb [(cb0,G)] W [C4] ((g,55,[.int .i64 y4.e,.int .u64 y4.n,.slice N y4.notices.length i,.slice E y4.entries.length j])::[(g3,55,[.int .i64 y3.e,.int .u64 y3.n,.slice av4 y3.notices.length i3,.slice E3 y3.entries.length j3]),(g2,55,[.int .i64 y2.e,.int .u64 y2.n,.slice ap7 y2.notices.length i2,.slice E2 y2.entries.length j2]),(g1,55,[.int .i64 y1.e,.int .u64 y1.n,.slice al9 y1.notices.length i1,.slice E1 y1.entries.length j1]),(W2.heap.size,35,[.int .i64 1,.int .u64 0,.string ⟨#[97,61,120]⟩,.string ⟨#[]⟩,.int .i64 kind,.slice B b1 cb,.int .u64 0,.int .u64 0,.int .u64 0,.slice none 0 0]),(w.heap.size,24,[.int .u64 ka,.int .u64 kb])])) ?aC7 ?_
 rotate_left
 rintro a' XW4⟨g4,aA5,i4,aB0,j4,rfl,hs⟩
 have S:=ai hs
 clear hs hS
 have x:=S.out.H.facts
 simp only[Facts,kz,au,ao,and_true]at x
 simp only[gL,bd,ak,am]
 go_wp2_with fail
 refine ac9 S.out (fun V hS=>?_)
 clear S
 try clear x
 refine(nK 1 V).mono ?_
 rintro e V5⟨rfl,nu⟩
 have S:=ai (hS.out.call nu)
 clear hS nu
 go_wp2_with fail
 refine(ak8 (x:=yW 1) (m:=⟨grR ⟨#[]⟩,none,0,none,0⟩) (k:=0) S.out rfl rfl HG4.out.1 HG4.out.2 (ah7 (by decide)) hw HT.out HE.out (nG.nil _ _ _ rfl rfl) HU.out.d5).mono ?_
 rintro e W5⟨hs,-,v,rfl,⟨au7,i5,av8,j5,rfl,-,-⟩⟩
 simp only[ak]at hs
 replace S:=ai (hs.alloc W5.heap.size 55 [.int .i64 y5.e,.int .u64 y5.n,.slice au7 y5.notices.length i5,.slice av8 y5.entries.length j5])
 clear hs
 go_wp2_with fail
 refine ac9 S.out (fun V hS=>?_)
 clear S
 try clear x
 refine(nK 2 V).mono ?_
 rintro e V6⟨rfl,nu⟩
 have S:=ai (hS.out.call nu)
 clear hS nu
 go_wp2_with fail
 refine(ak8 (x:=yW 2) (m:=⟨grR MD,none,0,none,0⟩) (k:=0) S.out rfl rfl HG5.out.1 HG5.out.2 (ah7 (by decide)) hw HT.out HE.out (nG.nil _ _ _ rfl rfl) HU.out.d6).mono ?_
 rintro e W6⟨hs,-,v,rfl,⟨N6,i6,av7,j6,rfl,-,-⟩⟩
 simp only[ak]at hs
 replace S:=ai (hs.alloc W6.heap.size 55 [.int .i64 y6.e,.int .u64 y6.n,.slice N6 y6.notices.length i6,.slice av7 y6.entries.length j6])
 clear hs
 go_wp2_with fail
 refine ac9 S.out (fun V hS=>?_)
 clear S
 try clear x
 refine(nK 3 V).mono ?_
 rintro e V7⟨rfl,nu⟩
 have S:=ai (hS.out.call nu)
 clear hS nu
 have HM:Hid (nG (Bar [(cb0,G)] [(W6.heap.size,55,[.int .i64 y6.e,.int .u64 y6.n,.slice N6 y6.notices.length i6,.slice av7 y6.entries.length j6]),(W5.heap.size,55,[.int .i64 y5.e,.int .u64 y5.n,.slice au7 y5.notices.length i5,.slice av8 y5.entries.length j5]),(g4,55,[.int .i64 y4.e,.int .u64 y4.n,.slice aA5 y4.notices.length i4,.slice aB0 y4.entries.length j4]),(g3,55,[.int .i64 y3.e,.int .u64 y3.n,.slice av4 y3.notices.length i3,.slice E3 y3.entries.length j3]),(g2,55,[.int .i64 y2.e,.int .u64 y2.n,.slice ap7 y2.notices.length i2,.slice E2 y2.entries.length j2]),(g1,55,[.int .i64 y1.e,.int .u64 y1.n,.slice al9 y1.notices.length i1,.slice E1 y1.entries.length j1]),(W2.heap.size,35,[.int .i64 1,.int .u64 0,.string ⟨#[97,61,120]⟩,.string ⟨#[]⟩,.int .i64 kind,.slice B b1 cb,.int .u64 0,.int .u64 0,.int .u64 0,.slice none 0 0]),(w.heap.size,24,[.int .u64 ka,.int .u64 kb])]) (V7.alloc (.cells #[.int .u64 1,.int .u64 2] 22)) ⟨ruR kind h [1,2],none,0,some ⟨V7.heap.size,0,none⟩,2⟩):=⟨⟨Rd.none_,fun _ _ e=>by cases e⟩,⟨tY (jR.new V7 _ _),fun _ ad e hx=>by cases e;have:=(S.out.bar hx).2;simp only at this;omega⟩,be _,ay 2⟩
 replace S:=ai (S.out.al (.cells #[.int .u64 1,.int .u64 2] 22))
 go_wp2_with fail
 refine(ak8 (x:=yW 3) (m:=⟨ruR kind h [1,2],none,0,some ⟨V7.heap.size,0,none⟩,2⟩) (k:=0) S.out rfl rfl Zv.out.1 Zv.out.2 HF1.out hw HT.out HE.out HM.out HU.out.ah2).mono ?_
 rintro e W7⟨hs,-,v,rfl,⟨aA2,i7,aA6,j7,rfl,-,-⟩⟩
 simp only[ak]at hs
 replace S:=ai (hs.alloc W7.heap.size 55 [.int .i64 y7.e,.int .u64 y7.n,.slice aA2 y7.notices.length i7,.slice aA6 y7.entries.length j7])
 clear hs HM
 go_wp2_with fail
 refine ac9 S.out (fun V hS=>?_)
 clear S
 try clear x
 refine(nK 3 V).mono ?_
 rintro e V8⟨rfl,nu⟩
 have S:=ai (hS.out.call nu)
 clear hS nu
 have HM:Hid (nG (Bar [(cb0,G)] [(W7.heap.size,55,[.int .i64 y7.e,.int .u64 y7.n,.slice aA2 y7.notices.length i7,.slice aA6 y7.entries.length j7]),(W6.heap.size,55,[.int .i64 y6.e,.int .u64 y6.n,.slice N6 y6.notices.length i6,.slice av7 y6.entries.length j6]),(W5.heap.size,55,[.int .i64 y5.e,.int .u64 y5.n,.slice au7 y5.notices.length i5,.slice av8 y5.entries.length j5]),(g4,55,[.int .i64 y4.e,.int .u64 y4.n,.slice aA5 y4.notices.length i4,.slice aB0 y4.entries.length j4]),(g3,55,[.int .i64 y3.e,.int .u64 y3.n,.slice av4 y3.notices.length i3,.slice E3 y3.entries.length j3]),(g2,55,[.int .i64 y2.e,.int .u64 y2.n,.slice ap7 y2.notices.length i2,.slice E2 y2.entries.length j2]),(g1,55,[.int .i64 y1.e,.int .u64 y1.n,.slice al9 y1.notices.length i1,.slice E1 y1.entries.length j1]),(W2.heap.size,35,[.int .i64 1,.int .u64 0,.string ⟨#[97,61,120]⟩,.string ⟨#[]⟩,.int .i64 kind,.slice B b1 cb,.int .u64 0,.int .u64 0,.int .u64 0,.slice none 0 0]),(w.heap.size,24,[.int .u64 ka,.int .u64 kb])]) (V8.alloc (.cells #[.int .u64 2,.int .u64 1,.int .u64 9] 22)) ⟨ruR kind h [2,1,9],none,0,some ⟨V8.heap.size,0,none⟩,3⟩):=⟨⟨Rd.none_,fun _ _ e=>by cases e⟩,⟨tY (jR.new V8 _ _),fun _ ad e hx=>by cases e;have:=(S.out.bar hx).2;simp only at this;omega⟩,be _,ay 3⟩
 replace S:=ai (S.out.al (.cells #[.int .u64 2,.int .u64 1,.int .u64 9] 22))
 go_wp2_with fail
 refine(ak8 (x:=yW 3) (m:=⟨ruR kind h [2,1,9],none,0,some ⟨V8.heap.size,0,none⟩,3⟩) (k:=0) S.out rfl rfl HG7.out.1 HG7.out.2 HF2.out hw HT.out HE.out HM.out HU.out.af4).mono ?_
 rintro e aD3⟨hs,-,v,rfl,⟨aD5,i8,aD6,j8,rfl,-,-⟩⟩
 simp only[ak]at hs
 replace S:=ai (hs.alloc aD3.heap.size 55 [.int .i64 y8.e,.int .u64 y8.n,.slice aD5 y8.notices.length i8,.slice aD6 y8.entries.length j8])
 clear hs HM
 go_wp2_with fail
 refine ac9 S.out (fun V hS=>?_)
 clear S
 try clear x
 refine(nK 3 V).mono ?_
 rintro e V9⟨rfl,nu⟩
 have S:=ai (hS.out.call nu)
 clear hS nu
 go_wp2_with fail
 refine(ak8 (x:=yW 3) (m:=⟨quR kind h,none,0,none,0⟩) (k:=0) S.out rfl rfl HG8.out.1 HG8.out.2 (aq0 HUH.out) hw HT.out HE.out (nG.nil _ _ _ rfl rfl) HU.out.d9).mono ?_
 rintro e W9⟨hs,-,v,rfl,⟨aD4,i9,E9,j9,rfl,-,-⟩⟩
 simp only[ak]at hs
 replace S:=ai (hs.alloc W9.heap.size 55 [.int .i64 y9.e,.int .u64 y9.n,.slice aD4 y9.notices.length i9,.slice E9 y9.entries.length j9])
 have x:=hs.H.facts
 simp only[Facts,kz,au,ao,and_true]at x
 clear hs
 obtain⟨e1,e2,e3,e4,e5,e6,n1,n2⟩:y1.e=y2.e∧y3.e=y4.e∧y5.e=0∧y6.e=0∧y7.e=y9.e∧y8.e=y9.e∧y7.n=y9.n∧y8.n=y9.n:=⟨HU.out.e1,HU.out.e2,HU.out.e3,HU.out.e4,HU.out.e5,HU.out.e6,HU.out.n1,HU.out.n2⟩
 rw[e1,e2,e3,e4,e5,e6,n1,n2]at S x
 simp only[e1,e2,e3,e4,e5,e6,n1,n2]
 clear e1 e2 e3 e4 e5 e6 n1 n2
 have d1:∀z:Int,(z==z)=true:=fun z=>by simp
 go_wp2_with fail
 go_ret
 exact⟨rfl,S.out.below⟩
 case' r1=>
  obtain rfl:=HLA.out;have HG:=HG0;have HF:=HFA;have HM:=HMA;have HD:=ai HU.out.d1;obtain⟨Z,hq⟩:∃z,z=A:=⟨_,rfl⟩;subst hq;obtain⟨zc,hq⟩:∃z,z=ca:=⟨_,rfl⟩;subst hq;obtain⟨ak3,hq⟩:∃z,z=l1t:=⟨_,rfl⟩;subst hq;obtain⟨y,hq⟩:∃z,z=y1:=⟨_,rfl⟩;subst hq;obtain⟨C',hq⟩:∃z,z=C1:=⟨_,rfl⟩;subst hq
 case' r2=>
  obtain rfl:=HLA.out;have HG:=DH;have HF:=HFA;have HM:=HMA;have HD:=ai HU.out.d2;obtain⟨Z,hq⟩:∃z,z=A:=⟨_,rfl⟩;subst hq;obtain⟨zc,hq⟩:∃z,z=ca:=⟨_,rfl⟩;subst hq;obtain⟨ak3,hq⟩:∃z,z=l1t:=⟨_,rfl⟩;subst hq;obtain⟨y,hq⟩:∃z,z=y2:=⟨_,rfl⟩;subst hq;obtain⟨C',hq⟩:∃z,z=C2:=⟨_,rfl⟩;subst hq
 case' r3=>
  obtain rfl:=Wu.out;have HG:=HG2;have HF:=HFB;have HM:=HMB;have HD:=ai HU.out.d3;obtain⟨Z,hq⟩:∃z,z=B:=⟨_,rfl⟩;subst hq;obtain⟨zc,hq⟩:∃z,z=cb:=⟨_,rfl⟩;subst hq;obtain⟨ak3,hq⟩:∃z,z=l2t:=⟨_,rfl⟩;subst hq;obtain⟨y,hq⟩:∃z,z=y3:=⟨_,rfl⟩;subst hq;obtain⟨C',hq⟩:∃z,z=C3:=⟨_,rfl⟩;subst hq
 case' aC7=>
  obtain rfl:=Wu.out;have HG:=O9;have HF:=HFB;have HM:=HMB;have HD:=ai HU.out.d4;obtain⟨Z,hq⟩:∃z,z=B:=⟨_,rfl⟩;subst hq;obtain⟨zc,hq⟩:∃z,z=cb:=⟨_,rfl⟩;subst hq;obtain⟨ak3,hq⟩:∃z,z=l2t:=⟨_,rfl⟩;subst hq;obtain⟨y,hq⟩:∃z,z=y4:=⟨_,rfl⟩;subst hq;obtain⟨C',hq⟩:∃z,z=C4:=⟨_,rfl⟩;subst hq
 all_goals
  refine bi1 (S:=(fun w9=>kz w9 W2.heap.size 0 [.int .i64 1,.int .u64 0,.string ⟨#[97,61,120]⟩,.string ⟨#[]⟩,.int .i64 kind,.slice Z ak3.length zc,.int .u64 0,.int .u64 0,.int .u64 0,.slice none 0 0])) (by kernel_rfl) (by first|exact hS.out.H.at_ 0|exact hS.out.H.at_ 1|exact hS.out.H.at_ 2|exact hS.out.H.at_ 3|exact hS.out.H.at_ 4) (fun hHeld=>?_);refine bk5 (i:=0) (v:=.pointer (some ⟨cb0,0,none⟩)) rfl (by kernel_rfl) (by kernel_rfl) (by kernel_rfl) (fun _ _ _ h=>h) (ge ⟨by rfl,?_⟩) hHeld ?_
  ·(intro w hSw;simp only[kz,au,ao,and_true]at hSw;obtain⟨s0,s1,s2,s3,s4,s5,s6,aC5,s8,aC4⟩:=hSw;go_simp)
  try simp only[gL,eK,ej,dQ,bd,ak,am]
  refine bk5 (i:=2) (v:=.agg #[.int .i64 1,.int .u64 0,.string ⟨#[97,61,120]⟩,.string ⟨#[]⟩,.int .i64 kind,.slice Z ak3.length zc,.int .u64 0,.int .u64 0,.int .u64 0,.slice none 0 0]) rfl (by kernel_rfl) (by kernel_rfl) (by kernel_rfl) (fun _ _ _ h=>h) (ge ⟨by rfl,?_⟩) hHeld ?_
  ·(intro w hSw;simp only[kz,au,ao,and_true]at hSw;obtain⟨s0,s1,s2,s3,s4,s5,s6,aC5,s8,aC4⟩:=hSw;go_simp)
  try simp only[gL,eK,ej,dQ,bd,ak,am]
  have S:=ai hS.out.drew;clear hS;generalize V.drew=V0 at*
  repeat' first
   |((with_reducible change wpAnyH _ _ _ _ _ _ _ _ _);first
    |refine rq2 1 4 (fun K hK=>?_) (fun K hK=>?_)
    |refine rq2 3 4 (fun K hK=>?_) (fun K hK=>?_)
    |refine rq1 1 (fun K hK=>?_)
    |refine rq1 3 (fun K hK=>?_)
    |refine rq1 4 (fun K hK=>?_)
    |refine rq1 5 (fun K hK=>?_)
    |(refine wpAnyH_done (by kernel_rfl) ?_ _;exact AH ⟨_,N,i,E,j,by simp only[gL,bd,ak,am],S.out⟩))
   |(go_simp;(with_reducible change jE _ _ _ _ _);first
    |(refine(nK _ _).mono ?_;rintro e V1⟨rfl,nu⟩;replace S:=ai (S.out.call nu);clear nu;(first|refine hK.out _ _ (S.out.H.at_ 0) (fun hHeld=>?_)|refine hK.out _ _ (S.out.H.at_ 1) (fun hHeld=>?_)|refine hK.out _ _ (S.out.H.at_ 2) (fun hHeld=>?_)|refine hK.out _ _ (S.out.H.at_ 3) (fun hHeld=>?_)|refine hK.out _ _ (S.out.H.at_ 4) (fun hHeld=>?_));clear hK K;(try simp only[gL,eK,ej,dQ,bd,ak,am]))
    |(refine(ak8 (x:=yW _) (m:=⟨inR kind ak3,Z,zc,none,0⟩) (k:=0) S.out rfl rfl HG.out.1 HG.out.2 HF.out hw HT.out HE.out (S.out.req HM.out) HD.out).mono ?_;rintro e V2⟨hs,-,v,rfl,⟨N,i,E,j,rfl,-,-⟩⟩;simp only[ak]at hs;replace S:=ai hs;clear hs;(first|refine hK.out _ _ (S.out.H.at_ 0) (fun hHeld=>?_)|refine hK.out _ _ (S.out.H.at_ 1) (fun hHeld=>?_)|refine hK.out _ _ (S.out.H.at_ 2) (fun hHeld=>?_)|refine hK.out _ _ (S.out.H.at_ 3) (fun hHeld=>?_)|refine hK.out _ _ (S.out.H.at_ 4) (fun hHeld=>?_));clear hK K;(try simp only[gL,eK,ej,dQ,bd,ak,am])))
   |(go_simp;replace S:=ai (S.out.alloc _ 55 [.int .i64 0,.int .u64 0,.slice none 0 0,.slice none 0 0] rfl);(first|refine hK.out _ _ (S.out.H.at_ 0) (fun hHeld=>?_)|refine hK.out _ _ (S.out.H.at_ 1) (fun hHeld=>?_)|refine hK.out _ _ (S.out.H.at_ 2) (fun hHeld=>?_)|refine hK.out _ _ (S.out.H.at_ 3) (fun hHeld=>?_)|refine hK.out _ _ (S.out.H.at_ 4) (fun hHeld=>?_));clear hK K;(try simp only[gL,eK,ej,dQ,bd,ak,am]);clear hHeld;refine aB4 S.out (fun V3 hS=>?_);clear S;have S:=hS;clear hS)
   |(have x:=S.out.H.facts;simp only[Facts,kz,au,ao,and_true]at x;go_simp;clear x;replace S:=ai (S.out.all 0 [.int .i64 y.e,.int .u64 y.n,.slice N y.notices.length i,.slice E y.entries.length j]);(first|refine hK.out _ _ (S.out.H.at_ 0) (fun hHeld=>?_)|refine hK.out _ _ (S.out.H.at_ 1) (fun hHeld=>?_)|refine hK.out _ _ (S.out.H.at_ 2) (fun hHeld=>?_)|refine hK.out _ _ (S.out.H.at_ 3) (fun hHeld=>?_)|refine hK.out _ _ (S.out.H.at_ 4) (fun hHeld=>?_));clear hK K;(try simp only[gL,eK,ej,dQ,bd,ak,am]))
section
open Go.RowKit Go.Joins Go.ChangeShapes Go.WideShapes Go.Deep
section
variable{H:Type}{enc:jH×jD→H}{W:jC}
def Opens(enc:jH×jD→H)(W:jC)(t:jH)(cs:List jD):Prop:=∃fuel x,iQ enc Tryz.prog W 0 (fun _=>true) true fuel t cs=some x
variable{fs:Array Field}{cs:List jD}
theorem Opens.struct{t:jH}(ht:Tryz.prog.underlying t=some (.struct fs))(h:Opens enc W t cs):
 cs.length=Tryz.prog.cellsOf t∧∀(i:Nat)(f:Field),fs[i]? =some f→Opens enc W f.type ((cs.drop f.offset).take (Tryz.prog.cellsOf f.type)):=by
 obtain⟨fuel,x,hx⟩:=h
 obtain⟨xs,n,_,_,hlen,hxl,hf⟩:=DataW.trod_struct ht hx
 refine⟨hlen,fun i f hi=>?_⟩
 have h1:=hf i f hi
 have hil:i<xs.length:=by rw[hxl];exact(aw.1 hi).1
 rw[an hil]at h1
 exact⟨n,_,h1⟩
theorem Opens.int{t:jH}{k:IntKind}{cs:List jD}(ht:Tryz.prog.underlying t=some (.int k))(h:Opens enc W t cs):∃n,cs=[.int k n]∧(iK k n).wf=true:=by
 obtain⟨fuel,x,hx⟩:=h;obtain⟨n,e,_,hw⟩:=DataW.trod_int ht hx;exact⟨n,e,hw⟩
theorem Opens.string{t:jH}{cs:List jD}(ht:Tryz.prog.underlying t=some .string)(h:Opens enc W t cs):∃s:ByteArray,cs=[.string s]∧s.size≤maxLen:=by
 obtain⟨fuel,x,hx⟩:=h;obtain⟨n,e,_,hw⟩:=DataW.trod_string ht hx;exact⟨n,e,hw⟩
theorem Opens.slice{t e:jH}{cs:List jD}(ht:Tryz.prog.underlying t=some (.slice e))(h:Opens enc W t cs):
 cs=[.slice none 0 0]∨∃(a:jG)(len cap:Nat),cs=[.slice (some a) len cap]∧len≤cap∧cap≤maxLen∧
  ∀i,i<cap→∃cs',W.cells? 0 (a.add (i*Tryz.prog.cellsOf e)) (Tryz.prog.cellsOf e)=some cs'∧Opens enc W e cs':=by
 obtain⟨fuel,x,hx⟩:=h
 rcases open_slice ht hx with⟨h0,_⟩|⟨a,len,cap,m,n,D,Pl,hcs,hb,hl,hm,hmm,_,hi⟩
 ·exact .inl h0
 refine .inr ⟨a,len,cap,hcs,hl,hm,fun i h=>?_⟩
 obtain⟨cs',h1,h2⟩:=hi i (by rw[hmm];simpa using h)
 exact⟨cs',h1,n,_,h2⟩
theorem v8{α:Type}{cells:α→List jD}{sz:Nat}(hsz:∀y,(cells y).length=sz):∀ys:List α,(ys.flatMap cells).length=ys.length*sz
 |[]=>lV
 |y::ys=>by rw[dg,cd,v8 hsz ys,hsz,c_,iY];omega
theorem vZ{α:Type}(cells:α→List jD)(Q:α→Prop){sz len:Nat}{x:jG}(hsz:∀y,(cells y).length=sz)
 (h:∀i,i<len→∃y,Q y∧W.cells? 0 (x.add (i*sz)) sz=some (cells y)):∀k,k≤len→∃ys:List α,ys.length=k∧(∀y∈ys,Q y)∧∀j u,(ys.flatMap cells)[j]? =some u→W.cell? (x.add j)=some u:=by
 intro k
 induction k with
 |zero=>exact fun _=>⟨[],rfl,(fun _ h=>qch),fun j u h=>WY⟩
 |succ k ih=>
  intro hk;obtain⟨ys,hl,hQ,hc⟩:=ih jS;obtain⟨y,hy,hcy⟩:=h k jS;obtain⟨_,hcl,hat⟩:=World.cells?_some hcy;refine⟨ys++[y],by simp[hl],fun z hz=>?_,fun j u hj=>?_⟩
  ·rcases ed.1 hz with h|h
   ·exact hQ z h
   simp at h;subst h;exact hy
  rw[eZ,List.flatMap_singleton]at hj;have hfl:=v8 hsz ys;rw[hl]at hfl;by_cases hjl:j<k*sz
  ·rw[eL jS]at hj;exact hc j u hj
  rw[d7 jS,hfl]at hj;have hj2:j-k*sz<sz:=by have:=(ci.1 hj).1;rw[hsz]at this;exact this
  have h1:=hat (j-k*sz) hj2;have e:j=k*sz+(j-k*sz):=jS;rw[e,←Go.Deep.add_add,h1];exact hj
theorem D2{x:jG}(h:∀j u,xs[j]? =some u→W.cell? (x.add j)=some u):Rd W W (some x) xs:=fun hne=>by
 have h0:0<xs.length:=by
  rcases fM xs.length with h0|h0
  ·exact absurd (da h0) hne
  exact h0
 have hc0:=h 0 _ (an h0);obtain⟨b,off,sp⟩:=x;have hsp:sp=none:=by
  cases sp with
  |none=>rfl
  |some k=>
   simp only[iU,if_true,fJ]at hc0;split at hc0<;>simp at hc0
 subst hsp;have hblk:b<W.heap.size:=by
  simp only[iU,if_true,fJ]at hc0;rcases fB b W with hlt|hge
  ·exact hlt
  rw[fH hge]at hc0;simp at hc0
 refine⟨b,off,rfl,hblk,fun j u hj=>?_⟩;have:=h j u hj;rwa[addr_add]at this
theorem Au:∀ys:List Int,ys.map (br .u64)=ys.flatMap (fun n:Int=>[br .u64 n])
 |[]=>rfl
 |y::ys=>by rw[df,dg,Au ys];try rfl
theorem wf_u64(h:(iK .u64 n).wf=true):U n:=bounds_u64 h
end
end
open Go.RowKit Go.Joins Go.ChangeShapes Go.WideShapes Go.Deep
section
variable{H:Type}{enc:jH×jD→H}{W:jC}
variable{v:jD}
theorem yF(h:Opens enc W 32 [v]):∃(a:Option jG)(l:List Item)(cap:Nat),v=.slice a l.length cap∧l.length≤cap∧cap≤maxLen∧(∀x∈l,U x.h∧U x.n)∧Rd W W a (l.flatMap Q8):=by
 rcases h.slice Tryz.underlying32 with h0|⟨a,len,cap,hcs,hl,hm,hi⟩
 ·simp only[List.cons.injEq,and_true]at h0;exact⟨none,[],0,h0,ay _,B8,(fun _ h=>qch),Rd.none_⟩
 simp only[List.cons.injEq,and_true]at hcs;have hC:Tryz.prog.cellsOf 39=2:=oo;obtain⟨ys,hyl,hQ,hr⟩:=vZ (W:=W) Q8 (fun x=>U x.h∧U x.n) (sz:=2) (len:=len) (x:=a) (fun _=>rfl) (fun i h=>by
  obtain⟨cs',h1,h2⟩:=hi i jS;obtain⟨hlen,hf⟩:=h2.struct Tryz.underlying39;rw[hC]at hlen h1;match cs',hlen with
  |[c0,c1],_=>
   obtain⟨n0,e0,w0⟩:=(hf 0 _ rfl).int (k:=.u64) oo;obtain⟨n1,e1,w1⟩:=(hf 1 _ rfl).int (k:=.u64) oo;have e0':[c0]=[br .u64 n0]:=e0;have e1':[c1]=[br .u64 n1]:=e1;simp only[List.cons.injEq,and_true]at e0' e1';subst e0' e1';exact⟨⟨n0,n1⟩,⟨wf_u64 w0,wf_u64 w1⟩,h1⟩) len aa
 exact⟨some a,ys,cap,by rw[hcs,hyl],jS,hm,hQ,D2 hr⟩
end
open Go.RowKit Go.Joins Go.ChangeShapes Go.WideShapes Go.Deep
set_option maxRecDepth 100000
theorem size4{W:jC}(h:Tb W):4≤W.heap.size:=by
 have h1:=b8 W _ (h.2 0 B8).1;have h2:3<W.heap.size:=h1;omega
section
variable{H:Type}{enc:jH×jD→H}{W:jC}{r:Reach}{b0:Nat}
variable{fs:Array Field}{v:jD}
theorem CU{t:jH}(hs:Tryz.prog.underlying t=some (.struct fs))(hv:Value.okWide Tryz.prog W r b0 t v)(h:∃fuel x,iQ enc Tryz.prog W 0 (fun _=>true) true fuel t v.cells.toList=some x):
 ∃cs:List jD,v=.agg cs.toArray∧cs.length=Tryz.prog.cellsOf t∧Opens enc W t cs:=by
 obtain⟨cs,rfl,hsz⟩:=okWide_struct hs hv
 obtain⟨l⟩:=cs
 obtain⟨fuel,x,hx⟩:=h
 exact⟨l,rfl,hsz,fuel,x,by simpa[Value.cells]using hx⟩
theorem key_open{v:jD}(hv:Value.okWide Tryz.prog W r b0 24 v)(h:∃fuel x,iQ enc Tryz.prog W 0 (fun _=>true) true fuel 24 v.cells.toList=some x):∃ka kb,v=(cI ka kb)∧U ka∧U kb:=by
 obtain⟨cs,rfl,hl,ho⟩:=CU Tryz.underlying24 hv h;have hC:Tryz.prog.cellsOf 24=2:=oo;rw[hC]at hl;match cs,hl with
 |[c0,c1],_=>
  obtain⟨_,hf⟩:=ho.struct Tryz.underlying24;have g0:Opens enc W 22 [c0]:=hf 0 _ rfl;have g1:Opens enc W 22 [c1]:=hf 1 _ rfl;obtain⟨n0,e0,w0⟩:=g0.int Tryz.underlying22;obtain⟨n1,e1,w1⟩:=g1.int Tryz.underlying22;simp only[List.cons.injEq,and_true]at e0 e1;subst e0 e1;exact⟨n0,n1,rfl,wf_u64 w0,wf_u64 w1⟩
theorem items_open{a:Option jG}{len cap:Nat}(h:∃fuel x,iQ enc Tryz.prog W 0 (fun _=>true) true fuel 32 (eo a len cap).cells.toList=some x):∃l:List Item,len=l.length∧l.length≤cap∧cap≤maxLen∧(∀x∈l,U x.h∧U x.n)∧Rd W W a (l.flatMap Q8):=by
 obtain⟨fuel,x,hx⟩:=h;obtain⟨a',l,cap',e,h1,h2,h3,h4⟩:=yF (enc:=enc) (W:=W) (v:=.slice a len cap) ⟨fuel,x,by simpa[Value.cells]using hx⟩;injection e with e1 e2 e3;subst e1 e3;exact⟨l,e2,h1,h2,h3,h4⟩
end
open Go.Lib
def Ma:List (String×DataW Unit):=[("unicode/utf8.acceptRanges",Rows.laid_unicode_utf8_acceptRanges),("unicode/utf8.first",Rows.laid_unicode_utf8_first)]
def QZ:List (String×DataW Unit):=[("errors.errorType",Rows.laid_errors_errorType)]
def AD:List (String×DataW Unit):=[("unicode/utf8.acceptRanges",Rows.laid_unicode_utf8_acceptRanges),("errors.errorType",Rows.laid_errors_errorType),("unicode/utf8.first",Rows.laid_unicode_utf8_first)]
theorem RP:Rows.laid_unicode_utf8_first=Lib.firstData:=oo
theorem OP:(Rows.laid_unicode_utf8_acceptRanges:DataW Unit)=Lib.acceptData:=oo
def ar7:Go.Shelf.Ren:=⟨fun n=>n,fun|5=>5|119=>405|138=>407|139=>408|n=>n,fun|3=>2|4=>3|n=>n⟩
theorem WH:U8Types Tryz.prog ar7:=⟨Tryz.underlying5,Tryz.underlying405,Tryz.underlying407,Tryz.underlying408⟩
theorem yE:(AD.filter fun x=>x.2.handleName?.isNone)=Ma:=oo
theorem wv:(AD.filter fun x=>x.2.handleName?.isSome)=QZ:=oo
theorem AC{W:jC}(hL:laidMetH Tryz.prog AD W):laidMet Tryz.prog Ma W∧handlesMet Tryz.prog QZ W:=by
 unfold laidMetH at hL;rw[wv]at hL;have h2:laidMet Tryz.prog (AD.filter fun x=>x.2.handleName?.isNone) W∧handlesMet Tryz.prog QZ W:=hL;rw[yE]at h2;exact h2
theorem tabs_of{W:jC}(hL:laidMetH Tryz.prog AD W):Tb W:=by
 have hL:=(AC hL).1;have h1:=Lib.laidMet.reads hL (.tail _ (.head _));have h2:=Lib.laidMet.reads hL (.head _);rw[RP]at h1;rw[OP]at h2;exact utf8Tabs_of_readsT WH ⟨oo,oo,oo,oo,oo,oo,oo⟩ h1 h2
theorem Tryz.XN:Tryz.prog.globalNamed "errors.errorType"=some 1:=oo
theorem Tryz.WW:(Tryz.prog.cutTypes.find? (·.1== "internal/reflectlite.rtype")).map (·.2)=some 412:=oo
theorem Tryz.oneRow:((bu Tryz.prog.types.size).filter fun t=>Tryz.prog.rowNamed t [101,114,114,111,114])=[171]:=oo
theorem er_of{W:jC}(hL:laidMetH Tryz.prog AD W):Er W:=by
 obtain⟨name,u,ty,e1,e2,e3,e4,e5⟩:=(AC hL).2 _ (eM.2 rfl);have en:name=[101,114,114,111,114]:=(Option.some.inj e1).symm;subst en;obtain rfl:=Option.some.inj (Tryz.WW.symm.trans e2);have hm:ty∈(bu Tryz.prog.types.size).filter fun t=>Tryz.prog.rowNamed t [101,114,114,111,114]:=eN.2 ⟨dh.2 e3,e4⟩;rw[Tryz.oneRow]at hm;obtain rfl:=eM.1 hm;have hh:typeHandle Tryz.prog 171=.pointer (some ⟨4,171,none⟩):=oo;rw[hh]at e5;show W.cell? _=_;simpa using World.var?_cell Tryz.XN e5 0
noncomputable def laidWorld(os:Os):jC:=
 let w0:=World.holding Tryz.prog os ⟨#[], #[],[]⟩
 let put (h:Array Obj) (g:Nat) (cs:Array jD):Array Obj:=h.modify g fun
  |.cells _ t frozen=>.cells cs t frozen
  |o=>o
 let h1:=put w0.heap 2 (Lib.firstTab.map fun z=>br .u8 z).toArray
 let h2:=put h1 3 ((bu 16).flatMap fun i=>[br .u8 (Lib.accLo i),br .u8 (Lib.accHi i)]).toArray
 let h3:=put h2 1 #[rO 26]
 {w0 with heap:=h3}
theorem laid_metL(os:Os)(args:Array jD):laidMet Tryz.prog Ma ((laidWorld os).forCall (fun _ _=>0) ⟨#[],args,[]⟩).memory:=
 (LaidIn.of_run (l:=Ma) [3,2] 8 oo oo oo oo).met
theorem laid_met(os:Os)(args:Array jD):laidMetH Tryz.prog AD ((laidWorld os).forCall (fun _ _=>0) ⟨#[],args,[]⟩).memory:=
 laidMetH_of_parts (by rw[yE];exact laid_metL os args) (by rw[wv];kernel_rfl)
end Go.Proofs.YtfcnedcahoifoaaGreatDoor

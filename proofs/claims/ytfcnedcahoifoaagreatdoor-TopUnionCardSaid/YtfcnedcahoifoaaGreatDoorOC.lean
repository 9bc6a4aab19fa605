import Derived.Deep.RegionWith
import Derived.IntWalk
import Derived.Laws.IdiomStrings
import Derived.Laws.EntriesVeiled
import Derived.Laws.StructEq
import Derived.ScopeJumps
import Derived.WalkMore
import Derived.Laws.BitsAllLaws
import Derived.MapKept
import Derived.Maps.OwnOps
import Derived.Lib.SliceRun
import Derived.Stop.Asserts
import Derived.LaidEql
import Derived.Test.YtfcnedcahoifoaaGreatDoorOA
namespace Go.Proofs.YtfcnedcahoifoaaGreatDoor
open Go.RowKit
open _root_.Array renaming getElem?_eq_none→fH,getElem?_eq_some_iff→aw,getElem?_modify→g_,toList_empty→gP
open _root_.BitVec renaming ofInt→jB
open _root_.Bool renaming and_eq_true→ba,false_or→jv,true_and→eF
open _root_.ByteArray renaming size→iG
open _root_.Go renaming Addr→jG,CallsIn→bj2,Calls→jE,Code→bk9,Ending→bi6,Exit→bk7,FuncId→bl9,KeepsOthers→bj4,MapEntry→bk4,Operand→bl7,OwnFrom→bj3,Program→bi3,SeqStopsK→bl1,TypeId→jH,Value→jD,World→jC,YieldAt→bl4,belowK_b→bj6,bodyPost_ret→jF,callsIn_of_wp_marks→bi7,callsIn_of_wp→bj1,callsIn_wide→jI,info_parts→bi5,method→gz,results_cell_row→bl2,results_none→bj7,rounds_succ→bi9,run_takeDeferred→bi2,run_underlying→bi8,wpIn_rangeFunc_ownF→bj9,wpIn_wide→bi4,wpQuiet_nil→bl0,wp_loop_rounds→bj8
open _root_.Go.Addr renaming add→iU
open _root_.Go.Calls renaming quiet_of_same→jd
open _root_.Go.Code renaming wp_mono→jg
open _root_.Go.Ending renaming returned→ff
open _root_.Go.Exit renaming noGoto_ret→cf
open _root_.Go.Fence renaming wide→cz
open _root_.Go.Instr renaming findNow→eI,lookup→eU,mapUpdate→fG,typeAssert→dd
open _root_.Go.IntWalk renaming i64_in→dv,u64_in→gC,wrap64_in→e_
open _root_.Go.KeepsOthers renaming refl→gq,setCell→b7
open _root_.Go.Lib renaming hid→ai,run_eql_slice_nil→fR
open _root_.Go.Oper renaming semAt_some→db
open _root_.Go.Result renaming andThen_ok→iF,andThen→dw
open _root_.Go.RowKit renaming intOf→av
open _root_.Go.Sem renaming run_bind→eT,run_pure→fX
open _root_.Go.Value renaming int→br
open _root_.Go.World renaming alloc_heap_new→du,block_lt_of_cell?→b8,cell?_alloc_lt→dt,cell?_of_block→co,cell?→fJ,drewN_drewN→jr,frozen?_alloc_old→gA,frozen?→ju,ownsRow_made→gO,putObj_heap_other→dx,putObj_heap_same→gN,setCell→bj,size_alloc→b_
open _root_.Int renaming eq_ofNat_of_zero_le→fm,toNat_natCast→dM
open _root_.List renaming all_append→gT,all_eq_true→dZ,append_toArray→gj,cons_append→dj,eq_nil_of_length_eq_zero→da,ext_getElem→iO,flatMap_cons→dg,getElem?_append_left→eL,getElem?_append_right→d7,getElem?_eq_getElem→an,getElem?_take→gJ,getElem_mem→ar,getLast?_eq_getElem?→fv,length_append→cd,length_cons→c_,length_map→ax,length_nil→dp,length_range→fo,map_map→fY,mem_append→ed,mem_flatMap→ir,mem_iff_getElem→ik,mem_map→dq,mem_of_getElem?→cm,mem_of_mem_take→dy,mem_range→dh,mem_singleton→eM,nil_append→dz,push_toArray→fW,range_succ→fV,range→bu,size_toArray→jn,take_length→dP,take_nil→iT,take_of_length_le→cl,take_prefix→eS,take_succ_eq_append_getElem→aj,take_zero→fO
open _root_.Nat renaming add_assoc→gW,add_mul→iY,le_refl→ay,le_trans→a_,lt_of_lt_of_le→cn,lt_or_ge→fB,mod_lt→jj,pow_le_pow_right→ep,reduceAdd→ao,reduceSub→dk,two_pow_pos→ee,zero_add→au,zero_le→be,zero_mul→fh
open _root_.UInt8 renaming ofNat→gH,toNat_ofNat'→ji
set_option maxRecDepth 100000
set_option maxHeartbeats 16000000
set_option linter.unusedVariables false
set_option linter.unusedSimpArgs false
structure SdD(x0:Option jG)(x1:List Int)(x2:Nat) where
def dD(x0:Option jG)(x1:List Int)(x2:Nat):SdD x0 x1 x2:=⟨⟩
instance(x0:Option jG)(x1:List Int)(x2:Nat):CoeOut (SdD x0 x1 x2) jD:=⟨fun _=>.agg #[jN x0 x1 x2]⟩
namespace Ex
def mz(l:List Int)(k:Nat):Bool:=(bu k).all fun i=>decide (i=0)||decide (nth l (i-1)<nth l i)
def kg(l:List Int):Bool:=decide (l.length≤64)&&mz l l.length
theorem D3(l:List Int)(k:Nat):mz l (k+1)=(mz l k&&(decide (k=0)||decide (nth l (k-1)<nth l k))):=by
 simp[mz,fV]
variable{l:List Int}{k:Nat}
theorem JB{m:Nat}(h:mz l m=true)(hk:k≤m):mz l k=true:=by
 simp only[mz,dZ,dh]at*
 exact fun i hi=>h i jS
theorem BZ(hk:k<l.length)(h:mz l (k+1)=false):kg l=false:=by
 cases hr:kg l with
 |false=>rfl
 |true=>
  simp only[kg,ba]at hr;rw[JB hr.2 jS]at h
  cases h
theorem j_(w:jC)(B:Nat)(A:Option jG)(c:Nat)(l:List Int)(hS:Sl w B A l)(hB:B≤w.heap.size)(hn:l.length≤9223372036854775807):
 jE Tryz.prog 199 #[dD A l c] w fun e w'=>e=.returned (.bool (kg l))∧w.alloc (.cells #[jN A l c] 127)=w':=by
 by_cases h64:64<l.length
 ·have hr:Hid (kg l=false):=by show kg l=false;simp[kg];omega
  have d64:decide (64<(l.length:Int))=true:=mO;go_in;go_wp2;go_ret;exact⟨jU hr.out.symm,rfl⟩
 have d64:decide (64<(l.length:Int))=false:=mO
 go_in
 go_wp2
 go_loop[12] (fun i=>∃k:Nat,k≤l.length∧i=.int .i64 k∧mz l k=true) (fun i=>l.length-(intOf i).toNat)
 case atStart=>exact⟨0,be _,rfl,rfl⟩
 obtain⟨k,hk,rfl,hr⟩:=hrel
 have HR:=ah hr
 by_cases hlt:k<l.length
 ·obtain⟨b,off,rfl,hb,hc⟩:=hS.at_ jS;have hb':b<w.heap.size:=jS;have hne:b≠w.heap.size:=jS;have hc1:w.cell? ⟨b,off+k,none⟩=some (.int .u64 (nth l k)):=hc k hlt;have hs:=D3 l k;rw[HR]at hs;by_cases h0:k=0
  ·subst h0;have hc0:w.cell? ⟨b,off,none⟩=some (.int .u64 (nth l 0)):=hc1;have HS:Hid (mz l (0+1)=true):=by rw[hs];rfl
   clear hs hc;go_wp2;go_round
   case rel=>exact⟨1,by omega,by go_num,HS⟩
   simp[intOf];omega
  have hc2:=hc (k-1) jS;have hk0:0<k:=jS;by_cases hle:nth l (k-1)<nth l k
  ·have HS:Hid (mz l (k+1)=true):=by show mz l (k+1)=true;rw[hs];simp[hle]
   have au3:¬nth l k≤nth l (k-1):=jS;go_wp2;go_round
   case rel=>exact⟨k+1,jS,CJ,HS⟩
   simp[intOf];omega
  have HS:Hid (mz l (k+1)=false):=by show mz l (k+1)=false;rw[hs];simp[hle,h0]
  have HF:=ah (BZ hlt HS);have au3:nth l k≤nth l (k-1):=jS;go_wp2;go_ret;exact⟨jU HF.symm,rfl⟩
 have HF:Hid (kg l=true):=by
  obtain rfl:k=l.length:=jS;show kg l=true;simp[kg,HR.out];omega
 go_wp2
 go_ret
 exact⟨jU HF.symm,rfl⟩
def nV(l m:List Int)(k:Nat):Bool:=(bu k).all fun i=>decide (nth l i=nth m i)
theorem ts(l m:List Int)(k:Nat):nV l m (k+1)=(nV l m k&&decide (nth l k=nth m k)):=by simp[nV,fV]
def Cj(l m:List Int):Bool:=decide (l=m)
variable{m:List Int}
theorem vG(h:l.length≠m.length):Cj l m=false:=by
 simp only[Cj,decide_eq_false_iff_not];rintro rfl;exact h rfl
theorem tS(h:l.length=m.length)(hs:nV l m l.length=true):Cj l m=true:=by
 simp only[Cj,decide_eq_true_eq];simp only[nV,dZ,dh,decide_eq_true_eq]at hs;refine iO h fun i h1 h2=>?_;have:=hs i h1;simpa[nth,h1,h2]using this
theorem vF(hk:nth l k≠nth m k):Cj l m=false:=by
 simp only[Cj,decide_eq_false_iff_not];rintro rfl;exact hk rfl
theorem xQ(w:jC)(B c c2:Nat)(A A2:Option jG)(l m:List Int)(hS:Sl w B A l)(hS2:Sl w B A2 m)(hl:l.length≤1152921504606846976)(hm:m.length≤1152921504606846976):
 jE Tryz.prog 203 #[jN A l c,jN A2 m c2] w fun e w'=>e=.returned (.bool (Cj l m))∧∃k,w'=w.drewN k:=by
 by_cases hlen:l.length=m.length
 ·have hd:((l.length:Int)!=(m.length:Int))=false:=by simp[hlen]
  have HL:=ah hlen;go_in;go_wp2;go_loopw[13] (fun i wr=>∃k n:Nat,k≤l.length∧i=.int .i64 k∧nV l m k=true∧wr=w.drewN n) (fun i _=>l.length-(intOf i).toNat)
  case atStart=>exact⟨0,0,be _,rfl,rfl,rfl⟩
  obtain⟨k,n,hk,rfl,hr,rfl⟩:=hrel;have HR:=ah hr;by_cases hlt:k<l.length
  ·have hlt2:k<m.length:=by rw[←HL];exact hlt
   obtain⟨b,off,rfl,_,hc⟩:=hS.at_ jS;obtain⟨b2,off2,rfl,_,hc2⟩:=hS2.at_ jS;have hc1:=hc k hlt;have hc3:=hc2 k hlt2;have hi:(k:Int)<l.length:=jS;have hi2:(k:Int)<m.length:=jS;by_cases he:nth l k=nth m k
   ·have he':(nth l k !=nth m k)=false:=by simp[he]
    have HS:Hid (nV l m (k+1)=true):=by show nV l m (k+1)=true;rw[ts,HR];simp[he]
    go_wp2;go_quiet(fail);go_wp2;go_roundw
    case rel=>exact⟨k+1,_,jS,CJ,HS,rfl⟩
    simp[intOf];omega
   have he':(nth l k !=nth m k)=true:=by simp[he]
   have HS:=ah (vF he);go_wp2;go_quiet(fail);go_wp2;go_ret;exact⟨jU HS.symm,_,jr _ _ _⟩
  obtain rfl:k=l.length:=jS;have HS:=ah (tS HL HR);go_wp2;go_ret;exact⟨jU HS.symm,_,rfl⟩
 have hd:((l.length:Int)!=(m.length:Int))=true:=mO
 have HS:=ah (vG hlen)
 go_in
 go_wp2
 go_ret
 exact⟨jU HS.symm,0,rfl⟩
theorem tr(w:jC)(c c2:Nat)(A A2:Option jG)(l m:List Int)(hS:Sl w w A l)(hS2:Sl w w A2 m)(hl:l.length≤1152921504606846976)(hm:m.length≤1152921504606846976):
 jE Tryz.prog 160 #[dD A l c,dD A2 m c2] w fun e w'=>e=.returned (.bool (Cj l m))∧Below w w w':=by
 have HS:=ah hS
 have HS2:=ah hS2
 go_in
 go_wp2_with fail
 refine(xQ _ w c c2 A A2 l m (by exact HS.al (jP (jP (jQ _) _) _)) (by exact HS2.al (jP (jP (jQ _) _) _)) hl hm).mono ?_
 rintro e w1⟨rfl,k,rfl⟩
 go_wp2
 go_ret
 exact⟨rfl,below_drewN (jP (jP (jQ _) _) _) _⟩
end Ex
structure SaG(x0:jC) where
def aG(x0:jC):SaG x0:=⟨⟩
instance(x0:jC):CoeOut (SaG x0) jG:=⟨fun _=>⟨x0.heap.size+1+1,0,none⟩⟩
structure SaZ(x0:jC) where
def aZ(x0:jC):SaZ x0:=⟨⟩
instance(x0:jC):CoeOut (SaZ x0) Prop:=⟨fun _=>x0.heap.size≤x0.heap.size+1⟩
instance(x0:jC):CoeSort (SaZ x0) Prop:=⟨fun _=>x0.heap.size≤x0.heap.size+1⟩
structure ScQ(x0:ByteArray) where
def cQ(x0:ByteArray):ScQ x0:=⟨⟩
instance(x0:ByteArray):CoeOut (ScQ x0) Obj:=⟨fun _=>(.cells #[jL x0] 9)⟩
namespace Hl
def nO(b:Int):Bool:=decide (3≤b∧b≤8)
variable{b:Int}
theorem UV(h:nO b=true):3≤b∧b≤8:=by simpa[nO]using h
theorem bits_nat(h:nO b=true):∃B:Nat,b=B∧3≤B∧B≤8:=by
 obtain⟨h1,h2⟩:=UV h;exact⟨b.toNat,jS,jS,jS⟩
section
open Go.RowKit Go.Shelf
end
theorem pl(b:Int)(w:jC):jE Tryz.prog 239 #[jJ b] w fun e w'=>e=.returned (.bool (nO b))∧w=w':=by
 by_cases h1:3≤b
 ·by_cases h2:b≤8
  ·go_in;go_wp2;go_ret;exact⟨jU (by simp[nO];omega),rfl⟩
  go_in;go_wp2;go_ret;exact⟨jU (by simp[nO];omega),rfl⟩
 go_in;go_wp2;go_ret;exact⟨jU (by simp[nO];omega),rfl⟩
def mJ(l:List Nat)(k:Nat):Nat:=(l[k]?).getD 0
def Bytes(l:List Nat):Prop:=∀x∈l,x<256
structure By(w:jC)(g:Nat)(l:List Nat):Prop where
 lt:g<w.heap.size
 cell:∀j,j<l.length→w.cell? ⟨g,j,none⟩=some (.int .u8 ((mJ l j:Nat):Int))
 free:∀j,j<l.length→w.frozen? ⟨g,j,none⟩=false
variable{l:List Nat}
theorem Bk(h:Bytes l)(k:Nat):mJ l k<256:=by
 unfold mJ
 cases e:l[k]? with
 |none=>simp
 |some x=>exact h x (cm e)
section
variable{w w':jC}{g:Nat}{l:List Nat}
theorem By.keep(h:By w g l)(hs:w.heap.size≤w'.heap.size)(hb:w'.heap[g]? =w.heap[g]?):By w' g l:=
 ⟨cn h.lt hs,fun j hj=>(co hb).trans (h.cell j hj),fun j hj=>by
  have:=h.free j hj;unfold ju at this⊢;rw[hb];exact this⟩
theorem By.later(h:By w g l)(hb:Below w w w'):By w' g l:=h.keep hb.size (hb.block g h.lt)
variable{row:Option Nat}
theorem By.grown(h:By w g l)(hb:w.grownBy w' row)(hg:some g≠row):By w' g l:=h.keep hb.size (hb.block g h.lt hg)
theorem By.alloc(h:By w g l)(o:Obj):By (w.alloc o) g l:=h.later ((Below.refl _ _).alloc aa o)
theorem By.kept(h:By w g l)(hl:0<l.length)(hg:w.grownBy w' row)(hr:∀r,row=some r→(aH w r)):By w' g l:=by
 refine h.grown hg (fun e=>?_);obtain⟨o,ho,hc⟩:=hr g e.symm;have:=h.cell 0 hl;unfold fJ at this;simp only[ho]at this
 cases o<;>first|(simp at this;done)|(simp[Obj.isCells]at hc;done)
end
def bs(l:List Nat):ByteArray:=⟨(l.map gH).toArray⟩
theorem oA(l:List Nat):(bs l).size=l.length:=by simp[bs,iG]
variable{B:Nat}
theorem Ae(h3:3≤B)(h8:B≤8):8≤2^B∧2^B≤256:=
 ⟨a_ B8 (ep B8 h3),a_ (ep B8 h8) B8⟩
section
open Go.RowKit Go.Shelf
attribute [local go_sem] db
theorem xu(s:ByteArray)(w:jC):
 jE Tryz.prog 240 #[jL s] w fun e w'=>e=.returned (.func (.func 259) #[] #[jO w])∧w.alloc (cQ s)=w':=by
 go_in
 go_wp2
 go_ret
 exact⟨rfl,rfl⟩
variable{k:Nat}
theorem Iv(h:Bytes l)(hk:k<(bs l).size):((bs l)[k]).toNat=mJ l k:=by
 have hk':k<l.length:=by rwa[oA]at hk
 have:=Bk h k;have e:mJ l k=l[k]:=by simp[mJ,hk']
 have e2:(bs l)[k]=gH l[k]:=by
  show(bs l).data[k]=_;simp[bs]
 rw[e2,e,ji];omega
theorem yw(n:Nat)(hn:1≤n)(Bs g:Nat)(ls:List Nat)(hL:Bytes ls)(zs:List (At ls.length))(hzs:zs.map (·.1)=bu ls.length)(hreach:ls.length≤65536)(w:jC)(hg:Bs≠g)
 (hB:jR w Bs 9 #[jL (bs ls)]):
 bl1 cz n Tryz.prog 259 #[jO Bs] (fun x:At ls.length=>#[br .i64 (x.1:Int),br .u8 ((mJ ls x.1:Nat):Int)]) (kZ w g) (fun ys=>ys=zs) (fun pre=>pre <+: zs) ls.length w:=fun l J Jx W hW _ _ hY h0=>by
 have hlen:zs.length=ls.length:=by rw[←ax (f:=(·.1)),hzs,fo]
 have hsz:=oA ls
 have HZ:=ah hzs
 have hB0:=hB.later hW
 have HB:=ah hB
 have hcb:=hB0.one
 have HW:=ah hW
 refine bj1 Tryz.func259 rfl trivial ?_ rfl
 simp only[Tryz.ntmps259,xb,ao,dk]
 gi_wp2
 gi_loopw[6] (fun i wr=>∃k:Nat,k≤zs.length∧i=.int .i64 k∧J (zs.take k) wr∧kZ w g W wr)
  (fun i _=>zs.length-(intOf i).toNat)
 case atStart=>exact⟨0,be _,rfl,h0,og _ _ _⟩
 obtain⟨k,hk,rfl,hJs,hnx⟩:=hrel
 by_cases hlt:k<zs.length
 ·have hcx':=(co (hnx.2 Bs HB.lt hg)).trans hcb;have hx:(zs[k]).1=k:=by
   have:=congrArg (fun t=>t[k]?) HZ;simp[hlt,hlen▸hlt]at this;exact this
  have ht:=aj hlt;have HT:=ah ht;obtain⟨fn,tmps,assign,body,hy,hR⟩:=hY _ (zs[k]) wr hJs mO;rw[hx]at hy;have ha:∀h:k<(bs ls).size,((bs ls)[k]'h).toNat=mJ ls k:=fun h=>Iv hL h;gi_wp2;try simp only[ha]
  gi_wp2;refine hR.mono ?_;rintro e W3(⟨rfl,hJ3,hk3⟩|⟨rfl,hJx3⟩)
  ·gi_wp2;go_roundw
   case rel=>exact⟨k+1,jS,lV,by rw[HT];exact hJ3,l_ hnx hk3⟩
   simp[intOf];omega
  gi_wp2;refine jF (bj7 rfl _ _ _) rfl ?_;refine⟨⟨_,rfl⟩,.inr ⟨_,?_,hJx3⟩⟩;rw[←HT];exact eS _ _
 obtain rfl:k=zs.length:=jS
 gi_wp2
 go_end0
 exact⟨⟨_,rfl⟩,.inl ⟨_,dP,hJs⟩⟩
end
theorem NS(h:nO b=false)(w:jC):jE Tryz.prog 239 #[jJ b] w fun e w'=>e=.returned (.bool false)∧w'=w:=(pl b w).mono fun _ _⟨he,hw⟩=>⟨by rw[he,h],hw.symm⟩
theorem AJ(h:nO b=true)(w:jC):jE Tryz.prog 239 #[jJ b] w fun e w'=>e=.returned (.bool true)∧w'=w:=(pl b w).mono fun _ _⟨he,hw⟩=>⟨by rw[he,h],hw.symm⟩
theorem JC(b:Int)(l:List Nat)(w:jC)(hb:nO b=false):
 jE Tryz.prog 200 #[.agg #[jJ b,jL (bs l)]] w fun e w'=>e=.returned (.bool false)∧Below w w w':=by
 have H:=ah hb
 have HG:Hid (Below w w (w.alloc (.cells #[jJ b,jL (bs l)] 129))):=jP (jQ _) _
 go_in
 go_wp2_with fail
 go_step3
 go_wp2
 go_quiet((go_at_call 239;exact jd (NS H _)))
 go_wp2
 rw[cf]
 go_ret
 exact⟨rfl,below_drewN HG _⟩
section
attribute [local go_sem] db
def kD(b:Int)(l:List Nat):Bool:=nO b&&decide (l.length=2^b.toNat)&&decide (∀x∈l,x≤65-b.toNat)
theorem lh(h:kD b l=true):∃B:Nat,b=B∧3≤B∧B≤8∧l.length=2^B∧(∀x∈l,x≤65-B):=by
 simp only[kD,ba,decide_eq_true_eq]at h;obtain⟨⟨h1,h2⟩,h3⟩:=h;obtain⟨B,rfl,q1,q2⟩:=bits_nat h1;rw[dM]at h2 h3;exact⟨B,rfl,q1,q2,h2,h3⟩
theorem rE(h1:3≤B)(h2:B≤8)(h3:l.length=2^B)(h4:∀x∈l,x≤65-B):kD B l=true:=by
 simp only[kD,ba,decide_eq_true_eq];exact⟨⟨by simp[nO];omega,by rw[dM];exact h3⟩,by rw[dM];exact h4⟩
theorem Ea(h3:3≤B)(h8:B≤8):∃N:Nat,2^B=N∧wrap64 ((2:Int)^B)=(N:Int)∧IntKind.i64.wrap ((2:Int)^B)=(N:Int)∧8≤N∧N≤256:=by
 obtain⟨p1,p2⟩:=Ae h3 h8;have e:(2:Int)^B=((2^B:Nat):Int):=lV;refine⟨2^B,rfl,?_,?_,p1,p2⟩
 ·rw[e];unfold wrap64;omega
 rw[e];exact dv _ jS
theorem Nl(B:Nat)(l:List Nat)(w:jC)(h3:3≤B)(h8:B≤8)(hl:l.length≠2^B):
 jE Tryz.prog 200 #[.agg #[jJ B,jL (bs l)]] w fun e w'=>e=.returned (.bool false)∧Below w w w':=by
 obtain⟨N,hN,hs1,hs2,hN8,Rx⟩:=Ea h3 h8
 rw[hN]at hl
 have d1:((l.length:Int)!=(N:Int))=true:=by simp;omega
 have H:=ah (show nO (B:Int)=true by simp[nO];omega)
 have HG:Hid (Below w w (w.alloc (.cells #[jJ B,jL (bs l)] 129))):=jP (jQ _) _
 have hsz:=oA l
 go_in
 go_wp2_with fail
 go_step3
 go_wp2
 go_quiet((go_at_call 239;exact jd (AJ H _)))
 go_wp2
 rw[cf]
 go_ret
 exact⟨rfl,below_drewN HG _⟩
theorem Jf(w:jC)(n:Nat)(a b c:Array jD)(ta tb tc:jH):
 Below w w ((((w.alloc (.cells a ta)).drewN n).alloc (.cells b tb)).alloc (.cells c tc))∧jR ((((w.alloc (.cells a ta)).drewN n).alloc (.cells b tb)).alloc (.cells c tc)) w ta a∧
 jR ((((w.alloc (.cells a ta)).drewN n).alloc (.cells b tb)).alloc (.cells c tc)) (w.heap.size+1) tb b∧jR ((((w.alloc (.cells a ta)).drewN n).alloc (.cells b tb)).alloc (.cells c tc)) (aN w) tc c∧
 ((((w.alloc (.cells a ta)).drewN n).alloc (.cells b tb)).alloc (.cells c tc)).heap.size=w.heap.size+3:=by
 refine⟨jP (jP (below_drewN (jP (jQ _) _) _) _) _,?_,?_,?_,lV⟩
 ·have h:=jR.new w ta a;exact(h.alloc _).alloc _
 ·have h:=(jR.new ((w.alloc (.cells a ta)).drewN n) tb b).alloc (.cells c tc);have e:((w.alloc (.cells a ta)).drewN n).heap.size=w.heap.size+1:=lV;rwa[e]at h
 have h:=jR.new (((w.alloc (.cells a ta)).drewN n).alloc (.cells b tb)) tc c
 have e:(((w.alloc (.cells a ta)).drewN n).alloc (.cells b tb)).heap.size=w.heap.size+1+1:=lV
 rwa[e]at h
def RtI(w:jC)(N:Nat)(B:Nat)(l:List Nat)(pre:List (At N))(W:jC):Prop:=
 jR W (w.heap.size+1) 4 #[.bool true]∧jR W w 129 #[jJ B,jL (bs l)]∧(∀p∈pre,mJ l p.1≤65-B)∧Below w w W
def RtX(w:jC)(N:Nat)(B:Nat)(l:List Nat)(c:bk9)(pre:List (At N))(W:jC):Prop:=
 c=.exit 0∧jR W (w.heap.size+1) 4 #[.bool false]∧(∃p∈pre,65-B<mJ l p.1)∧Below w w W
variable{w:jC}
theorem U_{N:Nat}{Bd:Nat}(hB:w.heap.size≤Bd):bj3 Bd (RtI w N B l):=by
 rintro s W W' row⟨h1,h2,h3,h4⟩ hg hr;have hr':∀r,row=some r→(aH W r):=fun r e=>(hr r e).2;exact⟨h1.kept hg hr',h2.kept hg hr',h3,h4.grown hg h4.size (fun k e=>a_ hB (hr k e).1)⟩
theorem U9{N:Nat}{c:bk9}{Bd:Nat}(hB:w.heap.size≤Bd):bj3 Bd (RtX w N B l c):=by
 rintro s W W' row⟨h1,h2,h3,h4⟩ hg hr;have hr':∀r,row=some r→(aH W r):=fun r e=>(hr r e).2;exact⟨h1,h2.kept hg hr',h3,h4.grown hg h4.size (fun k e=>a_ hB (hr k e).1)⟩
theorem MC{p:Nat}(h:p<l.length):mJ l p∈l:=by
 have:mJ l p=l[p]:=by simp[mJ,h]
 rw[this];exact ar h
theorem Ud{x:Nat}(h:x∈l):∃p,p<l.length∧mJ l p=x:=by
 obtain⟨p,hp,e⟩:=ik.1 h;exact⟨p,hp,by simp[mJ,hp,e]⟩
theorem z_(B:Nat)(l:List Nat)(w:jC)(h3:3≤B)(h8:B≤8)(hl:l.length=2^B)(hL:Bytes l):
 bj2 cz 6 Tryz.prog 200 #[.agg #[jJ B,jL (bs l)]] w fun e w'=>e=.returned (.bool (decide (∀x∈l,x≤65-B)))∧Below w w w':=by
 obtain⟨N,hN,hs1,hs2,hN8,Rx⟩:=Ea h3 h8
 rw[hN]at hl
 have d1:((l.length:Int)!=(N:Int))=false:=mO
 have H:=ah (show nO (B:Int)=true by simp[nO];omega)
 have hsz:=oA l
 have HL:=ah hl
 clear hN hl
 refine bi7 Tryz.func200 rfl trivial ?_ rfl
 simp only[Tryz.ntmps200,xb,ao,dk]
 refine bi4.2 ?_
 go_wp2_with fail
 go_step3
 go_wp2_with fail
 go_quiet((go_at_call 239;exact jd (AJ H _)))
 go_wp2_with fail
 try go_step3
 go_wp2_with fail
 refine(xu _ _).mono ?_
 rintro e w'⟨rfl,rfl⟩
 go_wp2_with fail
 obtain⟨hb0,hX,hR,hY,hz⟩:=Jf w nq #[jJ B,jL (bs l)] #[.bool true] #[jL (bs l)] 129 4 9
 generalize(((w.alloc (.cells #[jJ B,jL (bs l)] 129)).drewN nq).alloc (.cells #[.bool true] 4)).alloc (.cells #[jL (bs l)] 9)=V at*
 obtain⟨zs,hzs⟩:=mH (N:=l.length) (bu l.length) (fun p hp=>dh.1 hp)
 have HZ:=ah hzs
 have hst:RtI w l.length B l [] V:=⟨hR,hX,(fun p hp=>by cases hp),hb0⟩
 have Df:l.length≤256:=by rw[HL];exact Rx
 clear hzs hX hR
 refine(bi4 (n:=6)).1 ?_
 refine bj9 rfl (by omega) (gf:=259) (lb:=#[.pointer (some ⟨w.heap.size+1+1,0,none⟩)]) rfl trivial (enters_of Tryz.func259 (by kernel_rfl) rfl)
  (yw 5 (by omega) (w.heap.size+1+1) (w.heap.size+1) l hL zs HZ (by omega) V (by omega) hY)
  (fun h k=>l_ h k) (qf (by omega)) (Below.refl _ _) (fun _=>rfl)
  (RtI w l.length B l) (RtX w l.length B l) (U_ (by omega)) (fun c=>U9 (by omega)) hst
  (fun x=>{tmps:=#[.agg #[jJ B,jL (bs l)],jO w,.bool false,.pointer (some (aE w)),undef,.int .u8 ((mJ l x.1:Nat):Int),jO w,jJ B,.bool true,
   .bool false,.bool false,.pointer (some ⟨w,1,none⟩),jL (bs l),jJ (l.length:Int),jO w,jJ B,jJ (N:Int),.bool false,.bool false,
   .pointer (some ⟨w,1,none⟩),jL (bs l),.func (.func 259) #[] #[.pointer (some (aG w))],jJ (x.1:Int),.int .u8 ((mJ l x.1:Nat):Int),undef,undef,undef,undef,undef,undef,undef],defers:=[]}) ?assign ?body ?done ?stop
 case assign=>
  intro l x W K hK;gi_wp2;exact hK
 case body=>
  rintro l' pre⟨p,hp⟩ W⟨hG,hx,hall,hb⟩ hlt;have hv:=Bk hL p;have HG:=ah hG;have HX:=ah hx;have c0:=hx.cell 0;have c1:=hx.cell 1;have cg:=hG.one;have fg:=hG.frozen 0;have z1:=hx.lt;have z3:=hG.lt;by_cases h0:mJ l p≤65-B
  ·have d0:decide ((65:Int)-(B:Int)<((mJ l p:Nat):Int))=false:=mO;gi_wp2_with fail;exact⟨gq _,og _ _ _,HG,HX,fun q hq=>by
    rcases ed.1 hq with h|h
    ·exact hall q h
    rw[eM.1 h];exact h0,hb⟩
  have d0:decide ((65:Int)-(B:Int)<((mJ l p:Nat):Int))=true:=mO;gi_wp2_with fail;exact⟨b7 _ _ _,rfl,HG.kY 0 _,⟨⟨p,hp⟩,lV,by show 65-B<mJ l p;omega⟩,hb.setCell (by show(aZ w);omega) _⟩
 case done=>
  rintro D ys W hD rfl⟨hG,hx,hall,hb⟩ hK;have cg:=hG.one;have HA:=ah hall;go_wp2;try rw[cf]
  refine⟨lV,.inl ⟨_,_,rfl,bi2 hK,?_⟩⟩;refine⟨.bool true,by simp[results,Tryz.results200,go_sem],jU (Eq.symm (decide_eq_true ?_)),hb.trans (bj6 (w:=w) aa _ D _ _ jS hK rfl rfl)⟩;intro x hx;obtain⟨p,hp,rfl⟩:=Ud hx;have hm:p∈ys.map (·.1):=by rw[HZ];exact dh.2 hp
  obtain⟨q,hq,rfl⟩:=dq.1 hm;exact HA q hq
 rintro D c' pre W hD hpre⟨rfl,hG,hz,hb⟩ hK
 have cg:=hG.one
 have HA:=ah hz
 refine bi4.2 ?_
 go_wp2
 try rw[cf]
 refine⟨lV,.inl ⟨_,_,rfl,bi2 hK,?_⟩⟩
 refine⟨.bool false,by simp[results,Tryz.results200,go_sem],jU (Eq.symm (decide_eq_false ?_)),hb.trans (bj6 (w:=w) aa _ D _ _ jS hK rfl rfl)⟩
 intro hx
 obtain⟨p,hp,hgt⟩:=HA
 have:=hx _ (MC p.2)
 omega
theorem j_(b:Int)(l:List Nat)(hL:Bytes l)(w:jC):
 jE Tryz.prog 200 #[.agg #[jJ b,jL (bs l)]] w fun e w'=>e=.returned (.bool (kD b l))∧Below w w w':=by
 cases hb:nO b with
 |false=>rw[show kD b l=false by simp[kD,hb]];exact JC b l w hb
 |true=>
  obtain⟨B,rfl,h3,h8⟩:=bits_nat hb;by_cases hl:l.length=2^B
  ·rw[show kD B l=decide (∀x∈l,x≤65-B) by simp[kD,hb,hl]];exact jI.1 (z_ B l w h3 h8 hl hL)
  rw[show kD B l=false by simp[kD,hl]];exact Nl B l w h3 h8 hl
end
end Hl
structure SaK(x0:Int)(x1:Int)(x2:Option jG)(x3:List Int)(x4:Nat) where
def aK(x0:Int)(x1:Int)(x2:Option jG)(x3:List Int)(x4:Nat):SaK x0 x1 x2 x3 x4:=⟨⟩
instance(x0:Int)(x1:Int)(x2:Option jG)(x3:List Int)(x4:Nat):CoeOut (SaK x0 x1 x2 x3 x4) Obj:=⟨fun _=>(.cells #[jJ x0,jJ x1,jN x2 x3 x4] 131)⟩
structure SbR(x0:Int)(x1:Int)(x2:Option jG)(x3:List Int)(x4:Nat) where
def bR(x0:Int)(x1:Int)(x2:Option jG)(x3:List Int)(x4:Nat):SbR x0 x1 x2 x3 x4:=⟨⟩
instance(x0:Int)(x1:Int)(x2:Option jG)(x3:List Int)(x4:Nat):CoeOut (SbR x0 x1 x2 x3 x4) jD:=⟨fun _=>.agg #[jJ x0,jJ x1,jN x2 x3 x4]⟩
namespace Cm
def mX(r c:Int):Bool:=decide (1≤r∧r≤4∧(c=4∨c=8∨c=16∨c=32))
def kP(r c:Int)(n:Nat):Bool:=mX r c&&decide ((n:Int)=r*c)
variable{c:Int}
theorem tl{r:Int}(h:mX r c=true):1≤r∧r≤4∧(c=4∨c=8∨c=16∨c=32):=by simpa[mX]using h
theorem UW(a b:Int):(a==b)=decide (a=b):=by by_cases h:a=b<;>simp[h]
theorem Yd(h1:4≤c)(h2:c≤32):(bits .and .i64 c (c-1)==0)=decide (c=4∨c=8∨c=16∨c=32):=by
 obtain⟨n,rfl⟩:∃n:Nat,c=n:=⟨c.toNat,jS⟩;have:n=4∨n=5∨n=6∨n=7∨n=8∨n=9∨n=10∨n=11∨n=12∨n=13∨n=14∨n=15∨n=16∨n=17∨n=18∨n=19∨n=20∨n=21∨n=22∨n=23∨n=24∨n=25∨n=26∨n=27∨n=28∨n=29∨n=30∨n=31∨n=32:=jS;rcases this with rfl|rfl|rfl|rfl|rfl|rfl|rfl|rfl|rfl|rfl|rfl|rfl|rfl|rfl|rfl|rfl|rfl|rfl|rfl|rfl|rfl|rfl|rfl|rfl|rfl|rfl|rfl|rfl|rfl<;>decide
theorem qV(r c:Int)(w:jC):jE Tryz.prog 152 #[jJ r,jJ c] w fun e w'=>e=.returned (.bool (mX r c))∧w=w':=by
 by_cases h1:1≤r
 ·by_cases h2:r≤4
  ·by_cases h3:4≤c
   ·by_cases h4:c≤32
    ·have hb:=Yd h3 h4;go_in;go_wp2;go_ret;exact⟨jU (by simp[mX,h1,h2]),rfl⟩
    go_in;go_wp2;go_ret;exact⟨jU (by simp[mX];omega),rfl⟩
   go_in;go_wp2;go_ret;exact⟨jU (by simp[mX];omega),rfl⟩
  go_in;go_wp2;go_ret;exact⟨jU (by simp[mX];omega),rfl⟩
 go_in;go_wp2;go_ret;exact⟨jU (by simp[mX];omega),rfl⟩
theorem j_(r c:Int)(A:Option jG)(n cap:Nat)(w:jC):
 jE Tryz.prog 201 #[.agg #[jJ r,jJ c,.slice A n cap]] w fun e w'=>e=.returned (.bool (kP r c n))∧w.alloc (.cells #[jJ r,jJ c,.slice A n cap] 131)=w':=by
 cases hs:mX r c with
 |false=>
  have H:=ah hs;go_in;go_wp2_with fail;refine(qV r c _).mono ?_;rintro e w'⟨rfl,rfl⟩;rw[H];go_wp2;go_ret;exact⟨jU (by simp[kP,H.out]),rfl⟩
 |true=>
  obtain⟨h1,h2,h3⟩:=tl hs;have hm:0≤r*c∧r*c≤128:=by rcases h3 with rfl|rfl|rfl|rfl<;>omega
  obtain⟨hm1,hm2⟩:=hm;have H:=ah hs;go_in;go_wp2_with fail;refine(qV r c _).mono ?_;rintro e w'⟨rfl,rfl⟩;rw[H];go_wp2;go_ret;exact⟨jU (by simp[kP,H.out,UW]),rfl⟩
structure Cm where
 r:Int
 c:Int
 l:List Int
def nV(l m:List Int)(k:Nat):Bool:=(bu k).all fun i=>decide (nth l i=nth m i)
theorem ts(l m:List Int)(k:Nat):nV l m (k+1)=(nV l m k&&decide (nth l k=nth m k)):=by simp[nV,fV]
def Cj(l m:List Int):Bool:=decide (l=m)
variable{l m:List Int}
theorem vG(h:l.length≠m.length):Cj l m=false:=by
 simp only[Cj,decide_eq_false_iff_not];rintro rfl;exact h rfl
theorem tS(h:l.length=m.length)(hs:nV l m l.length=true):Cj l m=true:=by
 simp only[Cj,decide_eq_true_eq];simp only[nV,dZ,dh,decide_eq_true_eq]at hs;refine iO h fun i h1 h2=>?_;have:=hs i h1;simpa[nth,h1,h2]using this
variable{k:Nat}
theorem vF(hk:nth l k≠nth m k):Cj l m=false:=by
 simp only[Cj,decide_eq_false_iff_not];rintro rfl;exact hk rfl
theorem xQ(w:jC)(B c c2:Nat)(A A2:Option jG)(l m:List Int)(hS:Sl w B A l)(hS2:Sl w B A2 m)(hl:l.length≤1152921504606846976)(hm:m.length≤1152921504606846976):
 jE Tryz.prog 203 #[jN A l c,jN A2 m c2] w fun e w'=>e=.returned (.bool (Cj l m))∧∃k,w'=w.drewN k:=by
 by_cases hlen:l.length=m.length
 ·have hd:((l.length:Int)!=(m.length:Int))=false:=by simp[hlen]
  have HL:=ah hlen;go_in;go_wp2;go_loopw[13] (fun i wr=>∃k n:Nat,k≤l.length∧i=.int .i64 k∧nV l m k=true∧wr=w.drewN n) (fun i _=>l.length-(intOf i).toNat)
  case atStart=>exact⟨0,0,be _,rfl,rfl,rfl⟩
  obtain⟨k,n,hk,rfl,hr,rfl⟩:=hrel;have HR:=ah hr;by_cases hlt:k<l.length
  ·have hlt2:k<m.length:=by rw[←HL];exact hlt
   obtain⟨b,off,rfl,_,hc⟩:=hS.at_ jS;obtain⟨b2,off2,rfl,_,hc2⟩:=hS2.at_ jS;have hc1:=hc k hlt;have hc3:=hc2 k hlt2;have hi:(k:Int)<l.length:=jS;have hi2:(k:Int)<m.length:=jS;by_cases he:nth l k=nth m k
   ·have he':(nth l k !=nth m k)=false:=by simp[he]
    have HS:Hid (nV l m (k+1)=true):=by show nV l m (k+1)=true;rw[ts,HR];simp[he]
    go_wp2;go_quiet(fail);go_wp2;go_roundw
    case rel=>exact⟨k+1,_,jS,CJ,HS,rfl⟩
    simp[intOf];omega
   have he':(nth l k !=nth m k)=true:=by simp[he]
   have HS:=ah (vF he);go_wp2;go_quiet(fail);go_wp2;go_ret;exact⟨jU HS.symm,_,jr _ _ _⟩
  obtain rfl:k=l.length:=jS;have HS:=ah (tS HL HR);go_wp2;go_ret;exact⟨jU HS.symm,_,rfl⟩
 have hd:((l.length:Int)!=(m.length:Int))=true:=mO
 have HS:=ah (vG hlen)
 go_in
 go_wp2
 go_ret
 exact⟨jU HS.symm,0,rfl⟩
def yv(x y:Cm):Bool:=decide (x.r=y.r∧x.c=y.c∧x.l=y.l)
theorem tr(r c ry cy:Int)(A B:Option jG)(l m:List Int)(cap kC:Nat)(w:jC)(hS:Sl w w A l)(Rw:Sl w w B m)(hl:l.length≤1152921504606846976)(hm:m.length≤1152921504606846976):
 jE Tryz.prog 161 #[bR r c A l cap,bR ry cy B m kC] w fun e w'=>e=.returned (.bool (yv ⟨r,c,l⟩ ⟨ry,cy,m⟩))∧Below w w w':=by
 by_cases e1:r=ry
 ·by_cases e2:c=cy
  ·subst e1 e2;have DA:Below w w ((w.alloc (aK r c A l cap)).alloc (aK r c B m kC)):=jP (jP (jQ _) _) _;have HS:=ah (hS.later DA);have Ls:=ah (Rw.later DA);go_in;go_wp2_with fail;refine(xQ _ _ cap kC A B l m HS Ls hl hm).mono ?_;rintro e w'⟨rfl,k,rfl⟩;go_wp2;go_ret;exact⟨jU (by simp[yv,Cj]),below_drewN DA _⟩
  subst e1;go_in;go_wp2;go_ret;exact⟨jU (by simp[yv,e2]),jP (jP (jQ _) _) _⟩
 go_in
 go_wp2
 go_ret
 exact⟨jU (by simp[yv,e1]),jP (jP (jQ _) _) _⟩
end Cm
structure ScH where
def cH:ScH:=⟨⟩
instance:CoeOut ScH jD:=⟨fun _=>.tuple #[jK 0,jK 0,.bool false]⟩
instance(x0:Nat)(x1:Nat)(x2:Nat):CoeOut (IP 33 x0 x1 x2) Int:=⟨fun _=>(bits .or .u64 (IntKind.u64.wrap (2^x0)) (IntKind.u64.wrap ((x1:Int)*2^(x0-x2))))⟩
structure ScM where
def cM:ScM:=⟨⟩
instance:CoeOut ScM Int:=⟨fun _=>18446744073709551615⟩
namespace Hi
def bnd(f a:Nat):Option (Nat×Nat):=
 if a=0 then some (0,0)
 else if 64≤(a-1)/2^f then none
 else if f≤(a-1)/2^f then some (2^((a-1)/2^f)+(a-1)%2^f*2^((a-1)/2^f-f),2^((a-1)/2^f)+(a-1)%2^f*2^((a-1)/2^f-f)+(2^((a-1)/2^f-f)-1))
 else if(a-1)%2^f%2^(f-(a-1)/2^f)=0 then some (2^((a-1)/2^f)+(a-1)%2^f/2^(f-(a-1)/2^f),2^((a-1)/2^f)+(a-1)%2^f/2^(f-(a-1)/2^f))
 else none
abbrev jX:=List (Int×Int)
def cap(a:Int):Int:=min a cM
def ld(f:Int):Bool:=decide (0≤f∧f≤3)
theorem qZ{f:Int}(h:ld f=true):0≤f∧f≤3:=by simpa[ld]using h
theorem lK(b:Int)(w:jC):jE Tryz.prog 241 #[jJ b] w fun e w'=>e=.returned (.bool (ld b))∧w=w':=by
 by_cases h1:0≤b
 ·by_cases h2:b≤3
  ·go_in;go_wp2;go_ret;exact⟨jU (by simp[ld];omega),rfl⟩
  go_in;go_wp2;go_ret;exact⟨jU (by simp[ld];omega),rfl⟩
 go_in;go_wp2;go_ret;exact⟨jU (by simp[ld];omega),rfl⟩
variable{P:bi3}{a:Act}{w:jC}{Q:bk7→Act→jC→Prop}
theorem rW{c rest:bk9}(l:Nat)(hf:findLabel c l=some rest)
 (first:c.wp P (Exit.jump l (fun a w=>rest.wp P (Exit.noGoto Q) a w) Q) a w):(Code.scope c).wp P Q a w:=
 wp_scope_jumps l _ (fun _ _=>0) hf first (fun a w h=>jg (fun e a' w' hq=>by cases e<;>first|exact hq|exact False.elim hq) h)
section
variable{l:Nat}{J:Act→jC→Prop}{Q:bk7→Act→jC→Prop}{a:Act}{w:jC}
end
def I64(x:Int):Prop:= -9223372036854775808≤x∧x≤9223372036854775807
def mD(l:List (Int×Int)):List jD:=l.flatMap fun x=>[jJ x.1,jK x.2]
def mC(l:List (Int×Int))(k:Nat):Int×Int:=(l[k]?).getD (0,0)
def oT(l:List (Int×Int)):Prop:=∀x∈l,I64 x.1∧U x.2
def Sb(w:jC)(B:Nat)(A:Option jG)(l:List (Int×Int)):Prop:=Rd w B A (mD l)
theorem ws(l:List (Int×Int)):(mD l).length=2*l.length:=by
 induction l with
 |nil=>rfl
 |cons x l ih=>simp only[mD,dg,cd,c_,dp]at ih⊢;omega
theorem Hn:∀(l:List (Int×Int))(j:Nat),j<l.length→(mD l)[j*2]? =some (.int .i64 (mC l j).1)∧(mD l)[j*2+1]? =some (.int .u64 (mC l j).2)
 |[],_,h=>WY
 |x::l,0,_=>by simp[mD,mC]
 |x::l,j+1,h=>by
  have:=Hn l j S6;have e1:(mD (x::l))[(j+1)*2]? =(mD l)[j*2]? :=by
   show([_,_]++mD l)[(j+1)*2]? =_;rw[d7 mO];congr 1;simp;omega
  have e2:(mD (x::l))[(j+1)*2+1]? =(mD l)[j*2+1]? :=by
   show([_,_]++mD l)[(j+1)*2+1]? =_;rw[d7 mO];congr 1;simp;omega
  have e3:mC (x::l) (j+1)=mC l j:=by simp[mC]
  rw[e1,e2,e3];exact this
variable{l:List (Int×Int)}
theorem Iu(h:oT l)(j:Nat):I64 (mC l j).1∧U (mC l j).2:=by
 unfold mC
 cases e:l[j]? with
 |none=>simp[U,I64]
 |some x=>exact h x (cm e)
theorem oT.take(h:oT l)(n:Nat):oT (l.take n):=fun x hx=>h x (dy hx)
variable{k:Nat}
theorem mR(h:k<l.length):l.take (k+1)=l.take k++[mC l k]:=by
 rw[aj h];simp[mC,h]
section
variable{w w':jC}{B B':Nat}{A:Option jG}{l:List (Int×Int)}
theorem Sb.at_(h:Sb w B A l)(hl:0<l.length):∃b off,A=some ⟨b,off,none⟩∧b<B∧∀j,j<l.length→w.cell? (cP b off j)=some (.int .i64 (mC l j).1)∧w.cell? (cE b off j)=some (.int .u64 (mC l j).2):=by
 obtain⟨b,off,e,hb,hc⟩:=Rd.at_ h (by rw[ws];omega);refine⟨b,off,e,hb,fun j hj=>?_⟩;obtain⟨h1,h2⟩:=Hn l j hj;exact⟨hc _ _ h1,by rw[gW];exact hc _ _ h2⟩
end
theorem Ox(w:jC)(a b:Nat):(w.drewN a).drewN b=w.drewN (a+b):=by
 exact jr w a b
variable{f:Nat}
theorem zC{A:Nat}(hf:f≤3)(hA:A<9223372036854775807):bits .and .i64 (A:Int) (wrap64 (wrap64 (2^f)-1))=((A%2^f:Nat):Int):=by
 have hp:=ep (n:=2) B8 hf;have hp1:=ee f;have e0:(2:Int)^f=((2^f:Nat):Int):=by simp
 have e1:wrap64 (wrap64 ((2:Int)^f)-1)=((2^f-1:Nat):Int):=by
  rw[e0,e_ ((2^f:Nat):Int) (by omega),e_ _ (by omega)];omega
 rw[e1];have key:(jB 64 (A:Int) &&& jB 64 ((2^f-1:Nat):Int)).toNat=A%2^f:=by
  rw[BitVec.toNat_and,ofInt_u64 A (by omega),ofInt_u64 _ (by omega),Nat.and_two_pow_sub_one_eq_mod]
 show IntKind.i64.wrap ((jB 64 (A:Int) &&& jB 64 ((2^f-1:Nat):Int)).toNat:Nat)=_;have hm:A%2^f<2^f:=jj _ hp1;rw[key,IntKind.wrap_i64];omega
theorem LJ(f A:Nat):(A:Int)/2^f=((A/2^f:Nat):Int):=lV
def VK(f b p:Nat):Bool:=decide (2^f≤p)||decide (b<f)||
 (bits .or .u64 (IntKind.u64.wrap (2^b)) (IntKind.u64.wrap ((p:Int)*2^(b-f)))==((2^b+p*2^(b-f):Nat):Int)&&
 bits .or .u64 (oZ 33 b p f) (IntKind.u64.wrap (IntKind.u64.wrap (2^(b-f))-1))==((2^b+p*2^(b-f)+(2^(b-f)-1):Nat):Int))
theorem Pg:((bu 4).all fun f=>(bu 64).all fun b=>(bu 8).all fun p=>VK f b p)=true:=TO
variable{n m:Nat}
theorem ag0{P:Nat→Nat→Nat→Bool}(h:((bu n).all fun f=>(bu m).all fun b=>(bu k).all fun p=>P f b p)=true){b p:Nat}(hf:f<n)(hb:b<m)(hp:p<k):P f b p=true:=
 dZ.1 (dZ.1 (dZ.1 h f (dh.2 hf)) b (dh.2 hb)) p (dh.2 hp)
theorem Pf(f:Nat)(hf:f<4)(b:Nat)(hb:b<64)(p:Nat)(hp:p<8)(h1:p<2^f)(h2:f≤b):
 bits .or .u64 (IntKind.u64.wrap (2^b)) (IntKind.u64.wrap ((p:Int)*2^(b-f)))=((2^b+p*2^(b-f):Nat):Int)∧
 bits .or .u64 (oZ 33 b p f) (IntKind.u64.wrap (IntKind.u64.wrap (2^(b-f))-1))=((2^b+p*2^(b-f)+(2^(b-f)-1):Nat):Int):=by
 have:=ag0 Pg hf hb hp
 unfold VK at this
 rw[ag,ag,jv,jv,ba,beq_iff_eq,beq_iff_eq]at this
 exact this
def VM(f b p:Nat):Bool:=decide (2^f≤p)||decide (f≤b)||
 (bits .or .u64 (IntKind.u64.wrap (2^b)) ((p:Int)/2^(f-b))==((2^b+p/2^(f-b):Nat):Int)&&
 (bits .and .i64 (p:Int) (wrap64 (wrap64 (2^(f-b))-1))==0)==decide (p%2^(f-b)=0))
theorem Pm:((bu 4).all fun f=>(bu 4).all fun b=>(bu 8).all fun p=>VM f b p)=true:=TO
theorem FB(f:Nat)(hf:f<4)(b:Nat)(hb:b<4)(p:Nat)(hp:p<8)(h1:p<2^f)(h2:b<f):
 bits .or .u64 (IntKind.u64.wrap (2^b)) ((p:Int)/2^(f-b))=((2^b+p/2^(f-b):Nat):Int)∧
 (bits .and .i64 (p:Int) (wrap64 (wrap64 (2^(f-b))-1))==0)=decide (p%2^(f-b)=0):=by
 have:=ag0 Pm hf hb hp
 unfold VM at this
 rw[ag,ag,jv,jv,ba,beq_iff_eq,beq_iff_eq]at this
 exact this
theorem Qn(hf:f≤3)(A:Nat):A%2^f<2^f∧A%2^f<8:=by
 have hp:=ep (n:=2) B8 hf;have:=jj A (ee f);omega
theorem IB(f A:Nat)(hf:f≤3)(hA:A<9223372036854775807)(hb:64≤A/2^f)(w:jC):
 jE Tryz.prog 242 #[jJ f,jJ (A+1)] w fun e w'=>e=.returned (cH)∧∃n,w'=w.drewN n:=by
 have HB:=ah (show ld f=true by simp[ld];omega)
 have h1:(((A:Int)+1)==0)=false:=mO
 have q1:=LJ f A
 have q2:=zC hf hA
 generalize A/2^f=b at*
 generalize A%2^f=p at*
 go_in
 go_wp2_with fail
 refine rW 0 rfl ?_
 go_wp2_with fail
 refine(lK _ _).mono ?_
 rintro e w'⟨rfl,rfl⟩
 rw[HB]
 go_wp2
 go_quiet(fail)
 go_wp2_with fail
 go_step3
 refine And.intro (Eq.refl 0) ?_
 dsimp only
 go_wp2
 rw[cf]
 exact jF (v:=cH) (by simp[results,Tryz.results242,go_sem]) rfl ⟨rfl,nq,rfl⟩
theorem Iy(f A:Nat)(hf:f≤3)(hA:A<9223372036854775807)(hb:A/2^f<64)(hfb:f≤A/2^f)(w:jC):
 jE Tryz.prog 242 #[jJ f,jJ (A+1)] w fun e w'=>e=.returned (.tuple #[jK ((2^(A/2^f)+A%2^f*2^(A/2^f-f):Nat):Int),jK ((2^(A/2^f)+A%2^f*2^(A/2^f-f)+(2^(A/2^f-f)-1):Nat):Int),.bool true])∧∃n,w'=w.drewN n:=by
 have HB:=ah (show ld f=true by simp[ld];omega)
 have h1:(((A:Int)+1)==0)=false:=mO
 have q1:=LJ f A
 have q2:=zC hf hA
 obtain⟨m1,m2⟩:=Qn hf A
 have HV:=ah (Pf f jS _ hb _ m2 m1 hfb)
 generalize A/2^f=b at*
 generalize A%2^f=p at*
 go_in
 go_wp2_with fail
 go_step3
 go_wp2_with fail
 refine(lK _ _).mono ?_
 rintro e w'⟨rfl,rfl⟩
 rw[HB]
 go_wp2
 go_quiet(fail)
 go_wp2
 go_quiet(fail)
 go_wp2
 rw[cf]
 refine jF (v:=.tuple #[jK (oZ 33 b p f),jK (bits .or .u64 (oZ 33 b p f) (IntKind.u64.wrap (IntKind.u64.wrap (2^(b-f))-1))),.bool true]) (by simp[results,Tryz.results242,go_sem]) rfl ⟨?_,_,(Ox _ _ _)⟩
 rw[HV.1,←HV.2,HV.1]
theorem Iz(f A:Nat)(hf:f≤3)(hA:A<9223372036854775807)(hfb:A/2^f<f)(hd:A%2^f%2^(f-A/2^f)=0)(w:jC):
 jE Tryz.prog 242 #[jJ f,jJ (A+1)] w fun e w'=>e=.returned (.tuple #[jK ((2^(A/2^f)+A%2^f/2^(f-A/2^f):Nat):Int),jK ((2^(A/2^f)+A%2^f/2^(f-A/2^f):Nat):Int),.bool true])∧∃n,w'=w.drewN n:=by
 have HB:=ah (show ld f=true by simp[ld];omega)
 have h1:(((A:Int)+1)==0)=false:=by simp;omega
 have q1:=LJ f A
 have q2:=zC hf hA
 obtain⟨m1,m2⟩:=Qn hf A
 obtain⟨hv,ht⟩:=FB f (by omega) (A/2^f) (by omega) _ m2 m1 hfb
 have HV:=ah hv
 rw[decide_eq_true hd]at ht
 clear hv hd
 generalize A/2^f=b at*
 generalize A%2^f=p at*
 go_in
 go_wp2_with fail
 go_step3
 go_wp2_with fail
 refine(lK _ _).mono ?_
 rintro e w'⟨rfl,rfl⟩
 rw[HB]
 go_wp2_with fail
 go_quiet(fail)
 go_wp2_with fail
 rw[cf]
 refine jF (v:=.tuple #[jK (bits .or .u64 (IntKind.u64.wrap (2^b)) ((p:Int)/2^(f-b))),jK (bits .or .u64 (IntKind.u64.wrap (2^b)) ((p:Int)/2^(f-b))),.bool true]) (by simp[results,Tryz.results242,go_sem]) rfl ⟨?_,nq,rfl⟩
 rw[HV]
theorem IC(f A:Nat)(hf:f≤3)(hA:A<9223372036854775807)(hfb:A/2^f<f)(hd:¬A%2^f%2^(f-A/2^f)=0)(w:jC):
 jE Tryz.prog 242 #[jJ f,jJ (A+1)] w fun e w'=>e=.returned (cH)∧∃n,w'=w.drewN n:=by
 have HB:=ah (show ld f=true by simp[ld];omega)
 have h1:(((A:Int)+1)==0)=false:=mO
 have q1:=LJ f A
 have q2:=zC hf hA
 obtain⟨m1,m2⟩:=Qn hf A
 obtain⟨_,ht⟩:=FB f jS (A/2^f) jS _ m2 m1 hfb
 rw[decide_eq_false hd]at ht
 generalize A/2^f=b at*
 generalize A%2^f=p at*
 go_in
 go_wp2_with fail
 go_step3
 go_wp2_with fail
 refine(lK _ _).mono ?_
 rintro e w'⟨rfl,rfl⟩
 rw[HB]
 go_wp2
 go_quiet(fail)
 go_wp2_with fail
 go_step3
 go_wp2
 rw[cf]
 exact jF (v:=cH) (by simp[results,Tryz.results242,go_sem]) rfl ⟨rfl,nq,rfl⟩
theorem Iw(f:Nat)(hf:f≤3)(w:jC):
 jE Tryz.prog 242 #[jJ f,jJ 0] w fun e w'=>e=.returned (.tuple #[jK 0,jK 0,.bool true])∧∃n,w'=w.drewN n:=by
 have HB:=ah (show ld f=true by simp[ld];omega)
 go_in
 go_wp2_with fail
 go_step3
 go_wp2_with fail
 refine(lK _ _).mono ?_
 rintro e w'⟨rfl,rfl⟩
 rw[HB]
 go_wp2
 rw[cf]
 exact jF (v:=.tuple #[jK 0,jK 0,.bool true]) (by simp[results,Tryz.results242,go_sem]) rfl ⟨rfl,0,rfl⟩
theorem Li(f a:Int)(hf:ld f=false)(w:jC):
 jE Tryz.prog 242 #[jJ f,jJ a] w fun e w'=>e=.returned (cH)∧∃n,w'=w.drewN n:=by
 have HB:=ah hf
 go_in
 go_wp2_with fail
 refine rW 0 rfl ?_
 go_wp2_with fail
 refine(lK _ _).mono ?_
 rintro e w'⟨rfl,rfl⟩
 rw[HB]
 go_wp2_with fail
 go_step3
 refine And.intro (Eq.refl 0) ?_
 dsimp only
 go_wp2
 rw[cf]
 exact jF (v:=cH) (by simp[results,Tryz.results242,go_sem]) rfl ⟨rfl,0,rfl⟩
theorem Lh(f a:Int)(hf:ld f=true)(ha:a<0)(w:jC):
 jE Tryz.prog 242 #[jJ f,jJ a] w fun e w'=>e=.returned (cH)∧∃n,w'=w.drewN n:=by
 have HB:=ah hf
 go_in
 go_wp2_with fail
 refine rW 0 rfl ?_
 go_wp2_with fail
 refine(lK _ _).mono ?_
 rintro e w'⟨rfl,rfl⟩
 rw[HB]
 go_wp2_with fail
 go_step3
 refine And.intro (Eq.refl 0) ?_
 dsimp only
 go_wp2
 rw[cf]
 exact jF (v:=cH) (by simp[results,Tryz.results242,go_sem]) rfl ⟨rfl,0,rfl⟩
def lx(f a:Int):Int×Int×Bool:=
 if ld f=true∧0≤a then match bnd f.toNat a.toNat with|some q=>((q.1:Nat),(q.2:Nat),true)|none=>(0,0,false)else(0,0,false)
abbrev bdV(q:Int×Int×Bool):jD:=.tuple #[jK q.1,jK q.2.1,.bool q.2.2]
theorem yO{a:Nat}(hf:f≤3):lx f a=match bnd f a with|some q=>((q.1:Nat),(q.2:Nat),true)|none=>(0,0,false):=by
 have:ld f=true:=by simp[ld];omega
 unfold lx;rw[if_pos ⟨this,jS⟩];simp
theorem qH(f a:Int)(ha:I64 a)(w:jC):
 jE Tryz.prog 242 #[jJ f,jJ a] w fun e w'=>e=.returned (bdV (lx f a))∧∃n,w'=w.drewN n:=by
 cases h:ld f with
 |false=>
  have e:lx f a=(0,0,false):=by unfold lx;rw[if_neg (by simp[h])]
  rw[e];exact Li f a h w
 |true=>
  obtain⟨h1,h2⟩:=qZ h;obtain⟨F,rfl⟩:=fm h1;by_cases hn:a<0
  ·have e:lx F a=(0,0,false):=by unfold lx;rw[if_neg jS]
   rw[e];exact Lh F a h hn w
  obtain⟨a,rfl⟩:=fm (show 0≤a by omega);rw[yO jS];unfold I64 at ha
  cases a with
  |zero=>exact Iw F jS w
  |succ A=>
   unfold bnd;rw[if_neg jS,Nat.add_sub_cancel];have hF:F≤3:=jS;have hA:A<9223372036854775807:=jS;by_cases c1:64≤A/2^F
   ·rw[if_pos c1];exact IB F A hF hA c1 w
   rw[if_neg c1];by_cases c2:F≤A/2^F
   ·rw[if_pos c2];exact Iy F A hF hA jS c2 w
   rw[if_neg c2];by_cases c3:A%2^F%2^(F-A/2^F)=0
   ·rw[if_pos c3];exact Iz F A hF hA jS c3 w
   rw[if_neg c3];exact IC F A hF hA jS c3 w
def S9(l:jX)(k:Nat):Int:=if k=0 then -1 else(mC l (k-1)).1
def okI(f:Int)(l:jX)(k:Nat):Bool:=(mC l k).2 !=0&&((lx f (mC l k).1).2.2&&decide (S9 l k<(mC l k).1))
def xF(f:Int)(l:jX)(k:Nat):Bool:=(bu k).all (okI f l)
def kg(f:Int)(l:jX):Bool:=ld f&&xF f l l.length
theorem Nr(f:Int)(l:jX)(k:Nat):xF f l (k+1)=(xF f l k&&okI f l k):=by
 unfold xF;rw[fV,gT];simp
variable{l:jX}
theorem Qj{f:Int}(hk:k<l.length)(h:okI f l k=false):xF f l l.length=false:=by
 unfold xF;rw[List.all_eq_false];exact⟨k,dh.2 hk,by simp[h]⟩
theorem IE(l:jX)(k:Nat):S9 l (k+1)=(mC l k).1:=by simp[S9]
def SD(w:jC)(f:Int)(A:Option jG)(n cap:Nat)(wr:jC):Prop:=
 jR wr w 134 #[jJ f,.slice A n cap]∧Below w w wr
theorem pw{a:jC}(h:Below a a w)(n:Nat):Below a a (w.drewN n):=below_drewN h n
variable{g:Nat}{t:jH}{cs:Array jD}
theorem _root_.Go.Proofs.YtfcnedcahoifoaaGreatDoor.jR.drewN(h:jR w g t cs)(n:Nat):jR (w.drewN n) g t cs:=h
variable{b:jD}
theorem _root_.Go.Proofs.YtfcnedcahoifoaaGreatDoor.jR.d0{a:jD}(h:jR w g t #[a,b]):w.cell? ⟨g,0,none⟩=some a:=h.cell 0
theorem _root_.Go.Proofs.YtfcnedcahoifoaaGreatDoor.jR.d1{a:jD}(h:jR w g t #[a,b]):w.cell? ⟨g,1,none⟩=some b:=h.cell 1
theorem j_(f:Int)(A:Option jG)(l:jX)(cap:Nat)(hU:oT l)(hl:l.length≤9223372036854775807)(w:jC)(hS:Sb w w A l):
 jE Tryz.prog 202 #[.agg #[jJ f,jN A l cap]] w fun e w'=>e=.returned (.bool (kg f l))∧Below w w w':=by
 have T:Below w w (w.alloc (.cells #[jJ f,jN A l cap] 134)):=jP (jQ _) _
 have X:=ah (jR.new w 134 #[jJ f,jN A l cap])
 have HS:=ah hS
 clear hS
 cases hf:ld f with
 |false=>
  have HF:=ah hf;clear hf;go_in;go_wp2_with fail;refine(lK _ _).mono ?_;rintro e w'⟨rfl,rfl⟩;rw[HF];go_wp2_with fail;go_ret;exact⟨jU (by simp[kg,HF.out]),T⟩
 |true=>
  have HF:=ah hf;clear hf;go_in;go_wp2_with fail;refine(lK _ _).mono ?_;rintro e w'⟨rfl,rfl⟩;rw[HF];go_wp2_with fail;have HI:Hid (SD w f A l.length cap (w.alloc (.cells #[jJ f,jN A l cap] 134))):=⟨X,T⟩;clear X T;go_loopw[3,16] (fun b i wr=>∃k:Nat,k≤l.length∧i=.int .i64 k∧b=.int .i64 (S9 l k)∧Hid (xF f l k=true)∧SD w f A l.length cap wr) (fun _ i _=>l.length-(intOf i).toNat)
  case atStart=>exact⟨0,be _,rfl,rfl,rfl,HI⟩
  obtain⟨k,hk,rfl,rfl,HK,X,T⟩:=hrel;clear HI;have x0:=X.d0;have x1:=X.d1;have zx:=X.lt;have HX:=ah X;clear X;by_cases hlt:k<l.length
  ·obtain⟨b,off,rfl,hb,hcs⟩:=HS.at_ (by omega);obtain⟨h1,h2⟩:=hcs k hlt;have i1:=(T.cell (p:=(cP b off k)) hb).trans h1;have i2:=(T.cell (p:=(cE b off k)) hb).trans h2;have hbw:b<wr.heap.size:=by have:=T.size;omega
   have HN:Hid (xF f l (k+1)=okI f l k):=by show _=_;rw[Nr,HK,eF]
   have HB:Hid (okI f l k=false→xF f l l.length=false):=fun h=>Qj hlt h;have HV:Hid (okI f l k=((mC l k).2 !=0&&((lx f (mC l k).1).2.2&&decide (S9 l k<(mC l k).1)))):=rfl;have HB1:Hid (S9 l (k+1)=(mC l k).1):=IE l k;obtain⟨u1,u2⟩:=Iu hU k;generalize mC l k=it at*
   generalize S9 l k=bf at*
   generalize hq:lx f it.1=q at*
   have HQ:=ah hq;have hi1:(0:Int)≤k:=by omega
   have hi2:(k:Int)<l.length:=by omega
   clear hcs h1 h2 hq;by_cases c1:it.2=0
   ·have d1:(it.2==0)=true:=by simp[c1]
    have HR:Hid (xF f l l.length=false):=HB (by rw[HV];simp[c1]);clear c1;go_wp2_with fail;refine(qH _ _ u1 _).mono ?_;rintro e w'⟨rfl,n,rfl⟩;rw[HQ];go_wp2_with fail;go_ret;exact⟨jU (by simp[kg,HR.out]),pw (jP T _) _⟩
   have d1:(it.2==0)=false:=by simp[c1]
   by_cases c2:q.2.2=true
   ·by_cases c3:bf<it.1
    ·have d3:decide (it.1≤bf)=false:=by simp;omega
     have HR:Hid (xF f l (k+1)=true):=by show _=_;rw[HN,HV,c2];simp[c1,c3]
     clear c1;go_wp2_with fail;refine(qH _ _ u1 _).mono ?_;rintro e w'⟨rfl,n,rfl⟩;rw[HQ];go_wp2_with fail;go_roundw
     case rel=>exact⟨k+1,by omega,by go_num,by rw[HB1],HR,(HX.alloc _).drewN _,pw (jP T _) _⟩
     simp[intOf];omega
    have d3:decide (it.1≤bf)=true:=by simp;omega
    have HR:Hid (xF f l l.length=false):=HB (by rw[HV];simp[c3]);clear c1;go_wp2_with fail;refine(qH _ _ u1 _).mono ?_;rintro e w'⟨rfl,n,rfl⟩;rw[HQ];go_wp2_with fail;go_ret;exact⟨jU (by simp[kg,HR.out]),pw (jP T _) _⟩
   have c2':q.2.2=false:=by simpa using c2
   have HR:Hid (xF f l l.length=false):=HB (by rw[HV,c2'];simp);clear c1 c2;go_wp2_with fail;refine(qH _ _ u1 _).mono ?_;rintro e w'⟨rfl,n,rfl⟩;rw[HQ];go_wp2;go_ret;exact⟨jU (by simp[kg,HR.out]),pw (jP T _) _⟩
  obtain rfl:k=l.length:=jS;go_wp2;go_ret;exact⟨jU (by simp[kg,HF.out,HK.out]),T⟩
theorem _root_.Go.Proofs.YtfcnedcahoifoaaGreatDoor.jR.new2(w:jC)(o:Obj)(t:jH)(cs:Array jD):jR ((w.alloc o).alloc (.cells cs t)) (w.heap.size+1) t cs:=by
 have h:=jR.new (w.alloc o) t cs;have e:(w.alloc o).heap.size=w.heap.size+1:=lV;rwa[e]at h
theorem N5(op:BinOp)(x y:bl7)(xs ys:Array jD)(w:jC):(eqGuard op 303 x y (.agg xs) (.agg ys)).run Tryz.prog w=.ok () w:=run_eqGuard_agg w op _ x y xs ys oo
theorem XO(a n b m:Int)(w:jC):(Op.equalIn 10000 303 (.agg #[jJ a,jK n]) (.agg #[jJ b,jK m])).run Tryz.prog w=.ok (a==b&&n==m) w:=by
 have ht:Tryz.prog.underlying 303=some (.struct (Tryz.prog.fieldsOf 303)):=oo;rw[run_equalIn_agg w 9999 _ _ _ ht oo];simp[Op.eqFields,Program.fieldsOf,Tryz.underlying303,go_sem];by_cases h1:a=b<;>by_cases h2:n=m<;>simp[h1,h2]
theorem LY(p q:Int×Int)(d:Bool)(hd:d=decide (p≠q))(w:jC):(binOp .neq 303 (.agg #[jJ p.1,jK p.2]) (.agg #[jJ q.1,jK q.2])).run Tryz.prog w=.ok (.bool d) w:=by
 rw[run_neq_struct,XO,hd];simp only[iF];congr 2;by_cases h1:p.1=q.1<;>by_cases h2:p.2=q.2<;>simp[h1,h2,Prod.ext_iff]
def vV(f:Int)(l:jX)(g:Int)(m:jX):Bool:=decide (f=g∧l=m)
theorem EZ{m:jX}(h:l.length=m.length)(k:Nat)(hk:k=l.length)(he:l.take k=m.take k):l=m:=by
 subst hk;rwa[cl aa,cl jS]at he
theorem DN{m:jX}(h1:k<l.length)(h2:k<m.length)(he:l.take k=m.take k)(hb:mC l k=mC m k):l.take (k+1)=m.take (k+1):=by
 rw[mR h1,mR h2,he,hb]
def SmI(w:jC)(f g:Int)(A C:Option jG)(n m cap kC:Nat)(wr:jC):Prop:=
 jR wr w 134 #[jJ f,.slice A n cap]∧jR wr (w.heap.size+1) 134 #[jJ g,.slice C m kC]∧Below w w wr
theorem tr(f g:Int)(A C:Option jG)(l m:jX)(cap kC:Nat)(hl:l.length≤65536)(hm:m.length≤65536)(w:jC)(hS:Sb w w A l)(hT:Sb w w C m):
 jE Tryz.prog 162 #[.agg #[jJ f,jN A l cap],.agg #[jJ g,jN C m kC]] w fun e w'=>e=.returned (.bool (vV f l g m))∧Below w w w':=by
 have T:Below w w ((w.alloc (.cells #[jJ f,jN A l cap] 134)).alloc (.cells #[jJ g,jN C m kC] 134)):=jP (jP (jQ _) _) _
 have X:=ah ((jR.new w 134 #[jJ f,jN A l cap]).alloc (.cells #[jJ g,jN C m kC] 134))
 have Y:=ah (jR.new2 w (.cells #[jJ f,jN A l cap] 134) 134 #[jJ g,jN C m kC])
 have HS:=ah hS
 have HT:=ah hT
 clear hS hT
 by_cases c1:f=g
 ·subst c1;by_cases c2:l.length=m.length
  ·have dl:((l.length:Int)!=(m.length:Int))=false:=by simp;omega
   have HL:=ah c2;have HI:Hid (SmI w f f A C l.length m.length cap kC ((w.alloc (.cells #[jJ f,jN A l cap] 134)).alloc (.cells #[jJ f,jN C m kC] 134))):=⟨X,Y,T⟩;clear c2 X Y T;go_in;go_wp2_with fail;go_loopw[24] (fun i wr=>∃k:Nat,k≤l.length∧i=.int .i64 k∧Hid (l.take k=m.take k)∧SmI w f f A C l.length m.length cap kC wr) (fun i _=>l.length-(av i).toNat)
   case atStart=>exact⟨0,be _,rfl,rfl,HI⟩
   obtain⟨k,hk,rfl,HE,X,Y,T⟩:=hrel;have x0:=X.d0;have x1:=X.d1;have zx:=X.lt;have y1:=Y.d1;have zy:=Y.lt;have HX:=ah X;have HY:=ah Y;by_cases hlt:k<l.length
   ·have hlt2:k<m.length:=by have:=HL.out;omega
    obtain⟨b,off,rfl,hb,hcs⟩:=HS.at_ jS;obtain⟨b2,off2,rfl,hb2,hcs2⟩:=HT.at_ jS;obtain⟨h1,h2⟩:=hcs k hlt;obtain⟨h3,h4⟩:=hcs2 k hlt2;have i1:=(T.cell (p:=(cP b off k)) hb).trans h1;have i2:=(T.cell (p:=(cE b off k)) hb).trans h2;have i3:=(T.cell (p:=(cP b2 off2 k)) hb2).trans h3;have i4:=(T.cell (p:=(cE b2 off2 k)) hb2).trans h4;have hbw:b<wr.heap.size:=by have:=T.size;omega
    have hbw2:b2<wr.heap.size:=by have:=T.size;omega
    have HN:Hid (mC l k=mC m k→l.take (k+1)=m.take (k+1)):=fun h=>DN hlt hlt2 HE h;have HD:Hid (mC l k≠mC m k→l≠m):=fun h e=>h (by rw[e]);generalize mC l k=p at*
    generalize mC m k=q at*
    have hi1:(0:Int)≤k:=jS;have hi2:(k:Int)<l.length:=by omega
    have hi3:(k:Int)<m.length:=by omega
    clear hcs hcs2 h1 h2 h3 h4;have gb:=N5;by_cases c:p=q
    ·have nb:=LY p q false (by simp[c]);have HE2:=ah (HN c);clear c;go_wp2_with fail;go_quiet(fail);go_wp2_with fail;go_roundw
     case rel=>exact⟨k+1,by omega,by go_num,HE2,(HX.alloc _).drewN _,(HY.alloc _).drewN _,pw (jP T _) _⟩
     simp[av];omega
    have nb:=LY p q true (by simp[c]);have HE2:=ah (HD c);clear c;go_wp2_with fail;go_quiet(fail);go_wp2;go_ret;exact⟨jU (by simp[vV,HE2.out]),pw (jP T _) _⟩
   obtain rfl:k=l.length:=jS;have HR:=ah (EZ HL _ rfl HE);go_wp2;go_ret;exact⟨jU (by simp[vV,HR.out]),T⟩
  have dl:((l.length:Int)!=(m.length:Int))=true:=mO;go_in;go_wp2;go_ret;exact⟨jU (by simp[vV];intro e;exact c2 (by rw[e])),T⟩
 have d1:(f !=g)=true:=by simp[c1]
 go_in
 go_wp2
 go_ret
 exact⟨jU (by simp[vV,c1]),T⟩
end Hi
structure Sk where
 kind:Int
 level:Int
 e:List Int
 bits:Int
 regs:ByteArray
 rows:Int
 cols:Int
 c:List Int
 fine:Int
 g:Hi.jX
 deriving DecidableEq
structure SkM where
 s:Sk
 ea:Option jG
 ec:Nat
 ca:Option jG
 cc:Nat
 ga:Option jG
 gc:Nat
def eV(m:SkM):jD:=.agg #[jN m.ea m.s.e m.ec]
def hV(m:SkM):jD:=.agg #[jJ m.s.bits,jL m.s.regs]
def cV(m:SkM):jD:=.agg #[jJ m.s.rows,jJ m.s.cols,jN m.ca m.s.c m.cc]
def gV(m:SkM):jD:=.agg #[jJ m.s.fine,jN m.ga m.s.g m.gc]
def nT(m:SkM):jD:=.agg #[jJ m.s.kind,jJ m.s.level,jN m.ea m.s.e m.ec,jJ m.s.bits,jL m.s.regs,jJ m.s.rows,jJ m.s.cols,jN m.ca m.s.c m.cc,jJ m.s.fine,jN m.ga m.s.g m.gc]
def YS(m:SkM):List jD:=[jJ m.s.kind,jJ m.s.level,jN m.ea m.s.e m.ec,jJ m.s.bits,jL m.s.regs,jJ m.s.rows,jJ m.s.cols,jN m.ca m.s.c m.cc,jJ m.s.fine,jN m.ga m.s.g m.gc]
structure jY(w:jC)(B:Nat)(m:SkM):Prop where
 e:Sl w B m.ea m.s.e
 c:Sl w B m.ca m.s.c
 g:Hi.Sb w B m.ga m.s.g
structure t8(s:Sk):Prop where
 e:s.e.length≤1000
 c:s.c.length≤1000
 g:s.g.length≤1000
 regs:s.regs.size≤1000
 gu:Hi.oT s.g
 kind:Hi.I64 s.kind
 level:Hi.I64 s.level
 bits:Hi.I64 s.bits
 rows:Hi.I64 s.rows
 cols:Hi.I64 s.cols
 fine:Hi.I64 s.fine
variable{w w':jC}
theorem jY.later{m:SkM}(h:jY w w m)(hb:Below w w w'):jY w' w' m:=
 ⟨(Rd.below h.e hb).more hb.size,(Rd.below h.c hb).more hb.size,(Rd.below h.g hb).more hb.size⟩
structure mq where
 l:List kI
 k:Sk
 seen:Int
 deriving DecidableEq
structure jZ where
 s:mq
 m:SkM
 la:Option jG
 lc:Nat
 hk:m.s=s.k
def yV(m:jZ):jD:=.agg #[jN m.la m.s.l m.lc,jJ m.m.s.kind,jJ m.m.s.level,jN m.m.ea m.m.s.e m.m.ec,jJ m.m.s.bits,jL m.m.s.regs,jJ m.m.s.rows,jJ m.m.s.cols,jN m.m.ca m.m.s.c m.m.cc,jJ m.m.s.fine,jN m.m.ga m.m.s.g m.m.gc,jK m.s.seen]
def ng(m:jZ):List jD:=.slice m.la m.s.l.length m.lc::(YS m.m++[.int .u64 m.s.seen])
structure my(w:jC)(B:Nat)(m:jZ):Prop where
 l:Lb w B m.la m.s.l
 k:jY w B m.m
structure n_(s:mq):Prop where
 l:s.l.length≤10
 ls:∀x∈s.l,x.1.size≤20∧x.2.size≤120
 k:t8 s.k
 seen:U s.seen
theorem my.later{m:jZ}(h:my w w m)(hb:Below w w w'):my w' w' m:=⟨h.l.later hb,h.k.later hb⟩
def lS(ms:List jZ):List jD:=ms.flatMap ng
structure Tab(w:jC)(B:Nat)(A:Option jG)(ms:List jZ):Prop where
 rd:Rd w B A (lS ms)
 ok:∀m∈ms,my w B m
variable{A:Option jG}{ms:List jZ}
theorem Tab.later(h:Tab w w A ms)(hb:Below w w w'):Tab w' w' A ms:=⟨(Rd.below h.rd hb).more hb.size,fun m hm=>(h.ok m hm).later hb⟩
theorem l7(m:jZ):(ng m).length=12:=by simp[ng,YS]
theorem vS(ms:List jZ):(lS ms).length=12*ms.length:=by
 induction ms with
 |nil=>rfl
 |cons m ms ih=>unfold lS at ih⊢;rw[dg,cd,ih,l7,c_];omega
theorem LH:∀(ms:List jZ)(k j:Nat)(h:k<ms.length),j<12→(lS ms)[k*12+j]? =(ng ms[k])[j]?
 |[],_,_,h,_=>WY
 |m::ms,0,j,_,hj=>by
  unfold lS;rw[dg,fh,au,eL (by rw[l7];exact hj)];rfl
 |m::ms,k+1,j,h,hj=>by
  have h':k<ms.length:=S6;have e:(lS (m::ms))[(k+1)*12+j]? =(lS ms)[k*12+j]? :=by
   unfold lS;rw[dg,d7 (by rw[l7];omega),l7];congr 1;omega
  rw[e,LH ms k j h' hj];rfl
structure wV(w:jC)(b o:Nat)(m:jZ):Prop where
 c0:w.cell? ⟨b,o,none⟩=some (.slice m.la m.s.l.length m.lc)
 c1:w.cell? ⟨b,o+1,none⟩=some (.int .i64 m.m.s.kind)
 c2:w.cell? ⟨b,o+2,none⟩=some (.int .i64 m.m.s.level)
 c3:w.cell? ⟨b,o+3,none⟩=some (.slice m.m.ea m.m.s.e.length m.m.ec)
 c4:w.cell? ⟨b,o+4,none⟩=some (.int .i64 m.m.s.bits)
 c5:w.cell? ⟨b,o+5,none⟩=some (.string m.m.s.regs)
 c6:w.cell? ⟨b,o+6,none⟩=some (.int .i64 m.m.s.rows)
 c7:w.cell? ⟨b,o+7,none⟩=some (.int .i64 m.m.s.cols)
 c8:w.cell? ⟨b,o+8,none⟩=some (.slice m.m.ca m.m.s.c.length m.m.cc)
 c9:w.cell? ⟨b,o+9,none⟩=some (.int .i64 m.m.s.fine)
 c10:w.cell? ⟨b,o+10,none⟩=some (.slice m.m.ga m.m.s.g.length m.m.gc)
 c11:w.cell? ⟨b,o+11,none⟩=some (.int .u64 m.s.seen)
variable{B:Nat}
theorem Tab.at_(h:Tab w B A ms)(h0:0<ms.length):∃b off,A=some ⟨b,off,none⟩∧b<B∧∀k(hk:k<ms.length),wV w b (off+k*12) ms[k]:=by
 obtain⟨b,off,e,hb,hc⟩:=h.rd (by
  intro e;have h1:12*ms.length=0:=by rw[←vS,e];rfl
  omega)
 refine⟨b,off,e,hb,fun k hk=>?_⟩;have q:∀j v,j<12→(ng ms[k])[j]? =some v→w.cell? ⟨b,off+k*12+j,none⟩=some v:=fun j v hj hv=>by
  have:=hc (k*12+j) v (by rw[LH ms k j hk hj];exact hv);rwa[←gW]at this
 exact⟨q 0 _ B8 rfl,q 1 _ B8 rfl,q 2 _ B8 rfl,q 3 _ B8 rfl,q 4 _ B8 rfl,q 5 _ B8 rfl,q 6 _ B8 rfl,q 7 _ B8 rfl,q 8 _ B8 rfl,q 9 _ B8 rfl,q 10 _ B8 rfl,q 11 _ B8 rfl⟩
theorem wV.below{b o:Nat}{m:jZ}(h:wV w b o m)(hb:Below B w w')(hl:b<B):wV w' b o m:=by
 have q:∀(i:Nat)(v:jD),w.cell? ⟨b,i,none⟩=some v→w'.cell? ⟨b,i,none⟩=some v:=fun i v hv=>(hb.cell (p:=⟨b,i,none⟩) hl).trans hv;exact⟨q _ _ h.c0,q _ _ h.c1,q _ _ h.c2,q _ _ h.c3,q _ _ h.c4,q _ _ h.c5,q _ _ h.c6,q _ _ h.c7,q _ _ h.c8,q _ _ h.c9,q _ _ h.c10,q _ _ h.c11⟩
structure ScO(x0:Int)(x1:ByteArray) where
def cO(x0:Int)(x1:ByteArray):ScO x0 x1:=⟨⟩
instance(x0:Int)(x1:ByteArray):CoeOut (ScO x0 x1) jD:=⟨fun _=>.agg #[jJ x0,jL x1]⟩
def kn(k:Int):Int:=if k=1 then 4 else if k=2∨k=3 then 3 else -1
theorem qI(k:Int)(w:jC):jE Tryz.prog 112 #[jJ k] w fun e w'=>e=.returned (.int .i64 (kn k))∧w=w':=by
 by_cases h1:k=1
 ·subst h1;go_in;go_wp2;go_ret;exact⟨rfl,rfl⟩
 have b1:(k==1)=false:=by rw[beq_eq_false_iff_ne];exact h1
 by_cases h2:k=2
 ·subst h2;go_in;go_wp2;go_ret;exact⟨rfl,rfl⟩
 have b2:(k==2)=false:=by rw[beq_eq_false_iff_ne];exact h2
 by_cases h3:k=3
 ·subst h3;go_in;go_wp2;go_ret;exact⟨rfl,rfl⟩
 have b3:(k==3)=false:=by rw[beq_eq_false_iff_ne];exact h3
 have HR:Hid (kn k= -1):=by show _=_;simp[kn,h1,h2,h3]
 clear h1 h2 h3;go_in;go_wp2;go_ret;exact⟨by rw[HR];rfl,rfl⟩
theorem UE(a b:Int)(s t:ByteArray)(w:jC):(binOp .eql 129 (cO a s) (cO b t)).run Tryz.prog w=.ok (.bool (a==b&&s.toList==t.toList)) w:=by
 by_cases h1:a=b
 ·subst h1;by_cases h2:s.toList=t.toList<;>simp[h2,go_sem]
 simp[h1,go_sem]
theorem ZM{x y:Sk}(h:x.kind≠y.kind∨x.level≠y.level∨x.bits≠y.bits∨x.regs≠y.regs∨x.e≠y.e∨x.rows≠y.rows∨x.cols≠y.cols∨x.c≠y.c∨x.fine≠y.fine∨x.g≠y.g):decide (x=y)=false:=by
 apply decide_eq_false;rintro rfl;simp at h
theorem NL(x y:SkM)(w:jC)(hx:jY w w x)(hy:jY w w y)(fx:t8 x.s)(fy:t8 y.s):
 jE Tryz.prog 113 #[nT x,nT y] w fun e w'=>e=.returned (.bool (decide (x.s=y.s)))∧Below w w w':=by
 have HX:=ah hx
 have HY:=ah hy
 have HB:=ah (jP (jP (jQ w) (.cells (YS x).toArray 136)) (.cells (YS y).toArray 136))
 obtain⟨hx1,hx2,hx3⟩:=hx.later HB
 obtain⟨hy1,hy2,hy3⟩:=hy.later HB
 have lx1:=fx.e
 have lx2:=fx.c
 have lx3:=fx.g
 have ly1:=fy.e
 have ly2:=fy.c
 have ly3:=fy.g
 clear hx hy fx fy
 obtain⟨⟨kind,level,e,bits,regs,rows,cols,c,fine,g⟩,ea,ec,ca,cc,ga,gc⟩:=x
 obtain⟨⟨AG,vA,e1,vd,wb,uR,u_,c1,u6,g1⟩,ea1,ec1,ca1,cc1,RC,gc1⟩:=y
 simp only[YS]at*
 have HN:=ah (@ZM ⟨kind,level,e,bits,regs,rows,cols,c,fine,g⟩ ⟨AG,vA,e1,vd,wb,uR,u_,c1,u6,g1⟩)
 have QE:Hid (∀w',Sl w' w' ea e→Sl w' w' ea1 e1→jE Tryz.prog 160 #[dD ea e ec,dD ea1 e1 ec1] w' fun r w''=>r=.returned (.bool (Ex.Cj e e1))∧Below w' w' w''):=fun w' h1 h2=>Ex.tr w' _ _ _ _ _ _ h1 h2 jS jS
 have QC:Hid (∀w',Sl w' w' ca c→Sl w' w' ca1 c1→jE Tryz.prog 161 #[bR rows cols ca c cc,bR uR u_ ca1 c1 cc1] w' fun r w''=>r=.returned (.bool (Cm.yv ⟨rows,cols,c⟩ ⟨uR,u_,c1⟩))∧Below w' w' w''):=fun w' h1 h2=>Cm.tr _ _ _ _ _ _ _ _ _ _ w' h1 h2 jS jS
 have QG:Hid (∀w',Hi.Sb w' w' ga g→Hi.Sb w' w' RC g1→jE Tryz.prog 162 #[.agg #[jJ fine,jN ga g gc],.agg #[jJ u6,jN RC g1 gc1]] w' fun r w''=>r=.returned (.bool (Hi.vV fine g u6 g1))∧Below w' w' w''):=fun w' h1 h2=>Hi.tr _ _ _ _ _ _ _ _ jS jS w' h1 h2
 have uL:=ah hx1
 have HE2:=ah hy1
 have yT:=ah hx2
 have HC2:=ah hy2
 have DH:=ah hx3
 have HG2:=ah hy3
 clear hx1 hy1 hx2 hy2 hx3 hy3 HX HY lx1 lx2 lx3 ly1 ly2 ly3
 simp only at*
 have q1:=UE bits vd regs wb
 have X0:=ah ((jR.new w 136 #[jJ kind,jJ level,jN ea e ec,jJ bits,jL regs,jJ rows,jJ cols,jN ca c cc,jJ fine,jN ga g gc]).alloc (.cells #[jJ AG,jJ vA,jN ea1 e1 ec1,jJ vd,jL wb,jJ uR,jJ u_,jN ca1 c1 cc1,jJ u6,jN RC g1 gc1] 136))
 have Y0:=ah (jR.new (w.alloc (.cells #[jJ kind,jJ level,jN ea e ec,jJ bits,jL regs,jJ rows,jJ cols,jN ca c cc,jJ fine,jN ga g gc] 136)) 136 #[jJ AG,jJ vA,jN ea1 e1 ec1,jJ vd,jL wb,jJ uR,jJ u_,jN ca1 c1 cc1,jJ u6,jN RC g1 gc1])
 have hsz:(w.alloc (.cells #[jJ kind,jJ level,jN ea e ec,jJ bits,jL regs,jJ rows,jJ cols,jN ca c cc,jJ fine,jN ga g gc] 136)).heap.size=w.heap.size+1:=lV
 rw[hsz]at Y0
 clear hsz
 unfold nT
 by_cases h1:kind=AG
 ·have b1:(kind==AG)=true:=by rw[beq_iff_eq];exact h1
  by_cases h2:level=vA
  ·have b2:(level==vA)=true:=by rw[beq_iff_eq];exact h2
   by_cases h3:bits=vd∧regs=wb
   ·have b3:(bits==vd&&regs.toList==wb.toList)=true:=by simp[h3.1,h3.2]
    rw[b3]at q1;clear b3
    cases h4:Ex.Cj e e1 with
    |true=>
     have e4:e=e1:=by simpa[Ex.Cj]using h4
     rw[h4]at QE
     cases h5:Cm.yv ⟨rows,cols,c⟩ ⟨uR,u_,c1⟩with
     |true=>
      have e5:rows=uR∧cols=u_∧c=c1:=by simpa[Cm.yv]using h5
      rw[h5]at QC
      cases h6:Hi.vV fine g u6 g1 with
      |true=>
       have e6:fine=u6∧g=g1:=by simpa[Hi.vV]using h6
       rw[h6]at QG;have HR:Hid (decide ((⟨kind,level,e,bits,regs,rows,cols,c,fine,g⟩:Sk)=⟨AG,vA,e1,vd,wb,uR,u_,c1,u6,g1⟩)=true):=by
        show _=_;rw[decide_eq_true_eq,h1,h2,h3.1,h3.2,e4,e5.1,e5.2.1,e5.2.2,e6.1,e6.2]
       clear h1 h2 h3 h4 h5 h6 e4 e5 e6 HN;go_in;go_wp2_with fail;refine(QE _ uL HE2).mono ?_;rintro r w1⟨rfl,hb1⟩;have HB1:=ah (Below.two HB hb1);have X1:=ah (X0.later hb1);have Y1:=ah (Y0.later hb1);have C1:=ah (show Sl w1 w1 ca c from(Rd.below yT hb1).more hb1.size);have C2:=ah (show Sl w1 w1 ca1 c1 from(Rd.below HC2 hb1).more hb1.size);have G1:=ah (show Hi.Sb w1 w1 ga g from(Rd.below DH hb1).more hb1.size);have G2:=ah (show Hi.Sb w1 w1 RC g1 from(Rd.below HG2 hb1).more hb1.size);clear QE uL HE2 yT HC2 DH HG2 HB hb1 X0 Y0;have x5:=ce X1 5;have x6:=ce X1 6;have x7:=ce X1 7;have y5:=ce Y1 5;have y6:=ce Y1 6;have y7:=ce Y1 7;go_wp2_with fail;refine(QC _ C1 C2).mono ?_;rintro r w2⟨rfl,hb2⟩;have HB2:=ah (Below.two HB1 hb2);have X2:=ah (X1.later hb2);have Y2:=ah (Y1.later hb2);have G3:=ah (show Hi.Sb w2 w2 ga g from(Rd.below G1 hb2).more hb2.size);have G4:=ah (show Hi.Sb w2 w2 RC g1 from(Rd.below G2 hb2).more hb2.size);clear QC C1 C2 G1 G2 HB1 hb2 X1 Y1 x5 x6 x7 y5 y6 y7;have x8:=ce X2 8;have x9:=ce X2 9;have y8:=ce Y2 8;have y9:=ce Y2 9;go_wp2_with fail;refine(QG _ G3 G4).mono ?_;rintro r w3⟨rfl,hb3⟩;have HB3:=ah (Below.two HB2 hb3);clear QG G3 G4 HB2 hb3 X2 Y2 x8 x9 y8 y9;go_wp2;go_ret;exact⟨by rw[HR];rfl,HB3⟩
      |false=>
       have e6:¬(fine=u6∧g=g1):=by simpa[Hi.vV]using h6
       rw[h6]at QG;have HR:=ah (HN (by
        by_cases hf:fine=u6
        ·exact .inr (.inr (.inr (.inr (.inr (.inr (.inr (.inr (.inr (fun hg=>e6 ⟨hf,hg⟩)))))))))
        exact .inr (.inr (.inr (.inr (.inr (.inr (.inr (.inr (.inl hf))))))))))
       clear h1 h2 h3 h4 h5 h6 e4 e5 e6 HN;go_in;go_wp2_with fail;refine(QE _ uL HE2).mono ?_;rintro r w1⟨rfl,hb1⟩;have HB1:=ah (Below.two HB hb1);have X1:=ah (X0.later hb1);have Y1:=ah (Y0.later hb1);have C1:=ah (show Sl w1 w1 ca c from(Rd.below yT hb1).more hb1.size);have C2:=ah (show Sl w1 w1 ca1 c1 from(Rd.below HC2 hb1).more hb1.size);have G1:=ah (show Hi.Sb w1 w1 ga g from(Rd.below DH hb1).more hb1.size);have G2:=ah (show Hi.Sb w1 w1 RC g1 from(Rd.below HG2 hb1).more hb1.size);clear QE uL HE2 yT HC2 DH HG2 HB hb1 X0 Y0;have x5:=ce X1 5;have x6:=ce X1 6;have x7:=ce X1 7;have y5:=ce Y1 5;have y6:=ce Y1 6;have y7:=ce Y1 7;go_wp2_with fail;refine(QC _ C1 C2).mono ?_;rintro r w2⟨rfl,hb2⟩;have HB2:=ah (Below.two HB1 hb2);have X2:=ah (X1.later hb2);have Y2:=ah (Y1.later hb2);have G3:=ah (show Hi.Sb w2 w2 ga g from(Rd.below G1 hb2).more hb2.size);have G4:=ah (show Hi.Sb w2 w2 RC g1 from(Rd.below G2 hb2).more hb2.size);clear QC C1 C2 G1 G2 HB1 hb2 X1 Y1 x5 x6 x7 y5 y6 y7;have x8:=ce X2 8;have x9:=ce X2 9;have y8:=ce Y2 8;have y9:=ce Y2 9;go_wp2_with fail;refine(QG _ G3 G4).mono ?_;rintro r w3⟨rfl,hb3⟩;have HB3:=ah (Below.two HB2 hb3);clear QG G3 G4 HB2 hb3 X2 Y2 x8 x9 y8 y9;go_wp2;go_ret;exact⟨by rw[HR];rfl,HB3⟩
     |false=>
      have e5:¬(rows=uR∧cols=u_∧c=c1):=by simpa[Cm.yv]using h5
      rw[h5]at QC;have HR:=ah (HN (by
       by_cases hf:rows=uR
       ·by_cases hg:cols=u_
        ·exact .inr (.inr (.inr (.inr (.inr (.inr (.inr (.inl fun hk=>e5 ⟨hf,hg,hk⟩)))))))
        exact .inr (.inr (.inr (.inr (.inr (.inr (.inl hg))))))
       exact .inr (.inr (.inr (.inr (.inr (.inl hf)))))))
      clear h1 h2 h3 h4 h5 e4 e5 HN;go_in;go_wp2_with fail;refine(QE _ uL HE2).mono ?_;rintro r w1⟨rfl,hb1⟩;have HB1:=ah (Below.two HB hb1);have X1:=ah (X0.later hb1);have Y1:=ah (Y0.later hb1);have C1:=ah (show Sl w1 w1 ca c from(Rd.below yT hb1).more hb1.size);have C2:=ah (show Sl w1 w1 ca1 c1 from(Rd.below HC2 hb1).more hb1.size);have G1:=ah (show Hi.Sb w1 w1 ga g from(Rd.below DH hb1).more hb1.size);have G2:=ah (show Hi.Sb w1 w1 RC g1 from(Rd.below HG2 hb1).more hb1.size);clear QE uL HE2 yT HC2 DH HG2 HB hb1 X0 Y0;have x5:=ce X1 5;have x6:=ce X1 6;have x7:=ce X1 7;have y5:=ce Y1 5;have y6:=ce Y1 6;have y7:=ce Y1 7;go_wp2_with fail;refine(QC _ C1 C2).mono ?_;rintro r w2⟨rfl,hb2⟩;have HB2:=ah (Below.two HB1 hb2);have X2:=ah (X1.later hb2);have Y2:=ah (Y1.later hb2);have G3:=ah (show Hi.Sb w2 w2 ga g from(Rd.below G1 hb2).more hb2.size);have G4:=ah (show Hi.Sb w2 w2 RC g1 from(Rd.below G2 hb2).more hb2.size);clear QC C1 C2 G1 G2 HB1 hb2 X1 Y1 x5 x6 x7 y5 y6 y7;go_wp2;go_ret;exact⟨by rw[HR];rfl,HB2⟩
    |false=>
     have e4:¬e=e1:=by simpa[Ex.Cj]using h4
     rw[h4]at QE;have HR:=ah (HN (.inr (.inr (.inr (.inr (.inl e4))))));clear h1 h2 h3 h4 e4 HN;go_in;go_wp2_with fail;refine(QE _ uL HE2).mono ?_;rintro r w1⟨rfl,hb1⟩;have HB1:=ah (Below.two HB hb1);have X1:=ah (X0.later hb1);have Y1:=ah (Y0.later hb1);have C1:=ah (show Sl w1 w1 ca c from(Rd.below yT hb1).more hb1.size);have C2:=ah (show Sl w1 w1 ca1 c1 from(Rd.below HC2 hb1).more hb1.size);have G1:=ah (show Hi.Sb w1 w1 ga g from(Rd.below DH hb1).more hb1.size);have G2:=ah (show Hi.Sb w1 w1 RC g1 from(Rd.below HG2 hb1).more hb1.size);clear QE uL HE2 yT HC2 DH HG2 HB hb1 X0 Y0;go_wp2;go_ret;exact⟨by rw[HR];rfl,HB1⟩
   have b3:(bits==vd&&regs.toList==wb.toList)=false:=by
    by_cases hb:bits=vd
    ·have hr:¬regs.toList=wb.toList:=fun e=>h3 ⟨hb,rX (by rw[←km,←km,e])⟩;simp[hb,hr]
    simp[hb]
   rw[b3]at q1;have HR:=ah (HN (by
    by_cases hb:bits=vd
    ·exact .inr (.inr (.inr (.inl fun hr=>h3 ⟨hb,hr⟩)))
    exact .inr (.inr (.inl hb))))
   clear b3 h1 h2 h3;clear HN QE QC QG uL HE2 yT HC2 DH HG2 X0 Y0;go_in;go_wp2;go_ret;exact⟨by rw[HR];rfl,HB⟩
  have b2:(level==vA)=false:=by rw[beq_eq_false_iff_ne];exact h2
  have HR:=ah (HN (.inr (.inl h2)));clear h1 h2;clear HN QE QC QG uL HE2 yT HC2 DH HG2 X0 Y0;go_in;go_wp2;go_ret;exact⟨by rw[HR];rfl,HB⟩
 have b1:(kind==AG)=false:=by rw[beq_eq_false_iff_ne];exact h1
 have HR:=ah (HN (.inl h1))
 clear h1
 clear HN QE QC QG uL HE2 yT HC2 DH HG2 X0 Y0
 go_in
 go_wp2
 go_ret
 exact⟨by rw[HR];rfl,HB⟩
variable{P:bi3}{m clock:Nat}{es:Array bk4}{T kt et:jH}{c:Int}{v:jD}
theorem Tz(hm:w.heap[m]? =some (.map es clock))(hk:P.underlying T=some (.map kt et))(hd:P.underlying kt=some (.int .i64))(hf:eI (.int .i64) (.int .i64 c) es.toList 0=some none):
 (fG T (.map (some m)) (.int .i64 c) v).run P w=.ok () (w.putObj m (.map (es.push {key:=.int .i64 c,val:=v,born:=clock}) (clock+1))):=by
 have h1:=Go.MapKept.run_checkKey (w:=w) hd (k:=.int .i64 c) rfl false 9999
 have h2:=Go.MapKept.run_findKey (w:=w) hd hf
 simp only[fG,eT,bi8 hk,dw,getObj,Sem.run,hm,h1,h2,setObj]
 rfl
theorem nW{W:jC}(hm:W.heap.size=m)(hk:P.underlying T=some (.map kt et))(hd:P.underlying kt=some (.int .i64))(hf:eI (.int .i64) (.int .i64 c) es.toList 0=some none):
 (fG T (.map (some m)) (.int .i64 c) v).run P (W.alloc (.map es clock))=.ok () (W.alloc (.map (es.push {key:=.int .i64 c,val:=v,born:=clock}) (clock+1))):=by
 subst hm
 rw[Tz (du _ _) hk hd hf]
 congr 1
 simp only[World.putObj,World.alloc]
 congr 1
 apply Array.ext'
 simp[Array.setIfInBounds,Array.toList_push]
theorem FY{i:Nat}(hm:w.heap[m]? =some (.map es clock))(hk:P.underlying T=some (.map kt et))(hd:P.underlying kt=some (.int .i64))(hf:eI (.int .i64) (.int .i64 c) es.toList 0=some (some (i,v))):
 (eU T (.map (some m)) (.int .i64 c) true).run P w=.ok (.tuple #[v,.bool true]) w:=by
 have h1:(Instr.checkKey es.isEmpty 10000 kt (.int .i64 c)).run P w=.ok () w:=Go.MapKept.run_checkKey (w:=w) hd (k:=.int .i64 c) rfl es.isEmpty 9999
 have h2:=Go.MapKept.run_findKey (w:=w) hd hf
 simp only[eU,eT,bi8 hk,dw,getObj,Sem.run,hm,fX,h1,h2]
 rfl
theorem BV{z:jD}(hm:w.heap[m]? =some (.map es clock))(hk:P.underlying T=some (.map kt et))(hd:P.underlying kt=some (.int .i64))(hf:eI (.int .i64) (.int .i64 c) es.toList 0=some none)(hz:(zeroValue et).run P w=.ok z w):
 (eU T (.map (some m)) (.int .i64 c) true).run P w=.ok (.tuple #[z,.bool false]) w:=by
 have h1:(Instr.checkKey es.isEmpty 10000 kt (.int .i64 c)).run P w=.ok () w:=Go.MapKept.run_checkKey (w:=w) hd (k:=.int .i64 c) rfl es.isEmpty 9999
 have h2:=Go.MapKept.run_findKey (w:=w) hd hf
 simp only[eU,eT,bi8 hk,dw,getObj,Sem.run,hm,fX,h1,h2,hz]
 rfl
def AF:Array bk4:=#[{key:=.int .i64 1,val:=.func (.func 157) #[] #[],born:=0},{key:=.int .i64 2,val:=.func (.func 158) #[] #[],born:=1},{key:=.int .i64 3,val:=.func (.func 159) #[] #[],born:=2}]
theorem NM(w:jC):jE Tryz.prog 111 #[] w fun e w'=>e=.returned (.map (some w))∧w'=w.alloc (.map AF 3):=by
 have q1:=fun v=>nW (P:=Tryz.prog) (W:=w) (T:=228) (c:=1) (v:=v) (es:=#[]) (clock:=0) rfl Tryz.underlying228 Tryz.underlying3 rfl;have q2:=fun v v'=>nW (P:=Tryz.prog) (W:=w) (T:=228) (c:=2) (v:=v) (es:=#[{key:=.int .i64 1,val:=v',born:=0}]) (clock:=1) rfl Tryz.underlying228 Tryz.underlying3 rfl;have q3:=fun v v' v''=>nW (P:=Tryz.prog) (W:=w) (T:=228) (c:=3) (v:=v) (es:=#[{key:=.int .i64 1,val:=v',born:=0},{key:=.int .i64 2,val:=v'',born:=1}]) (clock:=2) rfl Tryz.underlying228 Tryz.underlying3 rfl;simp only[fW,dz,dj,au,ao]at q1 q2 q3;have hmm:=@run_makeMap Tryz.prog;go_in;go_wp2;go_ret;exact⟨rfl,rfl⟩
def lQ(s:ByteArray):List Nat:=s.data.toList.map UInt8.toNat
theorem uB(s:ByteArray):Hl.bs (lQ s)=s:=by
 apply rX;show((s.data.toList.map UInt8.toNat).map gH).toArray.toList=s.data.toList;rw[fY];have:(gH∘UInt8.toNat)=id:=by funext x;simp
 rw[this,List.map_id]
theorem pu(s:ByteArray):Hl.Bytes (lQ s):=fun x hx=>by
 obtain⟨b,_,rfl⟩:=dq.1 hx;exact b.toNat_lt
theorem Kr(b:Int)(s:ByteArray)(w:jC):jE Tryz.prog 200 #[cO b s] w fun e w'=>e=.returned (.bool (Hl.kD b (lQ s)))∧Below w w w':=by
 have:=Hl.j_ b (lQ s) (pu s) w;rw[uB]at this;exact this
theorem Cn(m:SkM)(h0:m.s.level=0)(w:jC)(hm:jY w w m)(hf:t8 m.s):
 jE Tryz.prog 157 #[nT m] w fun r w'=>r=.returned (.tuple #[.iface 294 (eV m),.bool (Ex.kg m.s.e)])∧Below w w w':=by
 have HM:=ah hm
 have HF:=ah hf
 clear hm hf
 obtain⟨⟨kind,level,e,bits,regs,rows,cols,c,fine,g⟩,ea,ec,ca,cc,ga,gc⟩:=m
 simp only at h0
 subst h0
 have HB:=ah (jP (jQ w) (.cells #[jJ kind,jJ 0,jN ea e ec,jJ bits,jL regs,jJ rows,jJ cols,jN ca c cc,jJ fine,jN ga g gc] 233))
 have X0:=ah (jR.new w 233 #[jJ kind,jJ 0,jN ea e ec,jJ bits,jL regs,jJ rows,jJ cols,jN ca c cc,jJ fine,jN ga g gc])
 obtain⟨he,hc,hg⟩:=HM.later HB
 have HE:=ah he
 have HC:=ah hc
 have HG:=ah hg
 clear he hc hg HM
 unfold nT
 simp only
 go_in
 go_wp2_with fail
 generalize w.alloc (.cells #[jJ kind,jJ 0,jN ea e ec,jJ bits,jL regs,jJ rows,jJ cols,jN ca c cc,jJ fine,jN ga g gc] 233)=W1 at*
 have hxw:=X0.lt
 have x1:=ce X0 1
 have x2:=ce X0 2
 haveI hAW:=After.some W1
 have F1:=After.cell x1 hxw
 have F2:=After.cell x2 hxw
 have Q:Hid (∀y:After W1,jE Tryz.prog 199 #[dD ea e ec] y.at_ fun r w'=>r=.returned (.bool (Ex.kg e))∧Below y.at_.heap.size y.at_ w'):=fun y=>
  (Ex.j_ y.at_ y.at_.heap.size ea ec e ((Rd.below HE y.is).more y.is.size) aa (by have:=HF.e;simp only at this;omega)).mono fun _ _⟨h1,h2⟩=>⟨h1,h2▸jP (jQ _) _⟩
 refine rgb ?_
 repeat(go_big_quiet_step (first|with_reducible exact na (Q.out _)))
 refine bl0 ?_
 rintro w9⟨y9,Dd⟩
 have BI:(bB w w9):=HB.trans ((show Below W1 W1 w9 by rw[Dd];exact y9.is).mono HB.size)
 clear Dd y9
 go_wp2
 go_ret2
 exact⟨rfl,BI⟩
theorem Ck(m:SkM)(h0:1≤m.s.level∧m.s.level≤4)(w:jC)(hm:jY w w m)(hf:t8 m.s):
 jE Tryz.prog 157 #[nT m] w fun r w'=>r=.returned (.tuple #[.iface 297 (hV m),.bool (Hl.kD m.s.bits (lQ m.s.regs)&&m.s.bits==8-m.s.level)])∧Below w w w':=by
 have HM:=ah hm
 have HF:=ah hf
 clear hm hf
 obtain⟨⟨kind,level,e,bits,regs,rows,cols,c,fine,g⟩,ea,ec,ca,cc,ga,gc⟩:=m
 simp only at h0
 have HB:=ah (jP (jQ w) (.cells #[jJ kind,jJ level,jN ea e ec,jJ bits,jL regs,jJ rows,jJ cols,jN ca c cc,jJ fine,jN ga g gc] 233))
 have X0:=ah (jR.new w 233 #[jJ kind,jJ level,jN ea e ec,jJ bits,jL regs,jJ rows,jJ cols,jN ca c cc,jJ fine,jN ga g gc])
 obtain⟨he,hc,hg⟩:=HM.later HB
 have HE:=ah he
 have HC:=ah hc
 have HG:=ah hg
 clear he hc hg HM
 unfold nT
 simp only
 go_in
 go_wp2_with fail
 generalize w.alloc (.cells #[jJ kind,jJ level,jN ea e ec,jJ bits,jL regs,jJ rows,jJ cols,jN ca c cc,jJ fine,jN ga g gc] 233)=W1 at*
 have hxw:=X0.lt
 have x1:=ce X0 1
 have x3:=ce X0 3
 have x4:=ce X0 4
 haveI hAW:=After.some W1
 have F1:=After.cell x1 hxw
 have F3:=After.cell x3 hxw
 have F4:=After.cell x4 hxw
 obtain⟨rr,hrr⟩:∃rr,Hl.kD bits (lQ regs)=rr:=⟨_,rfl⟩
 have Q:Hid (∀y:After W1,jE Tryz.prog 200 #[cO bits regs] y.at_ fun r w'=>r=.returned (.bool rr)∧Below y.at_.heap.size y.at_ w'):=fun y=>hrr▸Kr bits regs y.at_
 have HRR:=ah hrr
 clear hrr
 rcases(by omega:level=1∨level=2∨level=3∨level=4)with rfl|rfl|rfl|rfl
 all_goals cases rr
 all_goals
  refine rgb ?_;repeat(go_big_quiet_step (first|with_reducible exact na (Q.out _)))
  refine bl0 ?_;rintro w9⟨y9,Dd⟩;have BI:(bB w w9):=HB.trans ((show Below W1 W1 w9 by rw[Dd];exact y9.is).mono HB.size);clear Dd y9;go_wp2;go_ret2;exact⟨by show _=ff (.tuple #[_,.bool (Hl.kD bits (lQ regs)&&_)]);rw[HRR];rfl,BI⟩
theorem Qx(m:SkM)(h0:0≤m.s.level∧m.s.level≤3)(w:jC)(hm:jY w w m)(hf:t8 m.s):
 jE Tryz.prog 159 #[nT m] w fun r w'=>r=.returned (.tuple #[.iface 300 (gV m),.bool (Hi.kg m.s.fine m.s.g&&m.s.fine==3-m.s.level)])∧Below w w w':=by
 have HM:=ah hm
 have HF:=ah hf
 clear hm hf
 obtain⟨⟨kind,level,e,bits,regs,rows,cols,c,fine,g⟩,ea,ec,ca,cc,ga,gc⟩:=m
 simp only at h0
 have HB:=ah (jP (jQ w) (.cells #[jJ kind,jJ level,jN ea e ec,jJ bits,jL regs,jJ rows,jJ cols,jN ca c cc,jJ fine,jN ga g gc] 233))
 have X0:=ah (jR.new w 233 #[jJ kind,jJ level,jN ea e ec,jJ bits,jL regs,jJ rows,jJ cols,jN ca c cc,jJ fine,jN ga g gc])
 obtain⟨he,hc,hg⟩:=HM.later HB
 have HE:=ah he
 have HC:=ah hc
 have HG:=ah hg
 clear he hc hg HM
 unfold nT
 simp only
 go_in
 go_wp2_with fail
 generalize w.alloc (.cells #[jJ kind,jJ level,jN ea e ec,jJ bits,jL regs,jJ rows,jJ cols,jN ca c cc,jJ fine,jN ga g gc] 233)=W1 at*
 have hxw:=X0.lt
 have x1:=ce X0 1
 have x8:=ce X0 8
 have x9:=ce X0 9
 haveI hAW:=After.some W1
 have F1:=After.cell x1 hxw
 have F8:=After.cell x8 hxw
 have F9:=After.cell x9 hxw
 obtain⟨rr,hrr⟩:∃rr,Hi.kg fine g=rr:=⟨_,rfl⟩
 have Q:Hid (∀y:After W1,jE Tryz.prog 202 #[.agg #[jJ fine,jN ga g gc]] y.at_ fun r w'=>r=.returned (.bool rr)∧Below y.at_.heap.size y.at_ w'):=fun y=>hrr▸Hi.j_ fine ga g gc HF.gu (by have:=HF.g;simp only at this;omega) y.at_ ((Rd.below HG y.is).more y.is.size)
 have HRR:=ah hrr
 clear hrr
 rcases(by omega:level=0∨level=1∨level=2∨level=3)with rfl|rfl|rfl|rfl
 all_goals cases rr
 all_goals
  refine rgb ?_;repeat(go_big_quiet_step (first|with_reducible exact na (Q.out _)))
  refine bl0 ?_;rintro w9⟨y9,Dd⟩;have BI:(bB w w9):=HB.trans ((show Below W1 W1 w9 by rw[Dd];exact y9.is).mono HB.size);clear Dd y9;go_wp2;go_ret2;exact⟨by show _=ff (.tuple #[_,.bool (Hi.kg fine g&&_)]);rw[HRR];rfl,BI⟩
theorem KZ(m:SkM)(h0:0≤m.s.level∧m.s.level≤3)(w:jC)(hm:jY w w m)(hf:t8 m.s):
 jE Tryz.prog 158 #[nT m] w fun r w'=>r=.returned (.tuple #[.iface 298 (cV m),.bool (Cm.kP m.s.rows m.s.cols m.s.c.length&&m.s.rows==2&&m.s.cols==32/2^m.s.level.toNat)])∧Below w w w':=by
 have HM:=ah hm
 have HF:=ah hf
 clear hm hf
 obtain⟨⟨kind,level,e,bits,regs,rows,cols,c,fine,g⟩,ea,ec,ca,cc,ga,gc⟩:=m
 simp only at h0
 have HB:=ah (jP (jQ w) (.cells #[jJ kind,jJ level,jN ea e ec,jJ bits,jL regs,jJ rows,jJ cols,jN ca c cc,jJ fine,jN ga g gc] 233))
 have X0:=ah (jR.new w 233 #[jJ kind,jJ level,jN ea e ec,jJ bits,jL regs,jJ rows,jJ cols,jN ca c cc,jJ fine,jN ga g gc])
 obtain⟨he,hc,hg⟩:=HM.later HB
 have HE:=ah he
 have HC:=ah hc
 have HG:=ah hg
 clear he hc hg HM
 unfold nT
 simp only
 go_in
 go_wp2_with fail
 generalize w.alloc (.cells #[jJ kind,jJ level,jN ea e ec,jJ bits,jL regs,jJ rows,jJ cols,jN ca c cc,jJ fine,jN ga g gc] 233)=W1 at*
 have hxw:=X0.lt
 have x1:=ce X0 1
 have x5:=ce X0 5
 have x6:=ce X0 6
 have x7:=ce X0 7
 haveI hAW:=After.some W1
 have F1:=After.cell x1 hxw
 have F5:=After.cell x5 hxw
 have F6:=After.cell x6 hxw
 have F7:=After.cell x7 hxw
 obtain⟨rr,hrr⟩:∃rr,Cm.kP rows cols c.length=rr:=⟨_,rfl⟩
 obtain⟨r2,b2⟩:∃r2,(rows==2)=r2:=⟨_,rfl⟩
 have Q:Hid (∀y:After W1,jE Tryz.prog 201 #[bR rows cols ca c cc] y.at_ fun r w'=>r=.returned (.bool rr)∧Below y.at_.heap.size y.at_ w'):=fun y=>hrr▸(Cm.j_ rows cols ca c.length cc y.at_).mono fun _ _⟨h1,h2⟩=>⟨h1,h2▸jP (jQ _) _⟩
 have HRR:=ah hrr
 have HB2:=ah b2
 clear hrr
 have h3:rr=false∨(rr=true∧r2=true)∨(rr=true∧r2=false):=by cases rr<;>cases r2<;>simp
 rcases(by omega:level=0∨level=1∨level=2∨level=3)with rfl|rfl|rfl|rfl
 all_goals rcases h3 with rfl|⟨rfl,rfl⟩|⟨rfl,rfl⟩
 all_goals
  refine rgb ?_;repeat(go_big_quiet_step (first|with_reducible exact na (Q.out _)))
  refine bl0 ?_;rintro w9⟨y9,Dd⟩;have nu:Below W1 W1 w9:=by rw[Dd];exact y9.is
  have BI:=ah (HB.trans (nu.mono HB.size));have X9:=ah (X0.later nu);clear Dd y9 nu;have z5:=ce X9 5;have z6:=ce X9 6;have z7:=ce X9 7;go_wp2;go_ret2;exact⟨by show _=ff (.tuple #[_,.bool (Cm.kP rows cols c.length&&rows==2&&_)]);rw[HRR,HB2];rfl,BI⟩
structure SaX(x0:Option jG)(x1:jC) where
def aX(x0:Option jG)(x1:jC):SaX x0 x1:=⟨⟩
instance(x0:Option jG)(x1:jC):CoeOut (SaX x0 x1) Prop:=⟨fun _=>∀ad,x0=some ad→x1.heap.size≤ad.block⟩
instance(x0:Option jG)(x1:jC):CoeSort (SaX x0 x1) Prop:=⟨fun _=>∀ad,x0=some ad→x1.heap.size≤ad.block⟩
structure ScZ(x0:Option jG)(x1:List Int)(x2:Nat) where
def cZ(x0:Option jG)(x1:List Int)(x2:Nat):ScZ x0 x1 x2:=⟨⟩
instance(x0:Option jG)(x1:List Int)(x2:Nat):CoeOut (ScZ x0 x1 x2) jD:=⟨fun _=>.slice x0 x1.length x2⟩
theorem Tryz.p_:(Tryz.prog.info? 22).map (fun i=>(i.zero,i.size,i.bytes))=some (some (.int .u64 0),1,8):=oo
theorem Tryz.Ez:(Tryz.prog.info? 303).map (fun i=>(i.zero,i.size,i.bytes))=some (some (.agg #[jJ 0,jK 0]),2,16):=oo
variable{n sz:Nat}{t:jH}{xs:List jD}
theorem li(h:w.ownsRow B t sz v n xs):∃A c,v=.slice A n c∧n≤c∧Rd w w A xs∧∀ad,A=some ad→B≤ad.block:=by
 obtain⟨h1,⟨h,e⟩|⟨g,cap,cur,hv,hb,hh,hnc,hcm,hcs,htk⟩⟩:=h
 ·subst e;rw[fh]at h1;have:xs=[]:=da h1;subst this;exact⟨none,0,h,ay _,Rd.none_,fun _ e=>LS⟩
 refine⟨_,cap,hv,hnc,fun _=>⟨g,0,rfl,(aw.1 hh).1,fun j u hj=>?_⟩,fun _ e=>by cases e;exact hb⟩;rw[au];have hx:cur[j]? =some u:=by
  rw[←htk,gJ]at hj;split at hj
  ·rw[←Array.getElem?_toList];exact hj
  cases hj
 exact(jR.cell (show jR w g t cur from hh) j).trans hx
theorem Oi{l:Hi.jX}:∀u∈Hi.mD l,u.oneCell'=true:=fun u hu=>by
 unfold Hi.mD at hu;obtain⟨x,_,hu⟩:=ir.1 hu;simp at hu;rcases hu with rfl|rfl<;>rfl
theorem Oh{l:List kI}:∀u∈k_ l,u.oneCell'=true:=fun u hu=>by
 unfold k_ at hu;obtain⟨x,_,hu⟩:=ir.1 hu;simp at hu;rcases hu with rfl|rfl<;>rfl
theorem pq(A:Option jG)(l:List Int)(cap:Nat)(hl:l.length≤1000000)(w:jC)(hS:Sl w w A l):
 jE Tryz.prog 163 #[jN A l cap] w fun e w'=>(∃A' c',e=.returned (cZ A' l c')∧Sl w' w' A' l∧(aX A' w))∧Below w w w':=by
 obtain⟨i0,hi0,hz0,hz1,hz2⟩:=bi5 Tryz.p_
 have q22:∀(w:jC)(a:Option jG)(n c n' c':Nat),(binOp .eql 33 (.slice a n c) (.slice none n' c')).run Tryz.prog w=.ok (.bool a.isNone) w:=fun w a n c n' c'=>fR w _ _ a n c n' c' Tryz.underlying33
 have HS:=ah hS
 have HN:Hid (A=none→l=[]):=fun e=>by
  subst e
  cases l with
  |nil=>rfl
  |cons x r=>
   obtain⟨_,_,h,_⟩:=hS lV
   cases h
 clear hS
 cases A with
 |none=>
  obtain rfl:=HN rfl;go_in;go_wp2;go_ret;exact⟨⟨none,⟨0,rfl⟩,Rd.none_,fun _ e=>LS⟩,jQ _⟩
 |some ad=>
  go_in;go_wp2_with(at_builtin;refine kr _ rfl _ _ 33 rfl w 22 i0 (.int .u64 0) 1 8 Tryz.underlying33 hi0 hz0 hz1 hz2 rfl B8 _ 0 _ rfl (gO w #[] 0 aa (be _) lV) _ _ l.length cap (l.map (br .u64)) rfl lV (Rd.below HS (jP (jQ w) _)) (fun u hu=>by obtain⟨x,_,rfl⟩:=dq.1 hu;rfl) O0 jS lV ?_;intro v' w1 hown hgrow hnil);obtain⟨A2,c2,rfl,hc2,hr2,ha2⟩:=li hown;go_wp2;go_ret;rw[au];simp only[fO,gP,iT,dz,fh]at hr2;exact⟨⟨A2,c2,rfl,hr2,ha2⟩,((Below.refl _ w).alloc aa _).grown hgrow lV (by intro k hk;cases hk;exact ay _)⟩
theorem Bi(A:Option jG)(l:List kI)(cap:Nat)(hl:l.length≤1000000)(w:jC)(hS:Lb w w A l):
 jE Tryz.prog 184 #[jN A l cap] w fun e w'=>(∃A' c',e=.returned (.slice A' l.length c')∧Lb w' w' A' l∧(aX A' w))∧Below w w w':=by
 obtain⟨i0,hi0,hz0,hz1,hz2⟩:=bi5 Tryz.Mc
 have q22:∀(w:jC)(a:Option jG)(n c n' c':Nat),(binOp .eql 72 (.slice a n c) (.slice none n' c')).run Tryz.prog w=.ok (.bool a.isNone) w:=fun w a n c n' c'=>fR w _ _ a n c n' c' Tryz.underlying72
 have HS:=ah hS
 have HN:Hid (A=none→l=[]):=fun e=>by
  subst e
  cases l with
  |nil=>rfl
  |cons x r=>
   obtain⟨_,_,h,_⟩:=hS (by simp[k_])
   cases h
 clear hS
 cases A with
 |none=>
  obtain rfl:=HN rfl;go_in;go_wp2;go_ret;exact⟨⟨none,⟨0,rfl⟩,Rd.none_,fun _ e=>LS⟩,jQ _⟩
 |some ad=>
  go_in;go_wp2_with(at_builtin;refine kr _ rfl _ _ 72 rfl w 71 i0 (.agg #[aF,aF]) 2 32 Tryz.underlying72 hi0 hz0 hz1 hz2 rfl B8 _ 0 _ rfl (gO w #[] 0 aa (be _) lV) _ _ l.length cap (k_ l) rfl (by rw[sj];omega) (Rd.below HS (jP (jQ w) _)) Oh O0 jS lV ?_;intro v' w1 hown hgrow hnil);obtain⟨A2,c2,rfl,hc2,hr2,ha2⟩:=li hown;go_wp2;go_ret;rw[au];simp only[fO,gP,iT,dz,fh]at hr2;exact⟨⟨A2,c2,rfl,hr2,ha2⟩,((Below.refl _ w).alloc aa _).grown hgrow lV (by intro k hk;cases hk;exact ay _)⟩
theorem vI(A:Option jG)(l:Hi.jX)(cap:Nat)(hl:l.length≤1000000)(w:jC)(hS:Hi.Sb w w A l):
 jE Tryz.prog 164 #[jN A l cap] w fun e w'=>(∃A' c',e=.returned (.slice A' l.length c')∧Hi.Sb w' w' A' l∧(aX A' w))∧Below w w w':=by
 obtain⟨i0,hi0,hz0,hz1,hz2⟩:=bi5 Tryz.Ez
 have q22:∀(w:jC)(a:Option jG)(n c n' c':Nat),(binOp .eql 132 (.slice a n c) (.slice none n' c')).run Tryz.prog w=.ok (.bool a.isNone) w:=fun w a n c n' c'=>fR w _ _ a n c n' c' Tryz.underlying132
 have HS:=ah hS
 have HN:Hid (A=none→l=[]):=fun e=>by
  subst e
  cases l with
  |nil=>rfl
  |cons x r=>
   obtain⟨_,_,h,_⟩:=hS (by simp[Hi.mD])
   cases h
 clear hS
 cases A with
 |none=>
  obtain rfl:=HN rfl;go_in;go_wp2;go_ret;exact⟨⟨none,⟨0,rfl⟩,Rd.none_,fun _ e=>LS⟩,jQ _⟩
 |some ad=>
  go_in;go_wp2_with(at_builtin;refine kr _ rfl _ _ 132 rfl w 303 i0 (.agg #[jJ 0,jK 0]) 2 16 Tryz.underlying132 hi0 hz0 hz1 hz2 rfl B8 _ 0 _ rfl (gO w #[] 0 aa (be _) lV) _ _ l.length cap (Hi.mD l) rfl (by rw[Hi.ws];omega) (Rd.below HS (jP (jQ w) _)) Oi O0 jS lV ?_;intro v' w1 hown hgrow hnil);obtain⟨A2,c2,rfl,hc2,hr2,ha2⟩:=li hown;go_wp2;go_ret;rw[au];simp only[fO,gP,iT,dz,fh]at hr2;exact⟨⟨A2,c2,rfl,hr2,ha2⟩,((Below.refl _ w).alloc aa _).grown hgrow lV (by intro k hk;cases hk;exact ay _)⟩
structure SbD where
def bD:SbD:=⟨⟩
instance:CoeOut SbD jD:=⟨fun _=>.pointer (some ⟨4,346,none⟩)⟩
structure SbO where
def bO:SbO:=⟨⟩
instance:CoeOut SbO jD:=⟨fun _=>.pointer (some ⟨4,223,none⟩)⟩
structure SbT(x0:jG) where
def bT(x0:jG):SbT x0:=⟨⟩
instance(x0:jG):CoeOut (SbT x0) jD:=⟨fun _=>.pointer (some x0)⟩
structure ScC(x0:jC) where
def cC(x0:jC):ScC x0:=⟨⟩
instance(x0:jC):CoeOut (ScC x0) Nat:=⟨fun _=>x0.heap.size+1+1+1⟩
instance:CoeOut (Cp 26) jD:=⟨fun _=>.iface 412 (.agg #[.pointer (some ⟨4,171,none⟩)])⟩
open Go.RowKit Go.Extern.Stop Go.Stop Go.Extern
theorem as_nil(t:jD)(w:jC):
 jE Tryz.prog 197 #[.nilIface,t] w fun e w'=>e=.returned (.bool false)∧w'=w:=by
 go_in
 go_wp2
 go_ret
 exact⟨rfl,rfl⟩
theorem Ty.valueOf27(t:jG)(w:jC):(ReflectliteValue.unpack (.iface 346 (bT t))).run Tryz.prog w
 =.ok (.agg #[bD,jO w,jK 150]) (w.alloc (.cells #[bT t] 346)):=oo
theorem Ty.type27(a:jG)(w:jC):(ReflectliteValue.methodAny (ReflectliteValue.valueError "reflectlite.Value.Type" 0) (fun t _ _ _=>ReflectliteType.toType t) #[.agg #[bD,bT a,jK 150]]).run Tryz.prog w
 =.ok (.iface 412 (.agg #[bD])) w:=oo
theorem Ty.methodKind(h:jD)(w:jC):(gz 640 412 (.agg #[h]) "Kind").run Tryz.prog w=.ok (277,h) w:=oo
theorem Ty.kind27(w:jC):((ReflectliteType.abiMethod fun t=>Functor.map (fun a:Nat=>br IntKind.u8 (a:Int)) (Rtype.kind t)) #[bD]).run Tryz.prog w=.ok (.int .u8 22) w:=oo
theorem Ty.kind25(w:jC):((ReflectliteType.abiMethod fun t=>Functor.map (fun a:Nat=>br IntKind.u8 (a:Int)) (Rtype.kind t)) #[bO]).run Tryz.prog w=.ok (.int .u8 22) w:=oo
theorem rlm(z:Sem jD)(f:jH→jG→Nat→Nat→Sem jD)(v:jD):
 ReflectliteValue.method z f #[v]=(do match ←ReflectliteValue.parts v with|none=>z|some (t,a,fl)=>f t a fl (fl%32)):=rfl
theorem Ty.parts27(a:jG)(w:jC):(ReflectliteValue.parts (.agg #[bD,bT a,jK 150])).run Tryz.prog w=.ok (some (346,a,150)) w:=oo
theorem Ty.isNil27(a p:jG)(W:jC)(ha:W.cell? a=some (bT p)):
 (ReflectliteValue.method (ReflectliteValue.valueError "reflectlite.Value.IsNil" 0) ReflectliteValue.isNil #[.agg #[bD,bT a,jK 150]]).run Tryz.prog W=.ok (.bool false) W:=by
 rw[rlm]
 simp only[eT,Ty.parts27,dw]
 simp[ReflectliteValue.isNil,loadVar,isAgg,underlying,Tryz.underlying346,ha,dw]
theorem Ty.methodElem(h:jD)(w:jC):(gz 640 412 (.agg #[h]) "Elem").run Tryz.prog w=.ok (391,.agg #[h]) w:=oo
theorem Ty.methodImplements(h:jD)(w:jC):(gz 640 412 (.agg #[h]) "Implements").run Tryz.prog w=.ok (392,.agg #[h]) w:=oo
theorem Ty.methodAssignableTo(h:jD)(w:jC):(gz 640 412 (.agg #[h]) "AssignableTo").run Tryz.prog w=.ok (389,.agg #[h]) w:=oo
theorem Ty.elem27(w:jC):(ReflectliteType.method ReflectliteType.elem #[.agg #[bD]]).run Tryz.prog w=.ok (.iface 412 (.agg #[bO])) w:=oo
theorem Ty.implements25(w:jC):(ReflectliteType.relation "Implements" ReflectliteType.implements_ #[.agg #[bO],rO 26]).run Tryz.prog w=.ok (.bool true) w:=oo
theorem Ty.typeOf25(v:jD)(w:jC):(ReflectliteType.typeOf #[.iface 223 v]).run Tryz.prog w=.ok (.iface 412 (.agg #[bO])) w:=oo
theorem Ty.assignable25(w:jC):(ReflectliteType.relation "AssignableTo" ReflectliteType.assignableTo #[.agg #[bO],.iface 412 (.agg #[bO])]).run Tryz.prog w=.ok (.bool true) w:=oo
theorem Ty.valueOf25(e:jG)(w:jC):(ReflectliteValue.unpack (.iface 223 (bT e))).run Tryz.prog w
 =.ok (.agg #[bO,jO w,jK 150]) (w.alloc (.cells #[bT e] 223)):=oo
theorem Ty.elemOf27(w:jC):(Rtype.elem? 346).run Tryz.prog w=.ok (some 223) w:=oo
theorem Ty.mk25(p:jG)(w:jC):(ReflectliteValue.mk 223 p ReflectliteValue.flagAddr).run Tryz.prog w=.ok (.agg #[bO,bT p,jK 406]) w:=oo
theorem Ty.elemV27(a p:jG)(W:jC)(ha:W.cell? a=some (bT p)):
 (ReflectliteValue.method (ReflectliteValue.valueError "reflectlite.Value.Elem" 0) ReflectliteValue.elem #[.agg #[bD,bT a,jK 150]]).run Tryz.prog W
  =.ok (.agg #[bO,bT p,jK 406]) W:=by
 rw[rlm]
 simp only[eT,Ty.parts27,dw]
 simp[ReflectliteValue.elem,loadVar,isAgg,underlying,Tryz.underlying346,ha,dw,Ty.elemOf27,Ty.mk25]
theorem rls(v x:jD):ReflectliteValue.set #[v,x]=(do
 let(some (dst,a,fl),some (src,b,_)):=(←ReflectliteValue.parts v,←ReflectliteValue.parts x)
  |unsupported (.noEntry "extern/(internal/reflectlite.Value).Set.zeroValue")
 if fl/ReflectliteValue.flagAddr%2==0 then unsupported (.noEntry "extern/(internal/reflectlite.Value).Set.unaddressable")
 let val ←loadVar src b
 if ←Rtype.directlyAssignable dst src then storeVar dst a val
 else if ←Rtype.implements dst src then
  if(←Rtype.kind src)==20 then
   match val with
   |.nilIface=>unsupported (.noEntry "extern/reflectlite: a nil value of one interface type handed on as a value of another")
   |_=>storeVar dst a val
  else storeVar dst a (.iface src val)
 else panicString ("reflectlite.Set: value of type "++(←Rtype.spelt src)++ " is not assignable to type "++(←Rtype.spelt dst))
 pure (.tuple #[])):=rfl
theorem Ty.parts25a(a:jG)(w:jC):(ReflectliteValue.parts (.agg #[bO,bT a,jK 406])).run Tryz.prog w=.ok (some (223,a,406)) w:=oo
theorem Ty.parts25(a:jG)(w:jC):(ReflectliteValue.parts (.agg #[bO,bT a,jK 150])).run Tryz.prog w=.ok (some (223,a,150)) w:=oo
theorem Ty.direct25(w:jC):(Rtype.directlyAssignable 223 223).run Tryz.prog w=.ok true w:=oo
theorem Ty.set25(ta b e:jG)(old:jD)(W:jC)(hb:W.cell? b=some (bT e))(ht:W.cell? ta=some old)(hf:W.frozen? ta=false):
 (ReflectliteValue.set #[.agg #[bO,bT ta,jK 406],.agg #[bO,bT b,jK 150]]).run Tryz.prog W
  =.ok (.tuple #[]) (W.setCell ta (bT e)):=by
 rw[rls]
 simp only[eT,Ty.parts25a,Ty.parts25,dw]
 simp[ReflectliteValue.flagAddr,loadVar,isAgg,underlying,Tryz.underlying223,hb,dw,Ty.direct25,storeVar,Value.cells,storeCells,iU]
 rw[run_store Tryz.prog W ta _ _ (by rfl)]
 simp[ht,hf]
theorem as_hit(e t:jG)(old:jD)(w:jC)(hg:w.cell? ⟨1,0,none⟩=some (rO 26))(ht0:w.cell? t=some old)(hf0:w.frozen? t=false):
 jE Tryz.prog 197 #[.iface 223 (bT e),.iface 346 (bT t)] w fun ev w'=>ev=.returned (.bool true)∧w'=((((w.alloc (.cells #[bT t] 346)).alloc (.cells #[bD,jO w,jK 150] 375)).alloc (.cells #[bD,jO w,jK 150] 375)).alloc (.cells #[bT e] 223)).setCell t (bT e):=by
 have h6:=@run_callFunc_extern Tryz.prog 234 _ (fun args=>ReflectliteValue.unpack (args.getD 0 (.tuple #[]))) Tryz.func234 oo oo oo oo
 have h7:=@run_callFunc_extern Tryz.prog 235 _ (ReflectliteValue.methodAny (ReflectliteValue.valueError "reflectlite.Value.Type" 0) (fun t _ _ _=>ReflectliteType.toType t)) Tryz.func235 oo oo oo oo
 have h8:=@run_callFunc_extern Tryz.prog 236 _ (ReflectliteValue.method (ReflectliteValue.valueError "reflectlite.Value.IsNil" 0) ReflectliteValue.isNil) Tryz.func236 oo oo oo oo
 have h27:=@run_callFunc_extern Tryz.prog 277 _ (ReflectliteType.abiMethod fun t=>do pure (.int .u8 (←Rtype.kind t))) Tryz.func277 oo oo oo oo
 have h37:=@run_callFunc_extern Tryz.prog 391 _ (ReflectliteType.method ReflectliteType.elem) Tryz.func391 oo oo oo oo
 have h38:=@run_callFunc_extern Tryz.prog 392 _ (ReflectliteType.relation "Implements" ReflectliteType.implements_) Tryz.func392 oo oo oo oo
 have h10:=@run_callFunc_extern Tryz.prog 255 _ ReflectliteType.typeOf Tryz.func255 oo oo oo oo
 have h35:=@run_callFunc_extern Tryz.prog 389 _ (ReflectliteType.relation "AssignableTo" ReflectliteType.assignableTo) Tryz.func389 oo oo oo oo
 have h11:=@run_callFunc_extern Tryz.prog 256 _ (ReflectliteValue.method (ReflectliteValue.valueError "reflectlite.Value.Elem" 0) ReflectliteValue.elem) Tryz.func256 oo oo oo oo
 have h12:=@run_callFunc_extern Tryz.prog 257 _ ReflectliteValue.set Tryz.func257 oo oo oo oo
 have tO:=Ty.typeOf25
 have mA:=Ty.methodAssignableTo
 have a25:=Ty.assignable25
 have v25:=Ty.valueOf25
 have f6:=Ty.valueOf27
 have f7:=Ty.type27
 have mK:=Ty.methodKind
 have mE:=Ty.methodElem
 have mI:=Ty.methodImplements
 have k27:=Ty.kind27
 have k25:=Ty.kind25
 have e27:=Ty.elem27
 have i25:=Ty.implements25
 have n8:=Ty.isNil27 ⟨w,0,none⟩ t ((w.alloc (.cells #[bT t] 346)).alloc (.cells #[bD,jO w,jK 150] 375)) lV
 have hlt:1<w.heap.size:=b8 w ⟨1,0,none⟩ hg
 have hg2:((w.alloc (.cells #[bT t] 346)).alloc (.cells #[bD,jO w,jK 150] 375)).cell? ⟨1,0,none⟩=some (rO 26):=by
  rw[dt _ _ ⟨1,0,none⟩ mO,dt _ _ ⟨1,0,none⟩ hlt];exact hg
 have htl:t.block<w.heap.size:=by
  rcases fB t.block w with h|h
  ·exact h
  simp[fJ,fH h]at ht0
 have el:=Ty.elemV27 ⟨w,0,none⟩ t (((w.alloc (.cells #[bT t] 346)).alloc (.cells #[bD,jO w,jK 150] 375)).alloc (.cells #[bD,jO w,jK 150] 375)) (by rw[dt _ _ ⟨w,0,none⟩ mO];simp)
 have st:=Ty.set25 t ⟨cC w,0,none⟩ e old ((((w.alloc (.cells #[bT t] 346)).alloc (.cells #[bD,jO w,jK 150] 375)).alloc (.cells #[bD,jO w,jK 150] 375)).alloc (.cells #[bT e] 223))
  (by rw[World.cell?_alloc_at _ _ _ _ lV];rfl)
  (by rw[dt _ _ t mO,dt _ _ t mO,dt _ _ t mO,dt _ _ t htl];exact ht0)
  (by rw[gA _ _ t mO,gA _ _ t mO,gA _ _ t mO,gA _ _ t (Nat.ne_of_lt htl)];exact hf0)
 go_in
 go_wp2
 refine bj8 1 ?_
 rw[bi9]
 go_wp2
 go_ret
 exact⟨rfl,rfl⟩
def Er(w:jC):Prop:=w.cell? ⟨1,0,none⟩=some (rO 26)
theorem Er.later(h:Er w)(hb:Below w w w'):Er w':=(hb.cell (p:=⟨1,0,none⟩) (b8 w _ h)).trans h
theorem oy(b:jD)(w:jC):jE Tryz.prog 289 #[b,jJ 0] w fun e w'=>e=.returned (.tuple #[b,.nilIface])∧w'=w:=by
 go_in;go_wp2;go_ret2;exact⟨rfl,rfl⟩
theorem LG(b:jD)(w:jC):jE Tryz.prog 289 #[b,jJ 60] w fun e w'=>e=.returned (.tuple #[.nilIface,.iface 223 (.pointer (aM w))])∧w'=w.alloc (.cells #[jJ 60] 225):=by
 go_in;go_wp2;go_ret2;exact⟨rfl,rfl⟩
theorem Om(w:jC):jE Tryz.prog 154 #[.nilIface] w fun e w'=>e=.returned (.int .i64 0)∧Below w w w':=by
 go_in;go_wp2_with fail;refine(as_nil _ _).mono ?_;rintro e w1⟨rfl,rfl⟩;go_wp2;go_ret;exact⟨rfl,jP (jQ w) _⟩
theorem On(b:Nat)(no:Int)(w:jC)(hE:Er w)(hp:w.cell? ⟨b,0,none⟩=some (.int .i64 no)):jE Tryz.prog 154 #[.iface 223 (.pointer (aC b))] w fun e w'=>e=.returned (.int .i64 no)∧Below w w w':=by
 have hlt:b<w.heap.size:=b8 w _ hp;have h1:=(hE.later (jP (jQ w) (.cells #[.pointer none] 223)));have hc:(w.alloc (.cells #[.pointer none] 223)).cell? ⟨w,0,none⟩=some (.pointer none):=lV;have hf:(w.alloc (.cells #[.pointer none] 223)).frozen? ⟨w,0,none⟩=false:=lV;have HA:=ah (as_hit ⟨b,0,none⟩ ⟨w,0,none⟩ _ _ h1 hc hf);clear h1 hc hf;go_in;go_wp2_with fail;refine HA.mono ?_;rintro e w1⟨rfl,hw⟩;have H:Hid (Hold w w1 [(w,223,[jO b])]):=by rw[hw];exact((((((Hold.nil w).alloc w 223 [.pointer none]).al _).al _).al _).al _).put 0 0 (.pointer (aC b))
 clear hw HA;have hc:=(H.below.cell (p:=⟨b,0,none⟩) hlt).trans hp;have hx:=H.facts;simp only[Facts,kz]at hx;go_wp2;go_ret;exact⟨rfl,H.below⟩
theorem AI(w:jC):jE Tryz.prog 156 #[.nilIface] w fun e w'=>e=.returned (.bool false)∧Below w w w':=by
 go_in;go_wp2_with fail;refine(Om w).mono ?_;rintro e w1⟨rfl,hb⟩;go_wp2;go_ret;exact⟨rfl,hb⟩
theorem Db(b:Nat)(w:jC)(hE:Er w)(hp:w.cell? ⟨b,0,none⟩=some (.int .i64 60)):jE Tryz.prog 156 #[.iface 223 (.pointer (aC b))] w fun e w'=>e=.returned (.bool true)∧Below w w w':=by
 have H:=ah (On b 60 w hE hp);clear hE hp;go_in;go_wp2_with fail;refine H.mono ?_;rintro e w1⟨rfl,hb⟩;go_wp2;go_ret;exact⟨rfl,hb⟩
structure ScX where
def cX:ScX:=⟨⟩
instance:CoeOut ScX jD:=⟨fun _=>.agg #[jJ 0,jJ 0,jM]⟩
def kN(k l:Int):Sk:=⟨k,l,[],0,⟨#[]⟩,0,0,[],0,[]⟩
structure Fr(B:Nat)(m:SkM):Prop where
 e:∀ad,m.ea=some ad→B≤ad.block
 c:∀ad,m.ca=some ad→B≤ad.block
 g:∀ad,m.ga=some ad→B≤ad.block
theorem Fr.mono{B':Nat}{m:SkM}(h:Fr B m)(hb:B'≤B):Fr B' m:=⟨fun a e=>a_ hb (h.e a e),fun a e=>a_ hb (h.c a e),fun a e=>a_ hb (h.g a e)⟩
def wT(w:jC)(s:Sk)(e:bi6)(w':jC):Prop:=∃m:SkM,m.s=s∧e=.returned (nT m)∧jY w' w' m∧Fr w m∧Below w w w'
abbrev xl(k l:Int):List jD:=[jJ k,jJ l,jM,jJ 0,aF,jJ 0,jJ 0,jM,jJ 0,jM]
theorem yq(A:Option jG)(l:List Int)(cap:Nat)(k lv:Int)(hl:l.length≤1000)(w:jC)(hS:Sl w w A l):
 jE Tryz.prog 114 #[.agg #[.iface 294 (dD A l cap),jJ k,jJ lv]] w (wT w {kN k lv with e:=l}):=by
 have Pr:∀w,(dd (.iface 294 (dD A l cap)) 167 294 true).run Tryz.prog w=.ok (.tuple #[dD A l cap,.bool true]) w:=fun _=>oo
 go_in
 go_wp2_with fail
 have H:=ah (((((Hold.nil w).alloc w 169 [.iface 294 (dD A l cap),jJ k,jJ lv]).alloc (w.heap.size+1) 136 (xl 0 0)).alloc (aN w) 136 (xl k lv)).alloc (cC w) 294 [jN A l cap])
 refine(pq A l cap jS _ ((Rd.below hS H.below).more H.size)).mono ?_
 rintro e w1⟨⟨A1,c1,rfl,hs1,ha1⟩,hb1⟩
 replace H:=ah (H.call hb1)
 have hf:=H.facts
 simp only[Facts,kz,au,ao]at hf
 have hne:∀g,g≤w.heap.size+1+1→∀ad,A1=some ad→ad.block≠g:=fun g hg ad e=>by
  have:=ha1 ad e;simp at this;omega
 have hlo:∀ad,A1=some ad→w.heap.size≤ad.block:=fun ad e=>by
  have:=ha1 ad e;simp at this;omega
 go_wp2_with fail
 have HR:=aS ((H.put 1 2 (cZ A1 l c1)).all 2 [jJ k,jJ lv,jN A1 l c1,jJ 0,aF,jJ 0,jJ 0,jM,jJ 0,jM])
 have hs2:=aS (xr (hne (w.heap.size+1) jS) [jJ k,jJ lv,jN A1 l c1,jJ 0,aF,jJ 0,jJ 0,jM,jJ 0,jM] 0 (mi (o:=2) (u:=(cZ A1 l c1)) hs1 (hne (aN w) jS)))
 refine kw (fun V=>Sl V V A1 l) HR hs2 (fun V HV hs9=>?_)
 clear hf H hb1 HR hs2
 have hf:=HV.at_ 2
 simp only[kz,au,ao]at hf
 refine jF (v:=.agg #[jJ k,jJ lv,jN A1 l c1,jJ 0,aF,jJ 0,jJ 0,jM,jJ 0,jM]) (by simp[results,Tryz.results114,go_sem,hf]) rfl ?_
 exact⟨⟨{kN k lv with e:=l},A1,c1,none,0,none,0⟩,rfl,rfl,⟨hs9,Rd.none_,Rd.none_⟩,⟨hlo,fun _ e=>LS,fun _ e=>LS⟩,HV.below⟩
theorem yo(b:Int)(s:ByteArray)(k lv:Int)(w:jC):
 jE Tryz.prog 114 #[.agg #[.iface 297 (cO b s),jJ k,jJ lv]] w (wT w {kN k lv with bits:=b,regs:=s}):=by
 have Pr:∀w,(dd (.iface 297 (cO b s)) 167 294 true).run Tryz.prog w=.ok (.tuple #[.agg #[jM],.bool false]) w:=fun _=>oo
 have VO:∀w,(dd (.iface 297 (cO b s)) 167 297 true).run Tryz.prog w=.ok (.tuple #[cO b s,.bool true]) w:=fun _=>oo
 go_in
 go_wp2_with fail
 refine kw (fun _=>True) (((((Hold.nil w).alloc w 169 [.iface 297 (cO b s),jJ k,jJ lv]).alloc (w.heap.size+1) 136 [jJ k,jJ lv,jM,jJ b,jL s,jJ 0,jJ 0,jM,jJ 0,jM]).alloc (aN w) 136 ([jJ k,jJ lv,jM,jJ b,jL s,jJ 0,jJ 0,jM,jJ 0,jM])).alloc (cC w) 297 [jJ b,jL s]) trivial (fun V HV _=>?_)
 have hf:=HV.at_ 2
 simp only[kz,au,ao]at hf
 refine jF (v:=.agg #[jJ k,jJ lv,jM,jJ b,jL s,jJ 0,jJ 0,jM,jJ 0,jM]) (by simp[results,Tryz.results114,go_sem,hf]) rfl ?_
 exact⟨⟨{kN k lv with bits:=b,regs:=s},none,0,none,0,none,0⟩,rfl,rfl,⟨Rd.none_,Rd.none_,Rd.none_⟩,⟨fun _ e=>LS,fun _ e=>LS,fun _ e=>LS⟩,HV.below⟩
theorem yu(r c:Int)(A:Option jG)(l:List Int)(cap:Nat)(k lv:Int)(hl:l.length≤1000)(w:jC)(hS:Sl w w A l):
 jE Tryz.prog 114 #[.agg #[.iface 298 (bR r c A l cap),jJ k,jJ lv]] w (wT w {kN k lv with rows:=r,cols:=c,c:=l}):=by
 have Pr:∀w,(dd (.iface 298 (bR r c A l cap)) 167 294 true).run Tryz.prog w=.ok (.tuple #[.agg #[jM],.bool false]) w:=fun _=>oo
 have VO:∀w,(dd (.iface 298 (bR r c A l cap)) 167 297 true).run Tryz.prog w=.ok (.tuple #[.agg #[jJ 0,aF],.bool false]) w:=fun _=>oo
 have ZI:∀w,(dd (.iface 298 (bR r c A l cap)) 167 298 true).run Tryz.prog w=.ok (.tuple #[bR r c A l cap,.bool true]) w:=fun _=>oo
 go_in
 go_wp2_with fail
 have H:=ah (((((Hold.nil w).alloc w 169 [.iface 298 (bR r c A l cap),jJ k,jJ lv]).alloc (w.heap.size+1) 136 (xl 0 0)).alloc (aN w) 136 ([jJ k,jJ lv,jM,jJ 0,aF,jJ r,jJ c,jN A l cap,jJ 0,jM])).alloc (cC w) 298 [jJ r,jJ c,jN A l cap])
 refine(pq A l cap jS _ ((Rd.below hS H.below).more H.size)).mono ?_
 rintro e w1⟨⟨A1,c1,rfl,hs1,ha1⟩,hb1⟩
 replace H:=ah (H.call hb1)
 have hf:=H.facts
 simp only[Facts,kz,au,ao]at hf
 have hne:∀g,g≤w.heap.size+1+1→∀ad,A1=some ad→ad.block≠g:=fun g hg ad e=>by
  have:=ha1 ad e;simp at this;omega
 have hlo:∀ad,A1=some ad→w.heap.size≤ad.block:=fun ad e=>by
  have:=ha1 ad e;simp at this;omega
 go_wp2_with fail
 have HR:=aS ((H.put 1 7 (cZ A1 l c1)).all 2 [jJ k,jJ lv,jM,jJ 0,aF,jJ r,jJ c,jN A1 l c1,jJ 0,jM])
 have hs2:=aS (xr (hne (w.heap.size+1) jS) [jJ k,jJ lv,jM,jJ 0,aF,jJ r,jJ c,jN A1 l c1,jJ 0,jM] 0 (mi (o:=7) (u:=(cZ A1 l c1)) hs1 (hne (aN w) jS)))
 refine kw (fun V=>Sl V V A1 l) HR hs2 (fun V HV hs9=>?_)
 clear hf H hb1 HR hs2
 have hf:=HV.at_ 2
 simp only[kz,au,ao]at hf
 refine jF (v:=.agg #[jJ k,jJ lv,jM,jJ 0,aF,jJ r,jJ c,jN A1 l c1,jJ 0,jM]) (by simp[results,Tryz.results114,go_sem,hf]) rfl ?_
 exact⟨⟨{kN k lv with rows:=r,cols:=c,c:=l},none,0,A1,c1,none,0⟩,rfl,rfl,⟨Rd.none_,hs9,Rd.none_⟩,⟨fun _ e=>LS,hlo,fun _ e=>LS⟩,HV.below⟩
theorem yp(f:Int)(A:Option jG)(l:Hi.jX)(cap:Nat)(k lv:Int)(hl:l.length≤1000)(w:jC)(hS:Hi.Sb w w A l):
 jE Tryz.prog 114 #[.agg #[.iface 300 (.agg #[jJ f,jN A l cap]),jJ k,jJ lv]] w (wT w {kN k lv with fine:=f,g:=l}):=by
 have Pr:∀w,(dd (.iface 300 (.agg #[jJ f,jN A l cap])) 167 294 true).run Tryz.prog w=.ok (.tuple #[.agg #[jM],.bool false]) w:=fun _=>oo
 have VO:∀w,(dd (.iface 300 (.agg #[jJ f,jN A l cap])) 167 297 true).run Tryz.prog w=.ok (.tuple #[.agg #[jJ 0,aF],.bool false]) w:=fun _=>oo
 have ZI:∀w,(dd (.iface 300 (.agg #[jJ f,jN A l cap])) 167 298 true).run Tryz.prog w=.ok (.tuple #[cX,.bool false]) w:=fun _=>oo
 have aF4:∀w,(dd (.iface 300 (.agg #[jJ f,jN A l cap])) 167 300 true).run Tryz.prog w=.ok (.tuple #[.agg #[jJ f,jN A l cap],.bool true]) w:=fun _=>oo
 go_in
 go_wp2_with fail
 have H:=ah (((((Hold.nil w).alloc w 169 [.iface 300 (.agg #[jJ f,jN A l cap]),jJ k,jJ lv]).alloc (w.heap.size+1) 136 (xl 0 0)).alloc (aN w) 136 ([jJ k,jJ lv,jM,jJ 0,aF,jJ 0,jJ 0,jM,jJ f,jN A l cap])).alloc (cC w) 300 [jJ f,jN A l cap])
 refine(vI A l cap jS _ ((Rd.below hS H.below).more H.size)).mono ?_
 rintro e w1⟨⟨A1,c1,rfl,hs1,ha1⟩,hb1⟩
 replace H:=ah (H.call hb1)
 have hf:=H.facts
 simp only[Facts,kz,au,ao]at hf
 have hne:∀g,g≤w.heap.size+1+1→∀ad,A1=some ad→ad.block≠g:=fun g hg ad e=>by
  have:=ha1 ad e;simp at this;omega
 have hlo:∀ad,A1=some ad→w.heap.size≤ad.block:=fun ad e=>by
  have:=ha1 ad e;simp at this;omega
 go_wp2_with fail
 have HR:=aS ((H.put 1 9 (.slice A1 l.length c1)).all 2 [jJ k,jJ lv,jM,jJ 0,aF,jJ 0,jJ 0,jM,jJ f,jN A1 l c1])
 have hs2:=aS (xr (hne (w.heap.size+1) jS) [jJ k,jJ lv,jM,jJ 0,aF,jJ 0,jJ 0,jM,jJ f,jN A1 l c1] 0 (mi (o:=9) (u:=.slice A1 l.length c1) hs1 (hne (aN w) jS)))
 refine kw (fun V=>Hi.Sb V V A1 l) HR hs2 (fun V HV hs9=>?_)
 clear hf H hb1 HR hs2
 have hf:=HV.at_ 2
 simp only[kz,au,ao]at hf
 refine jF (v:=.agg #[jJ k,jJ lv,jM,jJ 0,aF,jJ 0,jJ 0,jM,jJ f,jN A1 l c1]) (by simp[results,Tryz.results114,go_sem,hf]) rfl ?_
 exact⟨⟨{kN k lv with fine:=f,g:=l},none,0,none,0,A1,c1⟩,rfl,rfl,⟨Rd.none_,Rd.none_,hs9⟩,⟨fun _ e=>LS,fun _ e=>LS,hlo⟩,HV.below⟩
structure ScT where
def cT:ScT:=⟨⟩
instance:CoeOut ScT (List jD):=⟨fun _=>[.nilIface,jJ 0,jJ 0]⟩
theorem Ec(m:SkM)(kd:Int)(i fn:Nat)(T:jH)(bv:jD)(hk:m.s.kind=kd)(hl0:0≤m.s.level)(hl1:m.s.level≤kn kd)(hfn:fn=157∨fn=158∨fn=159)(hfi:eI (.int .i64) (.int .i64 kd) AF.toList 0=some (some (i,.func (.func fn) #[] #[])))(w:jC)(hm:jY w w m)(hf:t8 m.s)
 (hcall:∀w',jY w' w' m→jE Tryz.prog fn #[nT m] w' fun r w''=>r=.returned (.tuple #[.iface T bv,.bool true])∧Below w' w' w'')
 (hsk:∀w',jY w' w' m→jE Tryz.prog 114 #[.agg #[.iface T bv,jJ m.s.kind,jJ m.s.level]] w' (wT w' m.s)):
 jE Tryz.prog 79 #[nT m] w fun e w'=>e=.returned (.tuple #[.agg #[.iface T bv,jJ m.s.kind,jJ m.s.level],.nilIface])∧Below w w w':=by
 have HM:Hid (∀w',Below w w w'→jY w' w' m):=fun w' h=>hm.later h
 have HF:=ah hf
 have Wy:=ah hcall
 have Yp:=ah hsk
 clear hm hf hcall hsk
 obtain⟨⟨kind,level,e,bits,regs,rows,cols,c,fine,g⟩,ea,ec,ca,cc,ga,gc⟩:=m
 simp only at hk hl0 hl1 HF Yp
 subst hk
 go_in
 unfold nT at*
 simp only at Wy⊢
 go_wp2_with fail
 refine oN (fun _=>True) ((((Hold.nil w).alloc w 136 [jJ kind,jJ level,jN ea e ec,jJ bits,jL regs,jJ rows,jJ cols,jN ca c cc,jJ fine,jN ga g gc]).alloc (w.heap.size+1) 169 cT).al (.cells #[jJ 100] 225)) trivial (fun V HV _=>?_)
 have x:=HV.at_ 1
 simp only[kz,au,ao]at x
 obtain⟨x0,-⟩:=x
 replace HV:=ah HV.drew
 go_region_held(fun w'=>w'.cell? ⟨w,0,none⟩=some (.int .i64 kind)) (first|assumption|go_keep) ((go_at_call 111;refine(NM _).mono ?_;rintro r _⟨rfl,rfl⟩;have kL:=FY (P:=Tryz.prog) (T:=228) (du V.drew (.map AF 3)) Tryz.underlying228 Tryz.underlying3 hfi;replace HV:=ah (HV.al (.map AF 3));generalize V.drew.heap.size=mg at*;generalize V.drew.alloc (.map AF 3)=V1 at*;clear x0;have x:=HV.at_ 1;simp only[kz,au,ao]at x;obtain⟨x0,x1,-⟩:=x))
 have hl2:decide (level<0)=false:=ag
 have hl3:decide (kn kind<level)=false:=ag
 clear kL
 go_wp2_with fail
 replace HV:=ah HV.drew
 go_region_held(fun w'=>w'.cell? ⟨w,0,none⟩=some (.int .i64 kind)∧w'.cell? ⟨w,1,none⟩=some (.int .i64 level)) (first|assumption|exact⟨x0,x1⟩|go_keep) ((go_at_call 112;refine(qI _ _).mono ?_;rintro r _⟨rfl,rfl⟩))
 generalize V1.drew=V2 at*
 clear x0 x1
 have x:=HV.facts
 simp only[Facts,kz,au,ao]at x
 rcases hfn with rfl|rfl|rfl
 all_goals
  go_wp2_with fail;refine(Wy V2 (HM _ HV.below)).mono ?_;rintro r w3⟨rfl,hb3⟩;replace HV:=ah (HV.call hb3);clear hb3 x;have x:=HV.facts;simp only[Facts,kz,au,ao]at x;go_wp2_with fail;refine oN (fun _=>True) (HV.alloc w3 169 [.iface T bv,jJ kind,jJ level] rfl) trivial (fun V4 H4 _=>?_);have hz:w.heap.size+1<w3.heap.size:=x.1;clear x HV;generalize w3.heap.size=bx at*
  have HX:=ah (H4.drew);have x:=fk (H4.at_ 2);have y:=fk (H4.at_ 0);clear H4;go_region_held(fun w'=>w'.cell? ⟨w,0,none⟩=some (.int .i64 kind)∧w'.cell? ⟨w,1,none⟩=some (.int .i64 level)∧w'.cell? ⟨w,2,none⟩=some (cZ ea e ec)∧w'.cell? ⟨w,3,none⟩=some (.int .i64 bits)∧w'.cell? ⟨w,4,none⟩=some (.string regs)∧w'.cell? ⟨w,5,none⟩=some (.int .i64 rows)∧w'.cell? ⟨w,6,none⟩=some (.int .i64 cols)∧w'.cell? ⟨w,7,none⟩=some (cZ ca c cc)∧w'.cell? ⟨w,8,none⟩=some (.int .i64 fine)∧w'.cell? ⟨w,9,none⟩=some (.slice ga g.length gc)∧w'.cell? ⟨bx,0,none⟩=some (.iface T bv)∧w'.cell? ⟨bx,1,none⟩=some (.int .i64 kind)∧w'.cell? ⟨bx,2,none⟩=some (.int .i64 level)) (first|assumption|exact⟨x.1,x.2.1,x.2.2.1,x.2.2.2.1,x.2.2.2.2.1,x.2.2.2.2.2.1,x.2.2.2.2.2.2.1,x.2.2.2.2.2.2.2.1,x.2.2.2.2.2.2.2.2.1,x.2.2.2.2.2.2.2.2.2,y⟩) (first|(go_at_call 114;refine(Yp _ (HM _ HX.below)).mono ?_;rintro r w6⟨mp,hmp,rfl,uH,_,hb6⟩;replace HX:=ah (HX.call hb6);clear x y;have x:=HX.at_ 2;have y:=HX.at_ 0;simp only[kz,au,ao,and_true]at x y;clear hb6)|(go_at_call 113;refine(NL ⟨⟨kind,level,e,bits,regs,rows,cols,c,fine,g⟩,ea,ec,ca,cc,ga,gc⟩ mp w6 (HM _ HX.below) uH HF (hmp▸HF)).mono ?_;rintro r w7⟨rfl,hb7⟩;replace HX:=ah (HX.call hb7);clear x y;have x:=HX.at_ 2;have y:=HX.at_ 0;simp only[kz,au,ao,and_true]at x y;rw[hmp];simp only[decide_true];clear hb7 uH hmp));clear x y;have x:=HX.facts;simp only[Facts,kz,au,ao]at x;go_wp2_with fail;have HR:=aS (HX.all 1 [.iface T bv,jJ kind,jJ level]);refine kw (fun _=>True) HR trivial (fun V HV _=>?_);clear x HX HR;have hq:=HV.at_ 1;simp only[kz,au,ao]at hq;refine jF (v:=.tuple #[.agg #[.iface T bv,jJ kind,jJ level],.nilIface]) (by simp[results,Tryz.results79,go_sem,hq]) rfl ?_;exact⟨rfl,HV.below⟩
def uU(s:Sk):Sk:=if s.kind=1 then(if s.level=0 then{kN s.kind s.level with e:=s.e}else{kN s.kind s.level with bits:=s.bits,regs:=s.regs})
 else if s.kind=2 then{kN s.kind s.level with rows:=s.rows,cols:=s.cols,c:=s.c}else{kN s.kind s.level with fine:=s.fine,g:=s.g}
def S7(s:Sk):Bool:=if s.kind=1 then(if s.level=0 then Ex.kg s.e else Hl.kD s.bits (lQ s.regs)&&s.bits==8-s.level)
 else if s.kind=2 then Cm.kP s.rows s.cols s.c.length&&s.rows==2&&s.cols==32/2^s.level.toNat else Hi.kg s.fine s.g&&s.fine==3-s.level
def r4(s:Sk):Bool:=decide (1≤s.kind∧s.kind≤3)&&decide (0≤s.level∧s.level≤kn s.kind)&&(S7 s&&decide (s=uU s))
def kK(m:SkM):jD:=if m.s.kind=1 then(if m.s.level=0 then .iface 294 (eV m)else .iface 297 (hV m))else if m.s.kind=2 then .iface 298 (cV m)else .iface 300 (gV m)
def jT(m:SkM):jD:=.agg #[kK m,jJ m.s.kind,jJ m.s.level]
theorem v_{s:Sk}(h:r4 s=true):1≤s.kind∧s.kind≤3∧0≤s.level∧s.level≤kn s.kind∧S7 s=true∧s=uU s:=by
 simp only[r4,ba,decide_eq_true_eq]at h;exact⟨h.1.1.1,h.1.1.2,h.1.2.1,h.1.2.2,h.2.1,h.2.2⟩
theorem uj{f:bl9}{args:Array jD}{b:Bool}(e:b=true)(h:jE Tryz.prog f args w fun r w''=>r=.returned (.tuple #[.iface T v,.bool b])∧Below w w w''):jE Tryz.prog f args w fun r w''=>r=.returned (.tuple #[.iface T v,.bool true])∧Below w w w'':=e▸h
theorem vu(m:SkM)(hr:r4 m.s=true)(w:jC)(hm:jY w w m)(hf:t8 m.s):jE Tryz.prog 79 #[nT m] w fun e w'=>e=.returned (.tuple #[jT m,.nilIface])∧Below w w w':=by
 obtain⟨k1,k2,l1,l2,ok,hp⟩:=v_ hr;have l3:m.s.level≤4:=by
  have:kn m.s.kind≤4:=by unfold kn;split;omega;split<;>omega
  omega
 have go:∀(s:Sk),s=m.s→∀{v:jD}(w':jC),jE Tryz.prog 114 #[v] w' (wT w' s)→jE Tryz.prog 114 #[v] w' (wT w' m.s):=fun s e v w' h=>e▸h;rcases(by omega:m.s.kind=1∨m.s.kind=2∨m.s.kind=3)with k|k|k
 ·by_cases l:m.s.level=0
  ·have eb:kK m=.iface 294 (eV m):=by simp[kK,k,l]
   have e1:Ex.kg m.s.e=true:=by simpa[S7,k,l]using ok
   have e2:{kN m.s.kind m.s.level with e:=m.s.e}=m.s:=by rw[hp];simp[uU,kN,k,l]
   unfold jT;rw[eb];refine Ec m 1 0 157 294 (eV m) k l1 (k▸l2) (.inl rfl) rfl w hm hf (fun w' h=>?_) (fun w' h=>go _ e2 w' (yq m.ea m.s.e m.ec _ _ hf.e w' h.e));exact uj e1 (Cn m l w' h hf)
  have eb:kK m=.iface 297 (hV m):=by simp[kK,k,l]
  have e1:(Hl.kD m.s.bits (lQ m.s.regs)&&m.s.bits==8-m.s.level)=true:=by simpa[S7,k,l]using ok
  have e2:{kN m.s.kind m.s.level with bits:=m.s.bits,regs:=m.s.regs}=m.s:=by rw[hp];simp[uU,kN,k,l]
  unfold jT;rw[eb];refine Ec m 1 0 157 297 (hV m) k l1 (k▸l2) (.inl rfl) rfl w hm hf (fun w' h=>?_) (fun w' h=>go _ e2 w' (yo m.s.bits m.s.regs _ _ w'));exact uj e1 (Ck m jS w' h hf)
 ·have eb:kK m=.iface 298 (cV m):=by simp[kK,k]
  have e1:(Cm.kP m.s.rows m.s.cols m.s.c.length&&m.s.rows==2&&m.s.cols==32/2^m.s.level.toNat)=true:=by simpa[S7,k]using ok
  have e2:{kN m.s.kind m.s.level with rows:=m.s.rows,cols:=m.s.cols,c:=m.s.c}=m.s:=by rw[hp];simp[uU,kN,k]
  have l4:m.s.level≤3:=by simpa[kn,k]using l2
  unfold jT;rw[eb];refine Ec m 2 1 158 298 (cV m) k l1 (k▸l2) (.inr (.inl rfl)) rfl w hm hf (fun w' h=>?_) (fun w' h=>go _ e2 w' (yu m.s.rows m.s.cols m.ca m.s.c m.cc _ _ hf.c w' h.c));exact uj e1 (KZ m jS w' h hf)
 have eb:kK m=.iface 300 (gV m):=by simp[kK,k]
 have e1:(Hi.kg m.s.fine m.s.g&&m.s.fine==3-m.s.level)=true:=by simpa[S7,k]using ok
 have e2:{kN m.s.kind m.s.level with fine:=m.s.fine,g:=m.s.g}=m.s:=by rw[hp];simp[uU,kN,k]
 have l4:m.s.level≤3:=by simpa[kn,k]using l2
 unfold jT;rw[eb];refine Ec m 3 2 159 300 (gV m) k l1 (k▸l2) (.inr (.inr rfl)) rfl w hm hf (fun w' h=>?_) (fun w' h=>go _ e2 w' (yp m.s.fine m.ga m.s.g m.gc _ _ hf.g w' h.g));exact uj e1 (Qx m jS w' h hf)
theorem kv(m:SkM):∃T v,kK m=.iface T v:=by unfold kK;split;(split<;>exact⟨_,_,rfl⟩);split<;>exact⟨_,_,rfl⟩
theorem Q5(m:SkM)(hr:r4 m.s=true)(w:jC)(hm:jY w w m)(hf:t8 m.s):jE Tryz.prog 183 #[nT m] w fun e w'=>e=.returned (.bool true)∧Below w w w':=by
 have QO:Hid (∀w',Below w w w'→jE Tryz.prog 79 #[nT m] w' fun e w''=>e=.returned (.tuple #[jT m,.nilIface])∧Below w' w' w''):=fun w' h=>vu m hr w' (hm.later h) hf;obtain⟨T,v,hb⟩:=kv m;unfold jT at QO;rw[hb]at QO;clear hm hf hr hb;obtain⟨⟨kind,level,e,bits,regs,rows,cols,c,fine,g⟩,ea,ec,ca,cc,ga,gc⟩:=m;unfold nT at*
 simp only at QO⊢;go_in;go_wp2_with fail;refine(QO _ (jP (jQ w) _)).mono ?_;rintro r w1⟨rfl,hb1⟩;have HB1:=ah (Below.two (jP (jQ w) _) hb1);clear hb1 QO;go_wp2;go_ret;exact⟨rfl,Below.two HB1 (jP (jQ w1) _)⟩
instance(x0:jC)(x1:Nat)(x2:jD)(x3:jD):CoeOut (IN 57 x0 x1 x2 x3) jC:=⟨fun _=>((x0.setCell ⟨x1,0,none⟩ x2).setCell ⟨x1,1,none⟩ x3)⟩
variable{α:Type}
theorem qA{f:α→List jD}(hf:∀x,(f x).length=n):∀l:List α,(l.flatMap f).length=n*l.length
 |[]=>rfl
 |x::l=>by rw[dg,cd,qA hf l,hf,c_,Nat.mul_add];omega
theorem Mo{f:α→List jD}(hf:∀x,(f x).length=n):∀(l:List α)(k j:Nat)(h:k<l.length),j<n→(l.flatMap f)[k*n+j]? =(f l[k])[j]?
 |[],_,_,h,_=>WY
 |x::l,0,j,_,hj=>by rw[dg,fh,au,eL (by rw[hf];exact hj)];rfl
 |x::l,k+1,j,h,hj=>by
  have h':k<l.length:=S6;have e:((x::l).flatMap f)[(k+1)*n+j]? =(l.flatMap f)[k*n+j]? :=by
   rw[dg,d7 (by rw[hf,iY];omega),hf];congr 1;rw[iY];omega
  rw[e,Mo hf l k j h' hj];rfl
theorem oP{f:α→List jD}(hf:∀x,(f x).length=n)(hn:0<n){l:List α}(h:Rd w B A (l.flatMap f))(h0:0<l.length):
 ∃b off,A=some ⟨b,off,none⟩∧b<B∧∀k(hk:k<l.length) j v,j<n→(f l[k])[j]? =some v→w.cell? ⟨b,off+k*n+j,none⟩=some v:=by
 obtain⟨b,off,e,hb,hc⟩:=h.at_ (by rw[qA hf];exact Nat.mul_pos hn h0)
 exact⟨b,off,e,hb,fun k hk j v hj hv=>by rw[gW];exact hc _ v (by rw[Mo hf l k j hk hj];exact hv)⟩
variable{g:Nat}{b:jD}
theorem sD{a x y:jD}(h:jR w g t #[a,b]):jR (rU 57 w g x y) g t #[x,y]:=by
 unfold jR at h⊢;simp[bj,g_,h]
theorem Qh(h:w.ownsRow B t sz v n xs)(h0:0<n):∃g cap,v=.slice (aC g) n cap∧B≤g∧g<w.heap.size∧n≤cap:=by
 obtain⟨_,⟨_,e⟩|⟨g,cap,cur,hv,hb,hh,hn,_⟩⟩:=h
 ·omega
 exact⟨g,cap,hv,hb,(aw.1 hh).1,hn⟩
theorem qp(h:w.ownsRow B t sz v n xs):∀j,v.ownBlock=some j→B≤j:=fun j e=>by
 obtain⟨_,⟨h,_⟩|⟨g,cap,cur,hv,hb,_⟩⟩:=h
 ·subst h;cases e
 subst hv;cases e;exact hb
structure mV where
 seq:Int
 tm:Int
 text:ByteArray
 sum:Int
 deriving DecidableEq
def nE(x:mV):List jD:=[jK x.seq,jK x.tm,jL x.text,jK x.sum]
def Hw(x:mV):jD:=.agg #[jK x.seq,jK x.tm,jL x.text,jK x.sum]
structure qL(x:mV):Prop where
 seq:U x.seq
 tm:U x.tm
 sum:U x.sum
theorem Be(x:mV):(nE x).length=4:=rfl
def Eb(w:jC)(B:Nat)(A:Option jG)(l:List mV):Prop:=Rd w B A (l.flatMap nE)
variable{l:List mV}
theorem Eb.later(h:Eb w w A l)(hb:Below w w w'):Eb w' w' A l:=(Rd.below h hb).more hb.size
theorem Eb.later'(h:Eb w w A l)(hb:Below w w w'):Eb w' w A l:=Rd.below h hb
structure IZ(w:jC)(b o:Nat)(x:mV):Prop where
 c0:w.cell? ⟨b,o,none⟩=some (.int .u64 x.seq)
 c1:w.cell? ⟨b,o+1,none⟩=some (.int .u64 x.tm)
 c2:w.cell? ⟨b,o+2,none⟩=some (.string x.text)
 c3:w.cell? ⟨b,o+3,none⟩=some (.int .u64 x.sum)
theorem Eb.at_(h:Eb w B A l)(h0:0<l.length):∃b off,A=some ⟨b,off,none⟩∧b<B∧∀k(hk:k<l.length),IZ w b (off+k*4) l[k]:=by
 obtain⟨b,off,e,hb,hc⟩:=oP Be B8 h h0;exact⟨b,off,e,hb,fun k hk=>⟨hc k hk 0 _ B8 rfl,hc k hk 1 _ B8 rfl,hc k hk 2 _ B8 rfl,hc k hk 3 _ B8 rfl⟩⟩
structure Gr where
 id:Int
 to:Int
 scope:ByteArray
 deriving DecidableEq
def uZ(x:Gr):List jD:=[jK x.id,jK x.to,jL x.scope]
theorem sA(x:Gr):(uZ x).length=3:=rfl
def Gb(w:jC)(B:Nat)(A:Option jG)(l:List Gr):Prop:=Rd w B A (l.flatMap uZ)
variable{l:List Gr}
theorem Gb.later(h:Gb w w A l)(hb:Below w w w'):Gb w' w' A l:=(Rd.below h hb).more hb.size
structure VD(w:jC)(b o:Nat)(x:Gr):Prop where
 c0:w.cell? ⟨b,o,none⟩=some (.int .u64 x.id)
 c1:w.cell? ⟨b,o+1,none⟩=some (.int .u64 x.to)
 c2:w.cell? ⟨b,o+2,none⟩=some (.string x.scope)
theorem Gb.at_(h:Gb w B A l)(h0:0<l.length):∃b off,A=some ⟨b,off,none⟩∧b<B∧∀k(hk:k<l.length),VD w b (off+k*3) l[k]:=by
 obtain⟨b,off,e,hb,hc⟩:=oP sA B8 h h0;exact⟨b,off,e,hb,fun k hk=>⟨hc k hk 0 _ B8 rfl,hc k hk 1 _ B8 rfl,hc k hk 2 _ B8 rfl⟩⟩
theorem qc(p:Option jG)(w:jC):jE Tryz.prog 71 #[.pointer p] w fun e w'=>e=.returned (.bool p.isNone)∧w'=w:=by
 cases p<;>(go_in;go_wp2_with fail;go_ret;exact⟨rfl,rfl⟩)
def qW(r:Int):Bool:=decide (1≤r∧r≤3)
theorem Kn(r:Int)(w:jC):jE Tryz.prog 64 #[jJ r] w fun e w'=>e=.returned (.bool (qW r))∧w'=w:=by
 unfold qW;by_cases h:1≤r
 ·have b0:decide (1≤r)=true:=decide_eq_true h;have e:decide (1≤r∧r≤3)=decide (r≤3):=by simp[h]
  rw[e];clear e h;go_in;go_wp2;go_ret;exact⟨rfl,rfl⟩
 have b0:decide (1≤r)=false:=decide_eq_false h;have e:decide (1≤r∧r≤3)=false:=ag;rw[e];clear e h;go_in;go_wp2;go_ret;exact⟨rfl,rfl⟩
def ux(r:Int):Bool:=decide (0≤r∧r≤1000000)
theorem Ev(r:Int)(w:jC):jE Tryz.prog 140 #[jJ r] w fun e w'=>e=.returned (.bool (ux r))∧w'=w:=by
 unfold ux;by_cases h:0≤r
 ·have b0:decide (0≤r)=true:=decide_eq_true h;have e:decide (0≤r∧r≤1000000)=decide (r≤1000000):=by simp[h]
  rw[e];clear e h;go_in;go_wp2;go_ret;exact⟨rfl,rfl⟩
 have b0:decide (0≤r)=false:=decide_eq_false h;have e:decide (0≤r∧r≤1000000)=false:=ag;rw[e];clear e h;go_in;go_wp2;go_ret;exact⟨rfl,rfl⟩
theorem yR(now next:Int)(w:jC):jE Tryz.prog 123 #[jK now,jK next] w fun e w'=>e=.returned (if next<now then .tuple #[jK 0,jJ 140]else .tuple #[jK next,jJ 0])∧w'=w:=by
 by_cases h:next<now
 ·rw[if_pos h];go_in;go_wp2;go_ret2;exact⟨rfl,rfl⟩
 rw[if_neg h];go_in;go_wp2;go_ret2;exact⟨rfl,rfl⟩
theorem Ry(w:jC):jE Tryz.prog 50 #[] w fun e w'=>e=.returned (.agg #[jK 1,jM])∧Below w w w':=by
 go_in;go_wp2_with fail;have hB:=jP (jQ w) (.cells #[jK 1,jM] 111);have hK:=jR.new w 111 #[jK 1,jM];exact jF (bl2 rfl _ _ w _ _ _ _ rfl hK Tryz.underlying111 rfl oo) rfl ⟨rfl,hB⟩
def kO(l:List mV):Int:=match l.getLast? with|none=>0|some x=>x.seq
def pH(b:Int)(l:List mV):Int:=match l.getLast? with|none=>b|some x=>x.sum
theorem last_any(b:Int)(A:Option jG)(l:List mV)(cap:Nat)(hl:l.length≤1000)(w:jC)(hS:Eb w w A l):
 jE Tryz.prog 126 #[.agg #[jK b,jN A l cap]] w fun e w'=>e=.returned (.int .u64 (kO l))∧Below w w w':=by
 by_cases h0:l.length=0
 ·have e:l=[]:=da h0;subst e;go_in;go_wp2;go_ret;exact⟨rfl,jP (jQ w) _⟩
 obtain⟨bb,off,rfl,hb,hc⟩:=hS.at_ jS
 have c0:=(hc (l.length-1) jS).c0
 have e:kO l=(l[l.length-1]'jS).seq:=by unfold kO;rw[fv,an jS]
 rw[←e]at c0
 clear hS hc e
 generalize hn:l.length=n at*
 have hz:((n:Int)==0)=false:=beq_false_of_ne jS
 have hz':(n==0)=false:=beq_false_of_ne jS
 have hw:IntKind.i64.wrap ((n:Int)-1)=((n-1:Nat):Int):=by rw[dv _ jS];omega
 have h1:(0:Int)≤((n-1:Nat):Int):=jS
 have h2:((n-1:Nat):Int)<(n:Int):=jS
 go_in
 go_wp2
 go_ret;exact⟨rfl,jP (jQ w) _⟩
theorem Rq(b:Int)(A:Option jG)(l:List mV)(cap:Nat)(hl:l.length≤1000)(w:jC)(hS:Eb w w A l):
 jE Tryz.prog 128 #[.agg #[jK b,jN A l cap]] w fun e w'=>e=.returned (.int .u64 (pH b l))∧Below w w w':=by
 by_cases h0:l.length=0
 ·have e:l=[]:=da h0;subst e;go_in;go_wp2;go_ret;exact⟨rfl,jP (jQ w) _⟩
 obtain⟨bb,off,rfl,hb,hc⟩:=hS.at_ jS
 have c0:=(hc (l.length-1) jS).c3
 have e:pH b l=(l[l.length-1]'jS).sum:=by unfold pH;rw[fv,an jS]
 rw[←e]at c0
 clear hS hc e
 generalize hn:l.length=n at*
 have hz:((n:Int)==0)=false:=beq_false_of_ne jS
 have hz':(n==0)=false:=beq_false_of_ne jS
 have hw:IntKind.i64.wrap ((n:Int)-1)=((n-1:Nat):Int):=by rw[dv _ jS];omega
 have h1:(0:Int)≤((n-1:Nat):Int):=jS
 have h2:((n-1:Nat):Int)<(n:Int):=jS
 go_in
 go_wp2
 go_ret;exact⟨rfl,jP (jQ w) _⟩
def n9(a x:mV):Bool:=decide (a.seq<18446744073709551615)&&(x.seq==a.seq+1&&decide (a.tm≤x.tm))
theorem Hm(a x:mV)(ha:U a.seq)(w:jC):jE Tryz.prog 169 #[Hw a,Hw x] w fun e w'=>e=.returned (.bool (n9 a x))∧Below w w w':=by
 obtain⟨aq,at_,att,asu⟩:=a;obtain⟨xs,xt,xte,xsu⟩:=x;unfold n9 Hw;obtain⟨h1,h2⟩:=ha;simp only at h1 h2⊢;have hB:=ah (jP (jP (jQ w) (.cells #[jK aq,jK at_,jL att,jK asu] 59)) (.cells #[jK xs,jK xt,jL xte,jK xsu] 59));by_cases c1:aq<18446744073709551615
 ·have b1:decide (aq<18446744073709551615)=true:=decide_eq_true c1;have hw:IntKind.u64.wrap (aq+1)=aq+1:=gC _ jS;by_cases c2:xs=aq+1
  ·have b2:(xs==aq+1)=true:=beq_iff_eq.2 c2;rw[b1,b2];subst c2;go_in;go_wp2;go_ret;exact⟨lV,hB.out⟩
  have b2:(xs==aq+1)=false:=beq_false_of_ne c2;rw[b1,b2];clear c2;go_in;go_wp2;go_ret;exact⟨lV,hB.out⟩
 have b1:decide (aq<18446744073709551615)=false:=decide_eq_false c1;rw[b1];go_in;go_wp2;go_ret;exact⟨lV,hB.out⟩
def zZ(role op:Int):Bool:=qW role&&decide (1≤op∧op≤7)&&(role==3||op==7||role==1&&op==1||role==2&&(op==2||op==3||op==6))
theorem Jz{i:Nat}(hm:w.heap[m]? =some (.map es clock))(hk:P.underlying T=some (.map kt et))(hd:P.underlying kt=some (.int .i64))(hf:eI (.int .i64) (.int .i64 c) es.toList 0=some (some (i,v))):
 (eU T (.map (some m)) (.int .i64 c) false).run P w=.ok v w:=by
 have h1:(Instr.checkKey es.isEmpty 10000 kt (.int .i64 c)).run P w=.ok () w:=Go.MapKept.run_checkKey (w:=w) hd (k:=.int .i64 c) rfl es.isEmpty 9999
 have h2:=Go.MapKept.run_findKey (w:=w) hd hf
 simp only[eU,eT,bi8 hk,dw,getObj,Sem.run,hm,fX,h1,h2]
 rfl
variable{cs:Array jD}
theorem DY{e:jH}{i:Nat}(h:P.underlying t=some (.array n e))(hs:(sizeOf e).run P w=.ok 1 w)(ha:(isAgg e).run P w=.ok false w)(hi:i<n)(hv:cs[i]? =some v):
 (Instr.index t (.agg cs) (aJ i)).run P w=.ok v w:=by
 simp[Instr.index,bi8 h,asIntOf,go_sem,hs,hi,hv,ha]
def tA':Array jD:=#[jJ 1,jJ 0,jJ 0,jJ 0,jJ 0,jJ 0,jJ 1]
def ZK:Array jD:=#[jJ 0,jJ 1,jJ 1,jJ 0,jJ 0,jJ 1,jJ 1]
def ZJ:Array jD:=#[jJ 1,jJ 1,jJ 1,jJ 1,jJ 1,jJ 1,jJ 1]
def tA:jD:=.agg (#[.int .i64 0]++tA')
def tB:jD:=.agg (#[.int .i64 0]++ZK)
def tC:jD:=.agg (#[.int .i64 0]++ZJ)
def Cc:Array bk4:=#[{key:=.int .i64 1,val:=tA,born:=0},{key:=.int .i64 2,val:=tB,born:=1},{key:=.int .i64 3,val:=tC,born:=2}]
theorem Ue(role op:Int)(w:jC):jE Tryz.prog 37 #[jJ role,jJ op] w fun e w'=>e=.returned (.bool (zZ role op))∧Below w w w':=by
 have QR:=ah (Kn role);unfold zZ
 cases hr:qW role with
 |false=>
  rw[hr]at QR;go_in;go_wp2_with fail;refine(QR w).mono ?_;rintro e w1⟨rfl,rfl⟩;go_wp2_with fail;go_ret;exact⟨rfl,jQ _⟩
 |true=>
  rw[hr]at QR;by_cases ho:1≤op∧op≤7
  ·have hr':role=1∨role=2∨role=3:=by simp[qW]at hr;omega
   have ho':op=1∨op=2∨op=3∨op=4∨op=5∨op=6∨op=7:=by omega
   clear ho hr;have q1:=fun v=>nW (P:=Tryz.prog) (W:=w) (T:=147) (c:=1) (v:=v) (es:=#[]) (clock:=0) rfl Tryz.underlying147 Tryz.underlying3 rfl;have q2:=fun v v'=>nW (P:=Tryz.prog) (W:=w) (T:=147) (c:=2) (v:=v) (es:=#[{key:=.int .i64 1,val:=v',born:=0}]) (clock:=1) rfl Tryz.underlying147 Tryz.underlying3 rfl;have q3:=fun v v' v''=>nW (P:=Tryz.prog) (W:=w) (T:=147) (c:=3) (v:=v) (es:=#[{key:=.int .i64 1,val:=v',born:=0},{key:=.int .i64 2,val:=v'',born:=1}]) (clock:=2) rfl Tryz.underlying147 Tryz.underlying3 rfl;simp only[fW,dz,dj,au,ao]at q1 q2 q3;have hmm:=@run_makeMap Tryz.prog;have HB:=ai (jP (jQ w) (.map Cc 3));go_in;go_wp2_with fail;refine(QR.out w).mono ?_;rintro e w1⟨rfl,rfl⟩;go_wp2_with fail;clear q1 q2 q3 hmm;obtain⟨o,rfl⟩:∃o:Nat,op=(o:Int):=⟨op.toNat,by omega⟩;replace ho':o=1∨o=2∨o=3∨o=4∨o=5∨o=6∨o=7:=by omega
   rcases hr' with rfl|rfl|rfl
   ·have k:=Jz (P:=Tryz.prog) (T:=147) (c:=1) (du w1 (.map Cc 3)) Tryz.underlying147 Tryz.underlying3 rfl;obtain⟨v,hv,hm⟩:∃v:Int,(#[.int .i64 0]++tA')[o]? =some (.int .i64 v)∧(v==1)=(qW 1&&decide (1≤(o:Int)∧(o:Int)≤7)&&((1:Int)==3||(o:Int)==7||(1:Int)==1&&(o:Int)==1||(1:Int)==2&&((o:Int)==2||(o:Int)==3||(o:Int)==6))):=by
     rcases ho' with rfl|rfl|rfl|rfl|rfl|rfl|rfl<;>exact⟨_,rfl,by decide⟩
    have ki:=DY (P:=Tryz.prog) (w:=w1.alloc (.map Cc 3)) (t:=146) Tryz.underlying146 (Tryz.sizeOf3 _) (Tryz.isAgg3 _) (by omega) hv;simp only[Cc,tA,tB,tC,tA',ZK,ZJ,gj,dj,dz]at k ki;have HV:=ai hm;clear hm hv ho';go_simp;go_wp2_with fail;go_ret;exact⟨jU HV.out,HB.out⟩
   ·have k:=Jz (P:=Tryz.prog) (T:=147) (c:=2) (du w1 (.map Cc 3)) Tryz.underlying147 Tryz.underlying3 rfl;obtain⟨v,hv,hm⟩:∃v:Int,(#[.int .i64 0]++ZK)[o]? =some (.int .i64 v)∧(v==1)=(qW 2&&decide (1≤(o:Int)∧(o:Int)≤7)&&((2:Int)==3||(o:Int)==7||(2:Int)==1&&(o:Int)==1||(2:Int)==2&&((o:Int)==2||(o:Int)==3||(o:Int)==6))):=by
     rcases ho' with rfl|rfl|rfl|rfl|rfl|rfl|rfl<;>exact⟨_,rfl,by decide⟩
    have ki:=DY (P:=Tryz.prog) (w:=w1.alloc (.map Cc 3)) (t:=146) Tryz.underlying146 (Tryz.sizeOf3 _) (Tryz.isAgg3 _) (by omega) hv;simp only[Cc,tA,tB,tC,tA',ZK,ZJ,gj,dj,dz]at k ki;have HV:=ai hm;clear hm hv ho';go_simp;go_wp2_with fail;go_ret;exact⟨jU HV.out,HB.out⟩
   have k:=Jz (P:=Tryz.prog) (T:=147) (c:=3) (du w1 (.map Cc 3)) Tryz.underlying147 Tryz.underlying3 rfl;obtain⟨v,hv,hm⟩:∃v:Int,(#[.int .i64 0]++ZJ)[o]? =some (.int .i64 v)∧(v==1)=(qW 3&&decide (1≤(o:Int)∧(o:Int)≤7)&&((3:Int)==3||(o:Int)==7||(3:Int)==1&&(o:Int)==1||(3:Int)==2&&((o:Int)==2||(o:Int)==3||(o:Int)==6))):=by
    rcases ho' with rfl|rfl|rfl|rfl|rfl|rfl|rfl<;>exact⟨_,rfl,by decide⟩
   have ki:=DY (P:=Tryz.prog) (w:=w1.alloc (.map Cc 3)) (t:=146) Tryz.underlying146 (Tryz.sizeOf3 _) (Tryz.isAgg3 _) (by omega) hv;simp only[Cc,tA,tB,tC,tA',ZK,ZJ,gj,dj,dz]at k ki;have HV:=ah hm;clear hm hv ho';go_simp;go_wp2;go_ret;exact⟨jU HV,HB⟩
  have b:decide (1≤op∧op≤7)=false:=decide_eq_false ho;rw[b];clear hr;by_cases h1:op<1
  ·have b1:decide (op<1)=true:=decide_eq_true h1;clear ho b h1;go_in;go_wp2_with fail;refine(QR w).mono ?_;rintro e w1⟨rfl,rfl⟩;go_wp2;go_ret;exact⟨rfl,jQ _⟩
  have b1:decide (op<1)=false:=decide_eq_false h1;have b2:decide (7<op)=true:=ae;clear ho b h1;go_in;go_wp2_with fail;refine(QR w).mono ?_;rintro e w1⟨rfl,rfl⟩;go_wp2;go_ret;exact⟨rfl,jQ _⟩
structure SbY(x0:jC)(x1:jC)(x2:Nat) where
def bY(x0:jC)(x1:jC)(x2:Nat):SbY x0 x1 x2:=⟨⟩
instance(x0:jC)(x1:jC)(x2:Nat):CoeOut (SbY x0 x1 x2) Prop:=⟨fun _=>x0.grownBy x1 (some x2)⟩
instance(x0:jC)(x1:jC)(x2:Nat):CoeSort (SbY x0 x1 x2) Prop:=⟨fun _=>x0.grownBy x1 (some x2)⟩
def uC{β:Type}(q:Nat→Prop)(B:Nat)(J:β→jC→Prop):Prop:=
 ∀s W W' row,J s W→W.grownBy W' row→(∀r,row=some r→q r∨(B≤r∧∃o:Obj,W.heap[r]? =some o∧o.isWalk=true))→J s W'
def DD(q:Nat→Prop)(F:Fence)(n:Nat)(P:bi3)(g:Nat)(lb:Array jD)(encs:α→Array jD)(Kp:jC→jC→Prop)(S Sp:List α→Prop)(N:Nat)(Bd:List α→Prop)(Nx:List α→α→Prop)(w:jC):Prop:=
 ∀(l:Nat)(J Jx:List α→jC→Prop)(W:jC),Below w w W→uC q W J→uC q W Jx→(∀s W,J s W→Bd s)→
  (∀pre x W1,J pre W1→pre.length<N→Nx pre x→bl4 F (n-1) P l (encs x) W1 fun e W'=>
   (e=.returned (.bool true)∧J (pre++[x]) W'∧Kp W1 W')∨(e=.returned (.bool false)∧Jx (pre++[x]) W'))→
  J [] W→
  bj2 F n P g (#[.func (.yield l) #[] #[]]++lb) W fun e W'=>(∃v,e=.returned v)∧((∃xs,S xs∧J xs W')∨(∃pre,Sp pre∧Jx pre W'))
def x_(q:Nat→Prop)(F:Fence)(n:Nat)(P:bi3)(g:Nat)(lb:Array jD)(encs:α→Array jD)(Kp:jC→jC→Prop)(S Sp:List α→Prop)(N:Nat)(w:jC):Prop:=
 ∀(l:Nat)(J Jx:List α→jC→Prop)(W:jC),Below w w W→uC q W J→uC q W Jx→
  (∀pre x W1,J pre W1→pre.length<N→bl4 F (n-1) P l (encs x) W1 fun e W'=>
   (e=.returned (.bool true)∧J (pre++[x]) W'∧Kp W1 W')∨(e=.returned (.bool false)∧Jx (pre++[x]) W'))→
  J [] W→
  bj2 F n P g (#[.func (.yield l) #[] #[]]++lb) W fun e W'=>(∃v,e=.returned v)∧((∃xs,S xs∧J xs W')∨(∃pre,Sp pre∧Jx pre W'))
def sG{β:Type}(q:Nat→Prop)(I:β→jC→Prop):Prop:=∀s W W' r,I s W→(bY W W' r)→q r→I s W'
variable{F:Fence}{n:Nat}{P:bi3}
variable{q:Nat→Prop}{ps:Array Tmp}{assign:bk9}{Q:bk7→Act→jC→Prop}{a:Act}
theorem yA{g:bl7}{body:bk9}
 (hro:F.round=none) (h1:1≤n) {gf:Nat} {lb:Array jD} (hg:a.eval g=(lI 38 gf lb)) (hFg:F.fn gf) (eg:∀args w,(callFunc gf args).run P w=.ok (.enter gf args) w)
 {encs:α→Array jD} {Kp:jC→jC→Prop} {S Sp:List α→Prop} {N:Nat} {Bd:List α→Prop} {Nx:List α→α→Prop} {w0:jC} (hseq:DD q F (n-1) P gf lb encs Kp S Sp N Bd Nx w0)
 (hKt:∀{A B C:jC},Kp A B→Kp B C→Kp A C) (hKb:∀(W:jC)(l:Nat)(o o':Obj),w.heap.size≤l→W.heap[l]? =some o→o.isCells=false→o.isWalk=false→Kp W (W.putObj l o'))
 (hb0:(bJ w0 w)) (hps:∀x,(encs x).size=ps.size) (hq:∀r,q r→r<w.heap.size)
 (I:List α→jC→Prop) (Ix:bk9→List α→jC→Prop) (hI:bj3 w.heap.size I) (hIx:∀c,bj3 w.heap.size (Ix c)) (hIq:sG q I) (XH:∀c,sG q (Ix c)) (hIB:∀s W,I s W→Bd s) (h0:I [] w) (a₁:α→Act)
 (hassign:∀(l:Nat)(x:α)(W:jC)(K:Act→jC→Prop),K (a₁ x) W→
  assign.wpIn (F.inRound l) (n-1-1) P (Exit.then K (fun _ _ _=>False)) {tmps:=(ps.zip (encs x)).foldl (fun t(p,v)=>t.setIfInBounds p v) a.tmps,defers:=[]} W)
 (hbody:∀(l:Nat)(pre:List α)(x:α)(W:jC),I pre W→w.heap.size+1<W.heap.size→pre.length<N→Nx pre x→body.wpIn (F.inRound l) (n-1-1) P (ownPostK Kp I Ix (pre++[x]) W) (a₁ x) W)
 (hdone:∀(D:Nat)(xs:List α)(W:jC),w.heap.size≤D→S xs→I xs W→W.heap[D]? =some (aY)→Q .normal (lI 19 a D) W)
 (hstop:∀(D:Nat)(c:bk9)(pre:List α)(W:jC),w.heap.size≤D→Sp pre→Ix c pre W→W.heap[D]? =some (aY)→c.wpIn F n P Q (lI 19 a D) W):
 (Code.rangeFunc g ps assign body).wpIn F n P Q a w:=by
 refine wpIn_rangeFunc ?_
 intro fn hfn
 rw[hro]
 obtain⟨rec,hrec⟩:∃rec:LoopState→Option bk9→Loop,rec=fun st pe=>{state:=st,pending:=pe,fn,tmps:=a.tmps,params:=ps,assign,body,defers:=w.heap.size}:=⟨_,rfl⟩
 obtain⟨W1,hW1⟩:∃W1,(w.alloc (aY)).alloc (.loop (rec .ready none))=W1:=⟨_,rfl⟩
 have hz1:W1.heap.size=w.heap.size+2:=by rw[←hW1];simp
 have hL1:W1.heap[w.heap.size+1]? =some (.loop (rec .ready none)):=by
  rw[←hW1];have:=du (w.alloc (aY)) (.loop (rec .ready none));rwa[b_]at this
 have hK1:W1.heap[w.heap.size]? =some (aY):=by
  rw[←hW1];exact(Below.heap_alloc _ _ _ (by simp)).trans (du w _)
 have hI1:I [] W1:=by rw[←hW1];exact hI.alloc _ (hI.alloc _ h0)
 have hb1:(bJ w0 W1):=by rw[←hW1];exact Below.two hb0 (jP (jP (jQ w) _) _)
 refine⟨w.heap.size+1,[{target:=.collected w.heap.size,args:=#[]}],W1,{target:=.fn (.func gf) lb,args:=#[.func (.yield (w.heap.size+1)) #[] #[]]},W1,gf,
  #[.func (.yield (w.heap.size+1)) #[] #[]]++lb,W1,?_,?_,?_,?_,fun _=>h1,?_⟩
 ·rw[←hW1,hrec];exact run_enterLoop_outer _ _ _ _ _
 ·simp only[resolve,hg];simp[go_sem]
 ·intro f' hf';simp[Target.leads]at hf';subst hf';exact hFg
 ·simp[invoke,go_sem,eg]
 have hnw:∀{A B:jC}{row:Option Nat},(∀r,row=some r→q r∨(W1.heap.size≤r∧∃o:Obj,A.heap[r]? =some o∧o.isWalk=true))→(∃r,row=some r∧q r)∨(∀r,row=some r→w.heap.size≤r∧(aH A r)):=fun{A B row} hr=>by
  cases row with
  |none=>exact .inr fun r e=>by cases e
  |some r=>
   rcases hr r rfl with h|⟨hB,o,ho,hw⟩
   ·exact .inl ⟨r,rfl,h⟩
   exact .inr fun r' e=>by cases e;exact⟨by omega,o,ho,Obj.not_cells_of_walk hw⟩
 have hmv:∀{J:List α→jC→Prop},bj3 w.heap.size J→sG q J→∀s A B row,J s A→A.grownBy B row→(∀r,row=some r→q r∨(W1.heap.size≤r∧∃o:Obj,A.heap[r]? =some o∧o.isWalk=true))→J s B:=fun hJ hJq s A B row hs hg' hr=>by
  rcases hnw (B:=B) hr with⟨r,e,h⟩|h
  ·subst e;exact hJq s A B r hs hg' h
  exact hJ s A B row hs hg' h
 have hkp:∀{A B:jC}{row:Option Nat}{i:Nat}{o:Obj},A.grownBy B row→(∀r,row=some r→q r∨(W1.heap.size≤r∧∃o:Obj,A.heap[r]? =some o∧o.isWalk=true))→w.heap.size≤i→i<W1.heap.size→A.heap[i]? =some o→B.heap[i]? =some o:=fun{A B row i o} hg' hr h1 h2 ho=>by
  refine(hg'.block i (aw.1 ho).1 (fun e=>?_)).trans ho;rcases hr i e.symm with h|⟨h,_⟩
  ·have:=hq i h;omega
  omega
 refine(hseq (w.heap.size+1)
  (fun pre W=>I pre W∧W.heap[w.heap.size+1]? =some (.loop (rec .ready none))∧W.heap[w.heap.size]? =some (aY))
  (fun pre W=>∃c,Ix c pre W∧W.heap[w.heap.size+1]? =some (.loop (rec .done (some c)))∧W.heap[w.heap.size]? =some (aY))
  W1 hb1
  (fun s A B row hs hg' hr=>⟨hmv hI hIq s A B row hs.1 hg' hr,hkp hg' hr (by omega) (by omega) hs.2.1,hkp hg' hr (by omega) (by omega) hs.2.2⟩)
  (fun s A B row hs hg' hr=>by
   obtain⟨c,hc,hl,hk⟩:=hs;exact⟨c,hmv (hIx c) (XH c) s A B row hc hg' hr,hkp hg' hr (by omega) (by omega) hl,hkp hg' hr (by omega) (by omega) hk⟩)
  (fun s W hs=>hIB s W hs.1)
  ?_ ⟨hI1,hL1,hK1⟩).mono ?_
 ·rintro pre x W⟨hi,hl,hk⟩ hlen hnx;have hy:=run_yield (P:=P) (args:=encs x) hl (by rw[hrec];exact hps x);rw[hrec]at hy;have hlt:w.heap.size+1<W.heap.size:=(aw.1 hl).1;refine⟨fn,_,assign,body,hy,roundIn_of_wpIn hfn (hassign _ x W _ ?_)⟩;refine⟨_,run_beginRound hl (by rw[hrec]),?_⟩;have hl2:(W.putObj (w.heap.size+1) (.loop {rec .ready none with state:=.busy})).heap[w.heap.size+1]? =some (.loop {rec .ready none with state:=.busy}):=gN hlt;have hk2:(W.putObj (w.heap.size+1) (.loop {rec .ready none with state:=.busy})).heap[w.heap.size]? =some (aY):=(dx (by omega)).trans hk;have hw2:Kp W (W.putObj (w.heap.size+1) (.loop {rec .ready none with state:=.busy})):=hKb _ _ _ _ (by omega) hl rfl rfl;refine wpIn_mono (hbody _ pre x _ (hI.putObj _ hi (by omega) hl rfl) (aw.1 hl2).1 hlen hnx) ?_;have fin:∀(jump:Option bk9)(W3:jC),bj4 (W.putObj (w.heap.size+1) (.loop {rec .ready none with state:=.busy})) W3→
   (Instr.endRound (w.heap.size+1) jump).run P W3=.ok (.bool jump.isNone) (W3.putObj (w.heap.size+1) (.loop (rec (if jump.isNone then .ready else .done) jump)))∧
   W3.heap[w.heap.size+1]? =some (.loop {rec .ready none with state:=.busy})∧
   (W3.putObj (w.heap.size+1) (.loop (rec (if jump.isNone then .ready else .done) jump))).heap[w.heap.size+1]? =some (.loop (rec (if jump.isNone then .ready else .done) jump))∧
   (W3.putObj (w.heap.size+1) (.loop (rec (if jump.isNone then .ready else .done) jump))).heap[w.heap.size]? =some (aY):=fun jump W3 hk3=>by
   have hl3:=hk3.same _ _ hl2 rfl
   have:=run_endRound (P:=P) jump hl3
   rw[hrec]at this⊢
   exact⟨this,by rw[hrec]at hl3;exact hl3,gN (aw.1 hl3).1,(dx (by omega)).trans (hk3.same _ _ hk2 rfl)⟩
  have out:∀(c:bk9)(W3:jC),bj4 (W.putObj (w.heap.size+1) (.loop {rec .ready none with state:=.busy})) W3→Ix c (pre++[x]) W3→
   ∃c',Ix c' (pre++[x]) (W3.putObj (w.heap.size+1) (.loop (rec .done (some c))))∧(W3.putObj (w.heap.size+1) (.loop (rec .done (some c)))).heap[w.heap.size+1]? =some (.loop (rec .done (some c')))∧(W3.putObj (w.heap.size+1) (.loop (rec .done (some c)))).heap[w.heap.size]? =some (aY):=fun c W3 hk3 hi3=>by
   obtain⟨_,hl3,hl4,hk4⟩:=fin (some c) W3 hk3
   exact⟨c,(hIx _).putObj _ hi3 jS hl3 rfl,hl4,hk4⟩
  rintro e a3 W3 hp
  cases e with
  |normal=>
   obtain⟨hk3,hkp3,hi3⟩:=hp;obtain⟨hr,hl3,hl4,hk4⟩:=fin none W3 hk3;exact⟨_,_,hr,.inl ⟨rfl,⟨hI.putObj _ hi3 jS hl3 rfl,hl4,hk4⟩,hKt (hKt hw2 hkp3) (hKb _ _ _ _ jS hl3 rfl rfl)⟩⟩
  |ret=>exact⟨_,_,(fin (some .ret) W3 hp.1).1,.inr ⟨rfl,out _ _ hp.1 hp.2⟩⟩
  |exit id=>exact⟨_,_,(fin (some (.exit id)) W3 hp.1).1,.inr ⟨rfl,out _ _ hp.1 hp.2⟩⟩
  |goto t=>exact⟨_,_,(fin (some (.goto t)) W3 hp.1).1,.inr ⟨rfl,out _ _ hp.1 hp.2⟩⟩
  |panic ch=>exact hp.elim
  |outgrown=>exact hp.elim
 rintro e W2⟨⟨v,rfl⟩,(⟨xs,hS,hi,hl,hk⟩|⟨pre,hSp,c,hi,hl,hk⟩)⟩
 ·exact⟨none,_,by have:=run_endLoop (P:=P) hl (by rw[hrec];simp);rw[hrec]at this;exact this,hdone _ xs _ aa hS (hI.putObj _ hi jS hl rfl) ((dx jS).trans hk)⟩
 exact⟨some c,_,by have:=run_endLoop (P:=P) hl (by rw[hrec];simp);rw[hrec]at this;exact this,hstop _ c pre _ aa hSp ((hIx c).putObj _ hi jS hl rfl) ((dx jS).trans hk)⟩
theorem yy{g:bl7}{body:bk9}
 (hro:F.round=none) (h1:1≤n) {gf:Nat} {lb:Array jD} (hg:a.eval g=(lI 38 gf lb)) (hFg:F.fn gf) (eg:∀args w,(callFunc gf args).run P w=.ok (.enter gf args) w)
 {encs:α→Array jD} {Kp:jC→jC→Prop} {S Sp:List α→Prop} {N:Nat} {w0:jC} (hseq:x_ q F (n-1) P gf lb encs Kp S Sp N w0)
 (hKt:∀{A B C:jC},Kp A B→Kp B C→Kp A C) (hKb:∀(W:jC)(l:Nat)(o o':Obj),w.heap.size≤l→W.heap[l]? =some o→o.isCells=false→o.isWalk=false→Kp W (W.putObj l o'))
 (hb0:Below w0 w0 w) (hps:∀x,(encs x).size=ps.size) (hq:∀r,q r→r<w.heap.size)
 (I:List α→jC→Prop) (Ix:bk9→List α→jC→Prop) (hI:bj3 w I) (hIx:∀c,bj3 w (Ix c)) (hIq:sG q I) (XH:∀c,sG q (Ix c)) (h0:I [] w) (a₁:α→Act)
 (hassign:∀(l:Nat)(x:α)(W:jC)(K:Act→jC→Prop),K (a₁ x) W→
  assign.wpIn (F.inRound l) (n-1-1) P (Exit.then K (fun _ _ _=>False)) {tmps:=(ps.zip (encs x)).foldl (fun t(p,v)=>t.setIfInBounds p v) a.tmps,defers:=[]} W)
 (hbody:∀(l:Nat)(pre:List α)(x:α)(W:jC),I pre W→w.heap.size+1<W.heap.size→pre.length<N→body.wpIn (F.inRound l) (n-1-1) P (ownPostK Kp I Ix (pre++[x]) W) (a₁ x) W)
 (hdone:∀(D:Nat)(xs:List α)(W:jC),w.heap.size≤D→S xs→I xs W→W.heap[D]? =some (aY)→Q .normal (lI 19 a D) W)
 (hstop:∀(D:Nat)(c:bk9)(pre:List α)(W:jC),w.heap.size≤D→Sp pre→Ix c pre W→W.heap[D]? =some (aY)→c.wpIn F n P Q (lI 19 a D) W):
 (Code.rangeFunc g ps assign body).wpIn F n P Q a w:=
 yA (Bd:=fun _=>True) (Nx:=fun _ _=>True) hro h1 hg hFg eg (fun l J Jx W h1 h2 h3 _ hY=>hseq l J Jx W h1 h2 h3 fun pre x W1 hJ hl=>hY pre x W1 hJ hl trivial) hKt hKb hb0 hps hq I Ix hI hIx hIq XH (fun _ _ _=>trivial) h0 a₁ hassign (fun l pre x W hi hs hl _=>hbody l pre x W hi hs hl) hdone hstop
theorem Kc(lv:Int)(w:jC):jE Tryz.prog 238 #[jJ lv] w fun e w'=>e=.returned (.func (.func 258) #[] #[jO w])∧w.alloc (.cells #[jJ lv] 3)=w':=by
 go_in;go_wp2;go_ret;exact⟨rfl,rfl⟩
theorem Kb(n M g:Nat)(hn:1≤n)(lv:Int)(h0:0≤lv)(h1:lv≤100)(hM:M≤100)(w:jC)(hg:g<w.heap.size)(hB:jR w g 3 #[jJ lv]):
 DD (fun _=>False) cz n Tryz.prog 258 #[jO g] (fun x:Int=>#[jJ x]) (fun _ _=>True) (fun _=>False) (fun _=>True) (M+1) (fun pre=>pre.length≤M) (fun pre x=>x=lv+pre.length) w:=by
 intro l J Jx W hbW hA hAx hBd hY hJ0
 have HB:=ah (hB.below hbW hg)
 have HBd:=ah hBd
 have HY:=ah hY
 have x0:=HB.one
 clear hB hbW hA hAx hBd hY HB
 refine bj1 Tryz.func258 rfl trivial ?_ rfl
 simp only[Tryz.ntmps258,jn,c_,dp,ao,dk,Array.replicate_succ,Array.replicate_zero,fW,gj,dz,dj]
 gi_wp2
 clear x0
 gi_loopw[3] (fun i wr=>∃pre:List Int,i=.int .i64 (lv+(pre.length:Int))∧J pre wr) (fun i _=>M+101-(av i).toNat)
 case atStart=>exact⟨[],lV,hJ0⟩
 obtain⟨pre,rfl,hJ⟩:=hrel
 have hl:=HBd _ _ hJ
 have hYl:=HY pre (lv+pre.length) wr hJ jS rfl
 obtain⟨fn,tmps,assign,body,hy,hR⟩:=hYl
 have hw:IntKind.i64.wrap (lv+(pre.length:Int)+1)=lv+(pre.length:Int)+1:=dv _ jS
 clear hJ
 gi_wp2_with fail
 refine hR.mono ?_
 rintro e W3(⟨rfl,hJ3,-⟩|⟨rfl,hJx3⟩)
 ·clear hy hR;gi_wp2_with fail;go_roundw
  case rel=>exact⟨pre++[lv+pre.length],by rw[cd];simp;omega,hJ3⟩
  exact No
 clear hy hR
 gi_wp2_with fail
 go_end0
 exact⟨⟨_,rfl⟩,.inr ⟨_,trivial,hJx3⟩⟩
structure SaO where
def aO:SaO:=⟨⟩
instance:CoeOut SaO jD:=⟨fun _=>(.slice none 0 0)⟩
structure SaU(x0:jC) where
def aU(x0:jC):SaU x0:=⟨⟩
instance(x0:jC):CoeOut (SaU x0) Prop:=⟨fun _=>x0.heap.size≤x0.heap.size+1+1⟩
instance(x0:jC):CoeSort (SaU x0) Prop:=⟨fun _=>x0.heap.size≤x0.heap.size+1+1⟩
structure SbI(x0:jC)(x1:Nat)(x2:Int) where
def bI(x0:jC)(x1:Nat)(x2:Int):SbI x0 x1 x2:=⟨⟩
instance(x0:jC)(x1:Nat)(x2:Int):CoeOut (SbI x0 x1 x2) Prop:=⟨fun _=>x0.cell? ⟨x1,0,none⟩=some (.int .u64 x2)⟩
instance(x0:jC)(x1:Nat)(x2:Int):CoeSort (SbI x0 x1 x2) Prop:=⟨fun _=>x0.cell? ⟨x1,0,none⟩=some (.int .u64 x2)⟩
structure ScD(x0:Int) where
def cD(x0:Int):ScD x0:=⟨⟩
instance(x0:Int):CoeOut (ScD x0) Obj:=⟨fun _=>(.cells #[jK x0] 22)⟩
structure ScJ where
def cJ:ScJ:=⟨⟩
instance:CoeOut ScJ Obj:=⟨fun _=>(.deferred none)⟩
instance(x0:jC):CoeOut (sH 46 x0) jG:=⟨fun _=>⟨x0.heap.size+1+1+1+1,0,none⟩⟩
structure SbS(x0:jC) where
def bS(x0:jC):SbS x0:=⟨⟩
instance(x0:jC):CoeOut (SbS x0) jG:=⟨fun _=>⟨x0.heap.size+1,1,none⟩⟩
structure SbZ(x0:jC) where
def bZ(x0:jC):SbZ x0:=⟨⟩
instance(x0:jC):CoeOut (SbZ x0) jG:=⟨fun _=>⟨x0.heap.size+1+1,1,none⟩⟩
structure SdL(x0:jC) where
def dL(x0:jC):SdL x0:=⟨⟩
instance(x0:jC):CoeOut (SdL x0) Prop:=⟨fun _=>x0.heap.size+1≠x0.heap.size⟩
instance(x0:jC):CoeSort (SdL x0) Prop:=⟨fun _=>x0.heap.size+1≠x0.heap.size⟩
end Go.Proofs.YtfcnedcahoifoaaGreatDoor

import Derived.Deep.RegionWith
import Derived.IntWalk
import Derived.Laws.IdiomStrings
import Derived.Laws.EntriesVeiled
import Derived.Laws.StructEq
import Derived.ScopeJumps
import Derived.WalkMore
import Derived.Laws.BitsAllLaws
import Derived.MapKept
import Derived.Maps.OwnOps
import Derived.Lib.SliceRun
import Derived.Stop.Asserts
import Derived.LaidEql
import Derived.Test.YtfcnedcahoifoaaGreatDoorA
namespace Go.Proofs.YtfcnedcahoifoaaGreatDoor
open Go.RowKit
open _root_.Array renaming getElem?_eq_none→fH,getElem?_eq_some_iff→aw,getElem?_modify→g_,toList_empty→gP
open _root_.BitVec renaming ofInt→jB
open _root_.Bool renaming and_eq_true→ba,false_or→jv,true_and→eF
open _root_.ByteArray renaming size→iG
open _root_.Go renaming Addr→jG,CallsIn→bj2,Calls→jE,Code→bk9,Ending→bi6,Exit→bk7,FuncId→bl9,KeepsOthers→bj4,MapEntry→bk4,Operand→bl7,OwnFrom→bj3,Program→bi3,SeqStopsK→bl1,TypeId→jH,Value→jD,World→jC,YieldAt→bl4,belowK_b→bj6,bodyPost_ret→jF,callsIn_of_wp_marks→bi7,callsIn_of_wp→bj1,callsIn_wide→jI,info_parts→bi5,method→gz,results_cell_row→bl2,results_none→bj7,rounds_succ→bi9,run_takeDeferred→bi2,run_underlying→bi8,wpIn_rangeFunc_ownF→bj9,wpIn_wide→bi4,wpQuiet_nil→bl0,wp_loop_rounds→bj8
open _root_.Go.Addr renaming add→iU
open _root_.Go.Calls renaming quiet_of_same→jd
open _root_.Go.Code renaming wp_mono→jg
open _root_.Go.Ending renaming returned→ff
open _root_.Go.Exit renaming noGoto_ret→cf
open _root_.Go.Fence renaming wide→cz
open _root_.Go.Instr renaming findNow→eI,lookup→eU,mapUpdate→fG,typeAssert→dd
open _root_.Go.IntWalk renaming i64_in→dv,u64_in→gC,wrap64_in→e_
open _root_.Go.KeepsOthers renaming refl→gq,setCell→b7
open _root_.Go.Lib renaming hid→ai,run_eql_slice_nil→fR
open _root_.Go.Oper renaming semAt_some→db
open _root_.Go.Result renaming andThen_ok→iF,andThen→dw
open _root_.Go.RowKit renaming intOf→av
open _root_.Go.Sem renaming run_bind→eT,run_pure→fX
open _root_.Go.Value renaming int→br
open _root_.Go.World renaming alloc_heap_new→du,block_lt_of_cell?→b8,cell?_alloc_lt→dt,cell?_of_block→co,cell?→fJ,drewN_drewN→jr,frozen?_alloc_old→gA,frozen?→ju,ownsRow_made→gO,putObj_heap_other→dx,putObj_heap_same→gN,setCell→bj,size_alloc→b_
open _root_.Int renaming eq_ofNat_of_zero_le→fm,toNat_natCast→dM
open _root_.List renaming all_append→gT,all_eq_true→dZ,append_toArray→gj,cons_append→dj,eq_nil_of_length_eq_zero→da,ext_getElem→iO,flatMap_cons→dg,getElem?_append_left→eL,getElem?_append_right→d7,getElem?_eq_getElem→an,getElem?_take→gJ,getElem_mem→ar,getLast?_eq_getElem?→fv,length_append→cd,length_cons→c_,length_map→ax,length_nil→dp,length_range→fo,map_map→fY,mem_append→ed,mem_flatMap→ir,mem_iff_getElem→ik,mem_map→dq,mem_of_getElem?→cm,mem_of_mem_take→dy,mem_range→dh,mem_singleton→eM,nil_append→dz,push_toArray→fW,range_succ→fV,range→bu,size_toArray→jn,take_length→dP,take_nil→iT,take_of_length_le→cl,take_prefix→eS,take_succ_eq_append_getElem→aj,take_zero→fO
open _root_.Nat renaming add_assoc→gW,add_mul→iY,le_refl→ay,le_trans→a_,lt_of_lt_of_le→cn,lt_or_ge→fB,mod_lt→jj,pow_le_pow_right→ep,reduceAdd→ao,reduceSub→dk,two_pow_pos→ee,zero_add→au,zero_le→be,zero_mul→fh
open _root_.UInt8 renaming ofNat→gH,toNat_ofNat'→ji
open _root_.Bool renaming false→u?,true→t?
open _root_.Go.Ending renaming returned→a?
open _root_.Go.IntKind renaming i64→o?,u64→n?,u8→p?
open _root_.Go.Obj renaming cells→m?
open _root_.Go.Value renaming agg→g?,bool→h?,func→k?,iface→i?,int→c?,nilIface→j?,pointer→e?,slice→b?,string→f?,tuple→d?
open _root_.Option renaming none→Z,some→M
open _root_.Or renaming inl→r?,inr→s?
open _root_ renaming Array→x?,Bool→z?,ByteArray→v?,Int→I,List→E,Nat→O,Option→w?,beq_eq_false_iff_ne→G?,beq_false_of_ne→J?,congrArg→C?,decide_eq_false→E?,decide_eq_true_eq→D?,decide_eq_true→F?,if_neg→A?,if_pos→B?
set_option maxRecDepth 100000
set_option maxHeartbeats 16000000
set_option linter.unusedVariables false
set_option linter.unusedSimpArgs false
set_option linter.defProp false
structure SdD(x0:w? jG)(x1:E I)(x2:O) where
def dD(c:w? jG)(a:E I)(b:O):SdD c a b:=⟨⟩
instance(x0:w? jG)(x1:E I)(x2:O):CoeOut (SdD x0 x1 x2) jD:=⟨λ_=>g? #[jN x0 x1 x2]⟩
namespace Ex
def mz(l:E I)(k:O):z?:=(bu k).all λi=>decide (i=0)||decide (nth l (i-1)<nth l i)
def kg(l:E I):z?:=decide (l.length<=64)&&mz l l.length
def D3(l:E I)(k:O):mz l (k+1)=(mz l k&&(decide (k=0)||decide (nth l (k-1)<nth l k))):=by
 simp[mz,fV]
variable{l:E I}{k:O}
def JB{m:O}(h:mz l m=t?)(a:k<=m):mz l k=t?:=by
 simp only[mz,dZ,dh]at*;exact λi b=>h i jS
def BZ(b:k<l.length)(h:mz l (k+1)=u?):kg l=u?:=by
 cases a:kg l with
 |false=>rfl
 |true=>
  simp only[kg,ba]at a;rw[JB a.2 jS]at h
  cases h
def j_(w:jC)(B:O)(A:w? jG)(c:O)(l:E I)(C:Sl w B A l)(L:B<=w.heap.size)(J:l.length<=9223372036854775807):jE Tryz.prog 199 #[dD A l c] w λe w'=>e=a? (h? (kg l))/\w.alloc (m? #[jN A l c] 127)=w':=by
 by_cases F:64<l.length
 .have q:Hid (kg l=u?):=by show kg l=u?;simp[kg];omega
  have n:decide (64<(l.length:I))=t?:=mO;go_in;go_wp2;go_ret;exact⟨jU q.out.symm,rfl⟩
 have n:decide (64<(l.length:I))=u?:=mO;go_in;go_wp2;go_loop[12] (λi=>∃k:O,k<=l.length/\i=c? o? k/\mz l k=t?) (λi=>l.length-(intOf i).toNat)
 case atStart=>exact⟨0,be _,rfl,rfl⟩
 obtain⟨k,K,rfl,q⟩:=hrel;have t:=ah q;by_cases a:k<l.length
 .obtain⟨b,f,rfl,H,m⟩:=C.at_ jS;have z:b<w.heap.size:=jS;have y:b≠w.heap.size:=jS;have r:w.cell? ⟨b,f+k,Z⟩=M (c? n? (nth l k)):=m k a;have g:=D3 l k;rw[t]at g;by_cases v:k=0
  .subst v;have G:w.cell? ⟨b,f,Z⟩=M (c? n? (nth l 0)):=r;have d:Hid (mz l (0+1)=t?):=by rw[g];rfl
   clear g m;go_wp2;go_round
   case rel=>exact⟨1,by omega,by go_num,d⟩
   simp[intOf];omega
  have D:=m (k-1) jS;have x:0<k:=jS;by_cases h:nth l (k-1)<nth l k
  .have d:Hid (mz l (k+1)=t?):=by show mz l (k+1)=t?;rw[g];simp[h]
   have s:¬nth l k<=nth l (k-1):=jS;go_wp2;go_round
   case rel=>exact⟨k+1,jS,CJ,d⟩
   simp[intOf];omega
  have d:Hid (mz l (k+1)=u?):=by show mz l (k+1)=u?;rw[g];simp[h,v]
  have o:=ah (BZ a d);have s:nth l k<=nth l (k-1):=jS;go_wp2;go_ret;exact⟨jU o.symm,rfl⟩
 have o:Hid (kg l=t?):=by
  obtain rfl:k=l.length:=jS;show kg l=t?;simp[kg,t.out];omega
 go_wp2;go_ret;exact⟨jU o.symm,rfl⟩
def nV(l m:E I)(k:O):z?:=(bu k).all λi=>decide (nth l i=nth m i)
def ts(l m:E I)(k:O):nV l m (k+1)=(nV l m k&&decide (nth l k=nth m k)):=by simp[nV,fV]
def Cj(l m:E I):z?:=decide (l=m)
variable{m:E I}
def vG(h:l.length≠m.length):Cj l m=u?:=by
 simp only[Cj,decide_eq_false_iff_not];rintro rfl;exact h rfl
def tS(h:l.length=m.length)(hs:nV l m l.length=t?):Cj l m=t?:=by
 simp only[Cj,D?];simp only[nV,dZ,dh,D?]at hs;refine iO h λi a b=>?_;have:=hs i a;simpa[nth,a,b]using this
def vF(a:nth l k≠nth m k):Cj l m=u?:=by
 simp only[Cj,decide_eq_false_iff_not];rintro rfl;exact a rfl
def xQ(w:jC)(B c c2:O)(A A2:w? jG)(l m:E I)(F:Sl w B A l)(q:Sl w B A2 m)(Q:l.length<=1152921504606846976)(N:m.length<=1152921504606846976):jE Tryz.prog 203 #[jN A l c,jN A2 m c2] w λe w'=>e=a? (h? (Cj l m))/\∃k,w'=w.drewN k:=by
 by_cases a:l.length=m.length
 .have x:((l.length:I)!=(m.length:I))=u?:=by simp[a]
  have r:=ah a;go_in;go_wp2;go_loopw[13] (λi wr=>∃k n:O,k<=l.length/\i=c? o? k/\nV l m k=t?/\wr=w.drewN n) (λi _=>l.length-(intOf i).toNat)
  case atStart=>exact⟨0,0,be _,rfl,rfl,rfl⟩
  obtain⟨k,n,K,rfl,G,rfl⟩:=hrel;have s:=ah G;by_cases f:k<l.length
  .have h:k<m.length:=by rw[<-r];exact f
   obtain⟨b,C,rfl,_,v⟩:=F.at_ jS;obtain⟨J,t,rfl,_,o⟩:=q.at_ jS;have H:=v k f;have y:=o k h;have L:(k:I)<l.length:=jS;have D:(k:I)<m.length:=jS;by_cases j:nth l k=nth m k
   .have p:(nth l k !=nth m k)=u?:=by simp[j]
    have d:Hid (nV l m (k+1)=t?):=by show nV l m (k+1)=t?;rw[ts,s];simp[j]
    go_wp2;go_quiet(fail);go_wp2;go_roundw
    case rel=>exact⟨k+1,_,jS,CJ,d,rfl⟩
    simp[intOf];omega
   have p:(nth l k !=nth m k)=t?:=by simp[j]
   have d:=ah (vF j);go_wp2;go_quiet(fail);go_wp2;go_ret;exact⟨jU d.symm,_,jr _ _ _⟩
  obtain rfl:k=l.length:=jS;have d:=ah (tS r s);go_wp2;go_ret;exact⟨jU d.symm,_,rfl⟩
 have x:((l.length:I)!=(m.length:I))=t?:=mO;have d:=ah (vG a);go_in;go_wp2;go_ret;exact⟨jU d.symm,0,rfl⟩
def tr(w:jC)(c c2:O)(A A2:w? jG)(l m:E I)(f:Sl w w A l)(b:Sl w w A2 m)(h:l.length<=1152921504606846976)(g:m.length<=1152921504606846976):jE Tryz.prog 160 #[dD A l c,dD A2 m c2] w λe w'=>e=a? (h? (Cj l m))/\Below w w w':=by
 have d:=ah f;have a:=ah b;go_in;go_wp2_with fail;refine(xQ _ w c c2 A A2 l m (by exact d.al (jP (jP (jQ _) _) _)) (by exact a.al (jP (jP (jQ _) _) _)) h g).mono ?_;rintro e j⟨rfl,k,rfl⟩;go_wp2;go_ret;exact⟨rfl,below_drewN (jP (jP (jQ _) _) _) _⟩
end Ex
structure SaG(x0:jC) where
def aG(a:jC):SaG a:=⟨⟩
instance(x0:jC):CoeOut (SaG x0) jG:=⟨λ_=>⟨x0.heap.size+1+1,0,Z⟩⟩
structure SaZ(x0:jC) where
def aZ(a:jC):SaZ a:=⟨⟩
instance(x0:jC):CoeOut (SaZ x0) Prop:=⟨λ_=>x0.heap.size<=x0.heap.size+1⟩
instance(x0:jC):CoeSort (SaZ x0) Prop:=⟨λ_=>x0.heap.size<=x0.heap.size+1⟩
structure ScQ(x0:v?) where
def cQ(a:v?):ScQ a:=⟨⟩
instance(x0:v?):CoeOut (ScQ x0) Obj:=⟨λ_=>(m? #[jL x0] 9)⟩
namespace Hl
def nO(b:I):z?:=decide (3<=b/\b<=8)
variable{b:I}
def UV(h:nO b=t?):3<=b/\b<=8:=by simpa[nO]using h
def bits_nat(h:nO b=t?):∃B:O,b=B/\3<=B/\B<=8:=by
 obtain⟨c,a⟩:=UV h;exact⟨b.toNat,jS,jS,jS⟩
section
open Go.RowKit Go.Shelf
end
def pl(b:I)(w:jC):jE Tryz.prog 239 #[jJ b] w λe w'=>e=a? (h? (nO b))/\w=w':=by
 by_cases c:3<=b
 .by_cases a:b<=8
  .go_in;go_wp2;go_ret;exact⟨jU (by simp[nO];omega),rfl⟩
  go_in;go_wp2;go_ret;exact⟨jU (by simp[nO];omega),rfl⟩
 go_in;go_wp2;go_ret;exact⟨jU (by simp[nO];omega),rfl⟩
def mJ(l:E O)(k:O):O:=(l[k]?).getD 0
def Bytes(l:E O):Prop:=∀x∈l,x<256
structure By(w:jC)(g:O)(l:E O):Prop where
 lt:g<w.heap.size
 cell:∀j,j<l.length->w.cell? ⟨g,j,Z⟩=M (c? p? ((mJ l j:O):I))
 free:∀j,j<l.length->w.frozen? ⟨g,j,Z⟩=u?
variable{l:E O}
def Bk(h:Bytes l)(k:O):mJ l k<256:=by
 unfold mJ
 cases e:l[k]? with
 |none=>simp
 |some x=>exact h x (cm e)
section
variable{w w':jC}{g:O}{l:E O}
def By.keep(h:By w g l)(hs:w.heap.size<=w'.heap.size)(b:w'.heap[g]? =w.heap[g]?):By w' g l:=
 ⟨cn h.lt hs,λj a=>(co b).trans (h.cell j a),λj a=>by
  have:=h.free j a;unfold ju at this⊢;rw[b];exact this⟩
def By.later(h:By w g l)(a:Below w w w'):By w' g l:=h.keep a.size (a.block g h.lt)
variable{row:w? O}
def By.grown(h:By w g l)(a:w.grownBy w' row)(b:M g≠row):By w' g l:=h.keep a.size (a.block g h.lt b)
def By.alloc(h:By w g l)(o:Obj):By (w.alloc o) g l:=h.later ((Below.refl _ _).alloc aa o)
def By.kept(h:By w g l)(d:0<l.length)(c:w.grownBy w' row)(b:∀r,row=M r->(aH w r)):By w' g l:=by
 refine h.grown c (λe=>?_);obtain⟨o,f,a⟩:=b g e.symm;have:=h.cell 0 d;unfold fJ at this;simp only[f]at this
 cases o<;>first|(simp at this;done)|(simp[Obj.isCells]at a;done)
end
def bs(l:E O):v?:=⟨(l.map gH).toArray⟩
def oA(l:E O):(bs l).size=l.length:=by simp[bs,iG]
variable{B:O}
def Ae(a:3<=B)(b:B<=8):8<=2^B/\2^B<=256:=
 ⟨a_ B8 (ep B8 a),a_ (ep B8 b) B8⟩
section
open Go.RowKit Go.Shelf
attribute [local go_sem] db
def xu(s:ByteArray)(w:jC):jE Tryz.prog 240 #[jL s] w λe w'=>e=.returned (.func (.func 259) #[] #[jO w])/\w.alloc (cQ s)=w':=by
 go_in;go_wp2;go_ret;exact⟨rfl,rfl⟩
variable{k:O}
def Iv(h:Bytes l)(b:k<(bs l).size):((bs l)[k]).toNat=mJ l k:=by
 have a:k<l.length:=by rwa[oA]at b
 have:=Bk h k;have e:mJ l k=l[k]:=by simp[mJ,a]
 have c:(bs l)[k]=gH l[k]:=by
  show(bs l).data[k]=_;simp[bs]
 rw[c,e,ji];omega
def yw(n:O)(hn:1<=n)(s g:O)(a:E O)(hL:Bytes a)(b:E (At a.length))(q:b.map (·.1)=bu a.length)(r:a.length<=65536)(w:jC)(L:s≠g)(H:jR w s 9 #[jL (bs a)]):bl1 cz n Tryz.prog 259 #[jO s] (λx:At a.length=>#[br o? (x.1:I),br p? ((mJ a x.1:O):I)]) (kZ w g) (λys=>ys=b) (λB=>B <+: b) a.length w:=λl J Jx W D _ _ hY h0=>by
 have j:b.length=a.length:=by rw[<-ax (f:=(·.1)),q,fo]
 have V:=oA a;have R:=ah q;have v:=H.later D;have HB:=ah H;have y:=v.one;have HW:=ah D;refine bj1 Tryz.func259 rfl trivial ?_ rfl;simp only[Tryz.ntmps259,xb,ao,dk];gi_wp2;gi_loopw[6] (λi wr=>∃k:O,k<=b.length/\i=c? o? k/\J (b.take k) wr/\kZ w g W wr)
  (λi _=>b.length-(intOf i).toNat)
 case atStart=>exact⟨0,be _,rfl,h0,og _ _ _⟩
 obtain⟨k,hk,rfl,d,p⟩:=hrel;by_cases c:k<b.length
 .have C:=(co (p.2 s HB.lt L)).trans y;have Y:(b[k]).1=k:=by
   have:=C? (λt=>t[k]?) R;simp[c,j▸c]at this;exact this
  have ht:=aj c;have F:=ah ht;obtain⟨fn,K,assign,G,T,N⟩:=hY _ (b[k]) wr d mO;rw[Y]at T;have X:∀h:k<(bs a).size,((bs a)[k]'h).toNat=mJ a k:=λh=>Iv hL h;gi_wp2;try simp only[X]
  gi_wp2;refine N.mono ?_;rintro e W3(⟨rfl,z,A⟩|⟨rfl,o⟩)
  .gi_wp2;go_roundw
   case rel=>exact⟨k+1,jS,lV,by rw[F];exact z,l_ p A⟩
   simp[intOf];omega
  gi_wp2;refine jF (bj7 rfl _ _ _) rfl ?_;refine⟨⟨_,rfl⟩,s? ⟨_,?_,o⟩⟩;rw[<-F];exact eS _ _
 obtain rfl:k=b.length:=jS;gi_wp2;go_end0;exact⟨⟨_,rfl⟩,r? ⟨_,dP,d⟩⟩
end
def NS(h:nO b=u?)(w:jC):jE Tryz.prog 239 #[jJ b] w λe w'=>e=a? (h? u?)/\w'=w:=(pl b w).mono λ_ _⟨a,c⟩=>⟨by rw[a,h],c.symm⟩
def AJ(h:nO b=t?)(w:jC):jE Tryz.prog 239 #[jJ b] w λe w'=>e=a? (h? t?)/\w'=w:=(pl b w).mono λ_ _⟨a,c⟩=>⟨by rw[a,h],c.symm⟩
def JC(b:I)(l:E O)(w:jC)(c:nO b=u?):jE Tryz.prog 200 #[g? #[jJ b,jL (bs l)]] w λe w'=>e=a? (h? u?)/\Below w w w':=by
 have H:=ah c;have a:Hid (Below w w (w.alloc (m? #[jJ b,jL (bs l)] 129))):=jP (jQ _) _;go_in;go_wp2_with fail;go_step3;go_wp2;go_quiet((go_at_call 239;exact jd (NS H _)));go_wp2;rw[cf];go_ret;exact⟨rfl,below_drewN a _⟩
section
attribute [local go_sem] db
def kD(b:I)(l:E O):z?:=nO b&&decide (l.length=2^b.toNat)&&decide (∀x∈l,x<=65-b.toNat)
def lh(h:kD b l=t?):∃B:O,b=B/\3<=B/\B<=8/\l.length=2^B/\(∀x∈l,x<=65-B):=by
 simp only[kD,ba,D?]at h;obtain⟨⟨e,a⟩,c⟩:=h;obtain⟨B,rfl,d,f⟩:=bits_nat e;rw[dM]at a c;exact⟨B,rfl,d,f,a,c⟩
def rE(d:3<=B)(c:B<=8)(a:l.length=2^B)(b:∀x∈l,x<=65-B):kD B l=t?:=by
 simp only[kD,ba,D?];exact⟨⟨by simp[nO];omega,by rw[dM];exact a⟩,by rw[dM];exact b⟩
def Ea(a:3<=B)(c:B<=8):∃N:O,2^B=N/\wrap64 ((2:I)^B)=(N:I)/\IntKind.i64.wrap ((2:I)^B)=(N:I)/\8<=N/\N<=256:=by
 obtain⟨p1,b⟩:=Ae a c;have e:(2:I)^B=((2^B:O):I):=lV;refine⟨2^B,rfl,?_,?_,p1,b⟩
 .rw[e];unfold wrap64;omega
 rw[e];exact dv _ jS
def Nl(B:O)(l:E O)(w:jC)(g:3<=B)(h:B<=8)(k:l.length≠2^B):jE Tryz.prog 200 #[g? #[jJ B,jL (bs l)]] w λe w'=>e=a? (h? u?)/\Below w w w':=by
 obtain⟨N,a,b,c,j,m⟩:=Ea g h;rw[a]at k;have d1:((l.length:I)!=(N:I))=t?:=by simp;omega
 have H:=ah (show nO (B:I)=t? by simp[nO];omega);have d:Hid (Below w w (w.alloc (m? #[jJ B,jL (bs l)] 129))):=jP (jQ _) _;have f:=oA l;go_in;go_wp2_with fail;go_step3;go_wp2;go_quiet((go_at_call 239;exact jd (AJ H _)));go_wp2;rw[cf];go_ret;exact⟨rfl,below_drewN d _⟩
def Jf(w:jC)(n:O)(a b c:x? jD)(d f g:jH):Below w w ((((w.alloc (m? a d)).drewN n).alloc (m? b f)).alloc (m? c g))/\jR ((((w.alloc (m? a d)).drewN n).alloc (m? b f)).alloc (m? c g)) w d a/\ jR ((((w.alloc (m? a d)).drewN n).alloc (m? b f)).alloc (m? c g)) (w.heap.size+1) f b/\jR ((((w.alloc (m? a d)).drewN n).alloc (m? b f)).alloc (m? c g)) (aN w) g c/\ ((((w.alloc (m? a d)).drewN n).alloc (m? b f)).alloc (m? c g)).heap.size=w.heap.size+3:=by
 refine⟨jP (jP (below_drewN (jP (jQ _) _) _) _) _,?_,?_,?_,lV⟩
 .have h:=jR.new w d a;exact(h.alloc _).alloc _
 .have h:=(jR.new ((w.alloc (m? a d)).drewN n) f b).alloc (m? c g);have e:((w.alloc (m? a d)).drewN n).heap.size=w.heap.size+1:=lV;rwa[e]at h
 have h:=jR.new (((w.alloc (m? a d)).drewN n).alloc (m? b f)) g c;have e:(((w.alloc (m? a d)).drewN n).alloc (m? b f)).heap.size=w.heap.size+1+1:=lV;rwa[e]at h
def RtI(w:jC)(N:O)(B:O)(l:E O)(a:E (At N))(W:jC):Prop:=
 jR W (w.heap.size+1) 4 #[h? t?]/\jR W w 129 #[jJ B,jL (bs l)]/\(∀p∈a,mJ l p.1<=65-B)/\Below w w W
def RtX(w:jC)(N:O)(B:O)(l:E O)(c:bk9)(a:E (At N))(W:jC):Prop:=
 c=.exit 0/\jR W (w.heap.size+1) 4 #[h? u?]/\(∃p∈a,65-B<mJ l p.1)/\Below w w W
variable{w:jC}
def U_{N:O}{Bd:O}(j:w.heap.size<=Bd):bj3 Bd (RtI w N B l):=by
 rintro s W m row⟨g,f,h,d⟩ b c;have a:∀r,row=M r->(aH W r):=λr e=>(c r e).2;exact⟨g.kept b a,f.kept b a,h,d.grown b d.size (λk e=>a_ j (c k e).1)⟩
def U9{N:O}{c:bk9}{Bd:O}(m:w.heap.size<=Bd):bj3 Bd (RtX w N B l c):=by
 rintro s W n row⟨h,g,j,f⟩ d b;have a:∀r,row=M r->(aH W r):=λr e=>(b r e).2;exact⟨h,g.kept d a,j,f.grown d f.size (λk e=>a_ m (b k e).1)⟩
def MC{p:O}(h:p<l.length):mJ l p∈l:=by
 have:mJ l p=l[p]:=by simp[mJ,h]
 rw[this];exact ar h
def Ud{x:O}(h:x∈l):∃p,p<l.length/\mJ l p=x:=by
 obtain⟨p,a,e⟩:=ik.1 h;exact⟨p,a,by simp[mJ,a,e]⟩
def z_(B:Nat)(l:List Nat)(w:jC)(h3:3<=B)(h8:B<=8)(t:l.length=2^B)(T:Bytes l):bj2 cz 6 Tryz.prog 200 #[.agg #[jJ B,jL (bs l)]] w λe w'=>e=.returned (.bool (decide (∀x∈l,x<=65-B)))/\Below w w w':=by
 obtain⟨N,G,β,γ,α,Rx⟩:=Ea h3 h8;rw[G]at t;have d1:((l.length:Int)!=(N:Int))=false:=mO;have H:=ah (show nO (B:Int)=true by simp[nO];omega);have δ:=oA l;have X:=ah t;clear G t;refine bi7 Tryz.func200 rfl trivial ?_ rfl;simp only[Tryz.ntmps200,xb,ao,dk];refine bi4.2 ?_;go_wp2_with fail;go_step3;go_wp2_with fail;go_quiet((go_at_call 239;exact jd (AJ H _)));go_wp2_with fail;try go_step3
 go_wp2_with fail;refine(xu _ _).mono ?_;rintro e w'⟨rfl,rfl⟩;go_wp2_with fail;obtain⟨v,J,C,hY,A⟩:=Jf w nq #[jJ B,jL (bs l)] #[.bool true] #[jL (bs l)] 129 4 9;generalize(((w.alloc (.cells #[jJ B,jL (bs l)] 129)).drewN nq).alloc (.cells #[.bool true] 4)).alloc (.cells #[jL (bs l)] 9)=V at*;obtain⟨zs,o⟩:=mH (N:=l.length) (bu l.length) (λp f=>dh.1 f);have Q:=ah o;have r:RtI w l.length B l [] V:=⟨C,J,(λp f=>by cases f),v⟩;have Df:l.length<=256:=by rw[X];exact Rx
 clear o J C;refine(bi4 (n:=6)).1 ?_;refine bj9 rfl (by omega) (gf:=259) (lb:=#[.pointer (some ⟨w.heap.size+1+1,0,none⟩)]) rfl trivial (enters_of Tryz.func259 (by kernel_rfl) rfl)
  (yw 5 (by omega) (w.heap.size+1+1) (w.heap.size+1) l T zs Q (by omega) V (by omega) hY)
  (λh k=>l_ h k) (qf (by omega)) (Below.refl _ _) (λ_=>rfl)
  (RtI w l.length B l) (RtX w l.length B l) (U_ (by omega)) (λc=>U9 (by omega)) r
  (λx=>{tmps:=#[.agg #[jJ B,jL (bs l)],jO w,.bool false,.pointer (some (aE w)),undef,.int .u8 ((mJ l x.1:Nat):Int),jO w,jJ B,.bool true,
   .bool false,.bool false,.pointer (some ⟨w,1,none⟩),jL (bs l),jJ (l.length:Int),jO w,jJ B,jJ (N:Int),.bool false,.bool false,
   .pointer (some ⟨w,1,none⟩),jL (bs l),.func (.func 259) #[] #[.pointer (some (aG w))],jJ (x.1:Int),.int .u8 ((mJ l x.1:Nat):Int),undef,undef,undef,undef,undef,undef,undef],defers:=[]}) ?assign ?body ?done ?stop
 case assign=>
  intro l x W K g;gi_wp2;exact g
 case body=>
  rintro l' z⟨p,f⟩ W⟨d,b,a,j⟩ Y;have hv:=Bk T p;have R:=ah d;have HX:=ah b;have c0:=b.cell 0;have c1:=b.cell 1;have L:=d.one;have fg:=d.frozen 0;have z1:=b.lt;have z3:=d.lt;by_cases h0:mJ l p<=65-B
  .have d0:decide ((65:Int)-(B:Int)<((mJ l p:Nat):Int))=false:=mO;gi_wp2_with fail;exact⟨gq _,og _ _ _,R,HX,λq y=>by
    rcases ed.1 y with h|h
    .exact a q h
    rw[eM.1 h];exact h0,j⟩
  have d0:decide ((65:Int)-(B:Int)<((mJ l p:Nat):Int))=true:=mO;gi_wp2_with fail;exact⟨b7 _ _ _,rfl,R.kY 0 _,⟨⟨p,f⟩,lV,by show 65-B<mJ l p;omega⟩,j.setCell (by show(aZ w);omega) _⟩
 case done=>
  rintro D ys W hD rfl⟨d,b,a,j⟩ g;have L:=d.one;have s:=ah a;go_wp2;try rw[cf]
  refine⟨lV,.inl ⟨_,_,rfl,bi2 g,?_⟩⟩;refine⟨.bool true,by simp[results,Tryz.results200,go_sem],jU (Eq.symm (decide_eq_true ?_)),j.trans (bj6 (w:=w) aa _ D _ _ jS g rfl rfl)⟩;intro x b;obtain⟨p,f,rfl⟩:=Ud b;have hm:p∈ys.map (·.1):=by rw[Q];exact dh.2 f
  obtain⟨q,y,rfl⟩:=dq.1 hm;exact s q y
 rintro D c' z W hD F⟨rfl,d,A,j⟩ g;have L:=d.one;have s:=ah A;refine bi4.2 ?_;go_wp2;try rw[cf]
 refine⟨lV,.inl ⟨_,_,rfl,bi2 g,?_⟩⟩;refine⟨.bool false,by simp[results,Tryz.results200,go_sem],jU (Eq.symm (decide_eq_false ?_)),j.trans (bj6 (w:=w) aa _ D _ _ jS g rfl rfl)⟩;intro b;obtain⟨p,f,ε⟩:=s;have:=b _ (MC p.2);omega
def j_(b:I)(l:E O)(g:Bytes l)(w:jC):jE Tryz.prog 200 #[g? #[jJ b,jL (bs l)]] w λe w'=>e=a? (h? (kD b l))/\Below w w w':=by
 cases c:nO b with
 |false=>rw[show kD b l=u? by simp[kD,c]];exact JC b l w c
 |true=>
  obtain⟨B,rfl,f,d⟩:=bits_nat c;by_cases a:l.length=2^B
  .rw[show kD B l=decide (∀x∈l,x<=65-B) by simp[kD,c,a]];exact jI.1 (z_ B l w f d a g)
  rw[show kD B l=u? by simp[kD,a]];exact Nl B l w f d a
end
end Hl
structure SaK(x0:I)(x1:I)(x2:w? jG)(x3:E I)(x4:O) where
def aK(c:I)(a:I)(d:w? jG)(b:E I)(e:O):SaK c a d b e:=⟨⟩
instance(x0:I)(x1:I)(x2:w? jG)(x3:E I)(x4:O):CoeOut (SaK x0 x1 x2 x3 x4) Obj:=⟨λ_=>(m? #[jJ x0,jJ x1,jN x2 x3 x4] 131)⟩
structure SbR(x0:I)(x1:I)(x2:w? jG)(x3:E I)(x4:O) where
def bR(c:I)(a:I)(d:w? jG)(b:E I)(e:O):SbR c a d b e:=⟨⟩
instance(x0:I)(x1:I)(x2:w? jG)(x3:E I)(x4:O):CoeOut (SbR x0 x1 x2 x3 x4) jD:=⟨λ_=>g? #[jJ x0,jJ x1,jN x2 x3 x4]⟩
namespace Cm
def mX(r c:I):z?:=decide (1<=r/\r<=4/\(c=4\/c=8\/c=16\/c=32))
def kP(r c:I)(n:O):z?:=mX r c&&decide ((n:I)=r*c)
variable{c:I}
def tl{r:I}(h:mX r c=t?):1<=r/\r<=4/\(c=4\/c=8\/c=16\/c=32):=by simpa[mX]using h
def UW(a b:I):(a==b)=decide (a=b):=by by_cases h:a=b<;>simp[h]
def Yd(b:4<=c)(a:c<=32):(bits .and o? c (c-1)==0)=decide (c=4\/c=8\/c=16\/c=32):=by
 obtain⟨n,rfl⟩:∃n:O,c=n:=⟨c.toNat,jS⟩;have:n=4\/n=5\/n=6\/n=7\/n=8\/n=9\/n=10\/n=11\/n=12\/n=13\/n=14\/n=15\/n=16\/n=17\/n=18\/n=19\/n=20\/n=21\/n=22\/n=23\/n=24\/n=25\/n=26\/n=27\/n=28\/n=29\/n=30\/n=31\/n=32:=jS;rcases this with rfl|rfl|rfl|rfl|rfl|rfl|rfl|rfl|rfl|rfl|rfl|rfl|rfl|rfl|rfl|rfl|rfl|rfl|rfl|rfl|rfl|rfl|rfl|rfl|rfl|rfl|rfl|rfl|rfl<;>decide
def qV(r c:I)(w:jC):jE Tryz.prog 152 #[jJ r,jJ c] w λe w'=>e=a? (h? (mX r c))/\w=w':=by
 by_cases d:1<=r
 .by_cases b:r<=4
  .by_cases f:4<=c
   .by_cases a:c<=32
    .have g:=Yd f a;go_in;go_wp2;go_ret;exact⟨jU (by simp[mX,d,b]),rfl⟩
    go_in;go_wp2;go_ret;exact⟨jU (by simp[mX];omega),rfl⟩
   go_in;go_wp2;go_ret;exact⟨jU (by simp[mX];omega),rfl⟩
  go_in;go_wp2;go_ret;exact⟨jU (by simp[mX];omega),rfl⟩
 go_in;go_wp2;go_ret;exact⟨jU (by simp[mX];omega),rfl⟩
def j_(r c:I)(A:w? jG)(n cap:O)(w:jC):jE Tryz.prog 201 #[g? #[jJ r,jJ c,b? A n cap]] w λe w'=>e=a? (h? (kP r c n))/\w.alloc (m? #[jJ r,jJ c,b? A n cap] 131)=w':=by
 cases a:mX r c with
 |false=>
  have H:=ah a;go_in;go_wp2_with fail;refine(qV r c _).mono ?_;rintro e w'⟨rfl,rfl⟩;rw[H];go_wp2;go_ret;exact⟨jU (by simp[kP,H.out]),rfl⟩
 |true=>
  obtain⟨j,h,f⟩:=tl a;have d:0<=r*c/\r*c<=128:=by rcases f with rfl|rfl|rfl|rfl<;>omega
  obtain⟨b,g⟩:=d;have H:=ah a;go_in;go_wp2_with fail;refine(qV r c _).mono ?_;rintro e w'⟨rfl,rfl⟩;rw[H];go_wp2;go_ret;exact⟨jU (by simp[kP,H.out,UW]),rfl⟩
structure Cm where
 r:I
 c:I
 l:E I
def nV(l m:E I)(k:O):z?:=(bu k).all λi=>decide (nth l i=nth m i)
def ts(l m:E I)(k:O):nV l m (k+1)=(nV l m k&&decide (nth l k=nth m k)):=by simp[nV,fV]
def Cj(l m:E I):z?:=decide (l=m)
variable{l m:E I}
def vG(h:l.length≠m.length):Cj l m=u?:=by
 simp only[Cj,decide_eq_false_iff_not];rintro rfl;exact h rfl
def tS(h:l.length=m.length)(hs:nV l m l.length=t?):Cj l m=t?:=by
 simp only[Cj,D?];simp only[nV,dZ,dh,D?]at hs;refine iO h λi a b=>?_;have:=hs i a;simpa[nth,a,b]using this
variable{k:O}
def vF(a:nth l k≠nth m k):Cj l m=u?:=by
 simp only[Cj,decide_eq_false_iff_not];rintro rfl;exact a rfl
def xQ(w:jC)(B c c2:O)(A A2:w? jG)(l m:E I)(F:Sl w B A l)(q:Sl w B A2 m)(Q:l.length<=1152921504606846976)(N:m.length<=1152921504606846976):jE Tryz.prog 203 #[jN A l c,jN A2 m c2] w λe w'=>e=a? (h? (Cj l m))/\∃k,w'=w.drewN k:=by
 by_cases a:l.length=m.length
 .have x:((l.length:I)!=(m.length:I))=u?:=by simp[a]
  have r:=ah a;go_in;go_wp2;go_loopw[13] (λi wr=>∃k n:O,k<=l.length/\i=c? o? k/\nV l m k=t?/\wr=w.drewN n) (λi _=>l.length-(intOf i).toNat)
  case atStart=>exact⟨0,0,be _,rfl,rfl,rfl⟩
  obtain⟨k,n,K,rfl,G,rfl⟩:=hrel;have s:=ah G;by_cases f:k<l.length
  .have h:k<m.length:=by rw[<-r];exact f
   obtain⟨b,C,rfl,_,v⟩:=F.at_ jS;obtain⟨J,t,rfl,_,o⟩:=q.at_ jS;have H:=v k f;have y:=o k h;have L:(k:I)<l.length:=jS;have D:(k:I)<m.length:=jS;by_cases j:nth l k=nth m k
   .have p:(nth l k !=nth m k)=u?:=by simp[j]
    have d:Hid (nV l m (k+1)=t?):=by show nV l m (k+1)=t?;rw[ts,s];simp[j]
    go_wp2;go_quiet(fail);go_wp2;go_roundw
    case rel=>exact⟨k+1,_,jS,CJ,d,rfl⟩
    simp[intOf];omega
   have p:(nth l k !=nth m k)=t?:=by simp[j]
   have d:=ah (vF j);go_wp2;go_quiet(fail);go_wp2;go_ret;exact⟨jU d.symm,_,jr _ _ _⟩
  obtain rfl:k=l.length:=jS;have d:=ah (tS r s);go_wp2;go_ret;exact⟨jU d.symm,_,rfl⟩
 have x:((l.length:I)!=(m.length:I))=t?:=mO;have d:=ah (vG a);go_in;go_wp2;go_ret;exact⟨jU d.symm,0,rfl⟩
def yv(x y:Cm):z?:=decide (x.r=y.r/\x.c=y.c/\x.l=y.l)
def tr(r c f b:I)(A B:w? jG)(l m:E I)(cap d:O)(w:jC)(p:Sl w w A l)(j:Sl w w B m)(s:l.length<=1152921504606846976)(q:m.length<=1152921504606846976):jE Tryz.prog 161 #[bR r c A l cap,bR f b B m d] w λe w'=>e=a? (h? (yv ⟨r,c,l⟩ ⟨f,b,m⟩))/\Below w w w':=by
 by_cases g:r=f
 .by_cases h:c=b
  .subst g h;have a:Below w w ((w.alloc (aK r c A l cap)).alloc (aK r c B m d)):=jP (jP (jQ _) _) _;have o:=ah (p.later a);have n:=ah (j.later a);go_in;go_wp2_with fail;refine(xQ _ _ cap d A B l m o n s q).mono ?_;rintro e w'⟨rfl,k,rfl⟩;go_wp2;go_ret;exact⟨jU (by simp[yv,Cj]),below_drewN a _⟩
  subst g;go_in;go_wp2;go_ret;exact⟨jU (by simp[yv,h]),jP (jP (jQ _) _) _⟩
 go_in;go_wp2;go_ret;exact⟨jU (by simp[yv,g]),jP (jP (jQ _) _) _⟩
end Cm
structure ScH where
def cH:ScH:=⟨⟩
instance:CoeOut ScH jD:=⟨λ_=>d? #[jK 0,jK 0,h? u?]⟩
instance(x0:O)(x1:O)(x2:O):CoeOut (IP 33 x0 x1 x2) I:=⟨λ_=>(bits .or n? (IntKind.u64.wrap (2^x0)) (IntKind.u64.wrap ((x1:I)*2^(x0-x2))))⟩
structure ScM where
def cM:ScM:=⟨⟩
instance:CoeOut ScM I:=⟨λ_=>18446744073709551615⟩
namespace Hi
def bnd(f a:O):w? (O×O):=
 if a=0 then M (0,0)
 else if 64<=(a-1)/2^f then Z
 else if f<=(a-1)/2^f then M (2^((a-1)/2^f)+(a-1)%2^f*2^((a-1)/2^f-f),2^((a-1)/2^f)+(a-1)%2^f*2^((a-1)/2^f-f)+(2^((a-1)/2^f-f)-1))
 else if(a-1)%2^f%2^(f-(a-1)/2^f)=0 then M (2^((a-1)/2^f)+(a-1)%2^f/2^(f-(a-1)/2^f),2^((a-1)/2^f)+(a-1)%2^f/2^(f-(a-1)/2^f))
 else Z
abbrev jX:=E (I×I)
def cap(a:I):I:=min a cM
def ld(f:I):z?:=decide (0<=f/\f<=3)
def qZ{f:I}(h:ld f=t?):0<=f/\f<=3:=by simpa[ld]using h
def lK(b:I)(w:jC):jE Tryz.prog 241 #[jJ b] w λe w'=>e=a? (h? (ld b))/\w=w':=by
 by_cases c:0<=b
 .by_cases a:b<=3
  .go_in;go_wp2;go_ret;exact⟨jU (by simp[ld];omega),rfl⟩
  go_in;go_wp2;go_ret;exact⟨jU (by simp[ld];omega),rfl⟩
 go_in;go_wp2;go_ret;exact⟨jU (by simp[ld];omega),rfl⟩
variable{P:bi3}{a:Act}{w:jC}{Q:bk7->Act->jC->Prop}
def rW{c b:bk9}(l:O)(f:findLabel c l=M b)(first:c.wp P (Exit.jump l (λa w=>b.wp P (Exit.noGoto Q) a w) Q) a w):(Code.scope c).wp P Q a w:=
 wp_scope_jumps l _ (λ_ _=>0) f first (λa w h=>jg (λe g w' d=>by cases e<;>first|exact d|exact False.elim d) h)
section
variable{l:O}{J:Act->jC->Prop}{Q:bk7->Act->jC->Prop}{a:Act}{w:jC}
end
def I64(x:I):Prop:= -9223372036854775808<=x/\x<=9223372036854775807
def mD(l:E (I×I)):E jD:=l.flatMap λx=>[jJ x.1,jK x.2]
def mC(l:E (I×I))(k:O):I×I:=(l[k]?).getD (0,0)
def oT(l:E (I×I)):Prop:=∀x∈l,I64 x.1/\U x.2
def Sb(w:jC)(B:O)(A:w? jG)(l:E (I×I)):Prop:=Rd w B A (mD l)
def ws(l:E (I×I)):(mD l).length=2*l.length:=by
 induction l with
 |nil=>rfl
 |cons x l a=>simp only[mD,dg,cd,c_,dp]at a⊢;omega
def Hn:∀(l:E (I×I))(j:O),j<l.length->(mD l)[j*2]? =M (c? o? (mC l j).1)/\(mD l)[j*2+1]? =M (c? n? (mC l j).2)
 |[],_,h=>WY
 |x::l,0,_=>by simp[mD,mC]
 |x::l,j+1,h=>by
  have:=Hn l j S6;have b:(mD (x::l))[(j+1)*2]? =(mD l)[j*2]? :=by
   show([_,_]++mD l)[(j+1)*2]? =_;rw[d7 mO];congr 1;simp;omega
  have c:(mD (x::l))[(j+1)*2+1]? =(mD l)[j*2+1]? :=by
   show([_,_]++mD l)[(j+1)*2+1]? =_;rw[d7 mO];congr 1;simp;omega
  have a:mC (x::l) (j+1)=mC l j:=by simp[mC]
  rw[b,c,a];exact this
variable{l:E (I×I)}
def Iu(h:oT l)(j:O):I64 (mC l j).1/\U (mC l j).2:=by
 unfold mC
 cases e:l[j]? with
 |none=>simp[U,I64]
 |some x=>exact h x (cm e)
def oT.take(h:oT l)(n:O):oT (l.take n):=λx a=>h x (dy a)
variable{k:O}
def mR(h:k<l.length):l.take (k+1)=l.take k++[mC l k]:=by
 rw[aj h];simp[mC,h]
section
variable{w w':jC}{B B':O}{A:w? jG}{l:E (I×I)}
def Sb.at_(h:Sb w B A l)(m:0<l.length):∃b a,A=M ⟨b,a,Z⟩/\b<B/\∀j,j<l.length->w.cell? (cP b a j)=M (c? o? (mC l j).1)/\w.cell? (cE b a j)=M (c? n? (mC l j).2):=by
 obtain⟨b,a,e,k,c⟩:=Rd.at_ h (by rw[ws];omega);refine⟨b,a,e,k,λj d=>?_⟩;obtain⟨g,f⟩:=Hn l j d;exact⟨c _ _ g,by rw[gW];exact c _ _ f⟩
end
def Ox(w:jC)(a b:O):(w.drewN a).drewN b=w.drewN (a+b):=by
 exact jr w a b
variable{f:O}
def zC{A:O}(d:f<=3)(j:A<9223372036854775807):bits .and o? (A:I) (wrap64 (wrap64 (2^f)-1))=((A%2^f:O):I):=by
 have g:=ep (n:=2) B8 d;have b:=ee f;have e:(2:I)^f=((2^f:O):I):=by simp
 have c:wrap64 (wrap64 ((2:I)^f)-1)=((2^f-1:O):I):=by
  rw[e,e_ ((2^f:O):I) (by omega),e_ _ (by omega)];omega
 rw[c];have a:(jB 64 (A:I) &&& jB 64 ((2^f-1:O):I)).toNat=A%2^f:=by
  rw[BitVec.toNat_and,ofInt_u64 A (by omega),ofInt_u64 _ (by omega),Nat.and_two_pow_sub_one_eq_mod]
 show IntKind.i64.wrap ((jB 64 (A:I) &&& jB 64 ((2^f-1:O):I)).toNat:O)=_;have h:A%2^f<2^f:=jj _ b;rw[a,IntKind.wrap_i64];omega
def LJ(f A:O):(A:I)/2^f=((A/2^f:O):I):=lV
def VK(f b p:O):z?:=decide (2^f<=p)||decide (b<f)||
 (bits .or n? (IntKind.u64.wrap (2^b)) (IntKind.u64.wrap ((p:I)*2^(b-f)))==((2^b+p*2^(b-f):O):I)&&
 bits .or n? (oZ 33 b p f) (IntKind.u64.wrap (IntKind.u64.wrap (2^(b-f))-1))==((2^b+p*2^(b-f)+(2^(b-f)-1):O):I))
def Pg:((bu 4).all λf=>(bu 64).all λb=>(bu 8).all λp=>VK f b p)=t?:=TO
variable{n m:O}
def ag0{P:O->O->O->z?}(h:((bu n).all λf=>(bu m).all λb=>(bu k).all λp=>P f b p)=t?){b p:O}(d:f<n)(c:b<m)(a:p<k):P f b p=t?:=
 dZ.1 (dZ.1 (dZ.1 h f (dh.2 d)) b (dh.2 c)) p (dh.2 a)
def Pf(f:O)(d:f<4)(b:O)(c:b<64)(p:O)(a:p<8)(g:p<2^f)(e:f<=b):bits .or n? (IntKind.u64.wrap (2^b)) (IntKind.u64.wrap ((p:I)*2^(b-f)))=((2^b+p*2^(b-f):O):I)/\ bits .or n? (oZ 33 b p f) (IntKind.u64.wrap (IntKind.u64.wrap (2^(b-f))-1))=((2^b+p*2^(b-f)+(2^(b-f)-1):O):I):=by
 have:=ag0 Pg d c a;unfold VK at this;rw[ag,ag,jv,jv,ba,beq_iff_eq,beq_iff_eq]at this;exact this
def VM(f b p:O):z?:=decide (2^f<=p)||decide (f<=b)||
 (bits .or n? (IntKind.u64.wrap (2^b)) ((p:I)/2^(f-b))==((2^b+p/2^(f-b):O):I)&&
 (bits .and o? (p:I) (wrap64 (wrap64 (2^(f-b))-1))==0)==decide (p%2^(f-b)=0))
def Pm:((bu 4).all λf=>(bu 4).all λb=>(bu 8).all λp=>VM f b p)=t?:=TO
def FB(f:O)(d:f<4)(b:O)(c:b<4)(p:O)(a:p<8)(g:p<2^f)(e:b<f):bits .or n? (IntKind.u64.wrap (2^b)) ((p:I)/2^(f-b))=((2^b+p/2^(f-b):O):I)/\ (bits .and o? (p:I) (wrap64 (wrap64 (2^(f-b))-1))==0)=decide (p%2^(f-b)=0):=by
 have:=ag0 Pm d c a;unfold VM at this;rw[ag,ag,jv,jv,ba,beq_iff_eq,beq_iff_eq]at this;exact this
def Qn(a:f<=3)(A:O):A%2^f<2^f/\A%2^f<8:=by
 have b:=ep (n:=2) B8 a;have:=jj A (ee f);omega
def IB(f A:O)(c:f<=3)(a:A<9223372036854775807)(k:64<=A/2^f)(w:jC):jE Tryz.prog 242 #[jJ f,jJ (A+1)] w λe w'=>e=a? (cH)/\∃n,w'=w.drewN n:=by
 have d:=ah (show ld f=t? by simp[ld];omega);have h:(((A:I)+1)==0)=u?:=mO;have g:=LJ f A;have j:=zC c a;generalize A/2^f=b at*;generalize A%2^f=p at*;go_in;go_wp2_with fail;refine rW 0 rfl ?_;go_wp2_with fail;refine(lK _ _).mono ?_;rintro e w'⟨rfl,rfl⟩;rw[d];go_wp2;go_quiet(fail);go_wp2_with fail;go_step3;refine And.intro (Eq.refl 0) ?_;dsimp only;go_wp2;rw[cf];exact jF (v:=cH) (by simp[results,Tryz.results242,go_sem]) rfl ⟨rfl,nq,rfl⟩
def Iy(f A:O)(d:f<=3)(j:A<9223372036854775807)(h:A/2^f<64)(c:f<=A/2^f)(w:jC):jE Tryz.prog 242 #[jJ f,jJ (A+1)] w λe w'=>e=a? (d? #[jK ((2^(A/2^f)+A%2^f*2^(A/2^f-f):O):I),jK ((2^(A/2^f)+A%2^f*2^(A/2^f-f)+(2^(A/2^f-f)-1):O):I),h? t?])/\∃n,w'=w.drewN n:=by
 have l:=ah (show ld f=t? by simp[ld];omega);have q:(((A:I)+1)==0)=u?:=mO;have m:=LJ f A;have o:=zC d j;obtain⟨g,k⟩:=Qn d A;have a:=ah (Pf f jS _ h _ k g c);generalize A/2^f=b at*;generalize A%2^f=p at*;go_in;go_wp2_with fail;go_step3;go_wp2_with fail;refine(lK _ _).mono ?_;rintro e w'⟨rfl,rfl⟩;rw[l];go_wp2;go_quiet(fail);go_wp2;go_quiet(fail);go_wp2;rw[cf];refine jF (v:=d? #[jK (oZ 33 b p f),jK (bits .or n? (oZ 33 b p f) (IntKind.u64.wrap (IntKind.u64.wrap (2^(b-f))-1))),h? t?]) (by simp[results,Tryz.results242,go_sem]) rfl ⟨?_,_,(Ox _ _ _)⟩;rw[a.1,<-a.2,a.1]
def Iz(f A:O)(g:f<=3)(j:A<9223372036854775807)(a:A/2^f<f)(c:A%2^f%2^(f-A/2^f)=0)(w:jC):jE Tryz.prog 242 #[jJ f,jJ (A+1)] w λe w'=>e=a? (d? #[jK ((2^(A/2^f)+A%2^f/2^(f-A/2^f):O):I),jK ((2^(A/2^f)+A%2^f/2^(f-A/2^f):O):I),h? t?])/\∃n,w'=w.drewN n:=by
 have l:=ah (show ld f=t? by simp[ld];omega);have s:(((A:I)+1)==0)=u?:=by simp;omega
 have q:=LJ f A;have r:=zC g j;obtain⟨h,k⟩:=Qn g A;obtain⟨d,m⟩:=FB f (by omega) (A/2^f) (by omega) _ k h a;have o:=ah d;rw[F? c]at m;clear d c;generalize A/2^f=b at*;generalize A%2^f=p at*;go_in;go_wp2_with fail;go_step3;go_wp2_with fail;refine(lK _ _).mono ?_;rintro e w'⟨rfl,rfl⟩;rw[l];go_wp2_with fail;go_quiet(fail);go_wp2_with fail;rw[cf];refine jF (v:=d? #[jK (bits .or n? (IntKind.u64.wrap (2^b)) ((p:I)/2^(f-b))),jK (bits .or n? (IntKind.u64.wrap (2^b)) ((p:I)/2^(f-b))),h? t?]) (by simp[results,Tryz.results242,go_sem]) rfl ⟨?_,nq,rfl⟩;rw[o]
def IC(f A:O)(c:f<=3)(h:A<9223372036854775807)(a:A/2^f<f)(d:¬A%2^f%2^(f-A/2^f)=0)(w:jC):jE Tryz.prog 242 #[jJ f,jJ (A+1)] w λe w'=>e=a? (cH)/\∃n,w'=w.drewN n:=by
 have k:=ah (show ld f=t? by simp[ld];omega);have q:(((A:I)+1)==0)=u?:=mO;have m:=LJ f A;have o:=zC c h;obtain⟨g,j⟩:=Qn c A;obtain⟨_,l⟩:=FB f jS (A/2^f) jS _ j g a;rw[E? d]at l;generalize A/2^f=b at*;generalize A%2^f=p at*;go_in;go_wp2_with fail;go_step3;go_wp2_with fail;refine(lK _ _).mono ?_;rintro e w'⟨rfl,rfl⟩;rw[k];go_wp2;go_quiet(fail);go_wp2_with fail;go_step3;go_wp2;rw[cf];exact jF (v:=cH) (by simp[results,Tryz.results242,go_sem]) rfl ⟨rfl,nq,rfl⟩
def Iw(f:O)(b:f<=3)(w:jC):jE Tryz.prog 242 #[jJ f,jJ 0] w λe w'=>e=a? (d? #[jK 0,jK 0,h? t?])/\∃n,w'=w.drewN n:=by
 have a:=ah (show ld f=t? by simp[ld];omega);go_in;go_wp2_with fail;go_step3;go_wp2_with fail;refine(lK _ _).mono ?_;rintro e w'⟨rfl,rfl⟩;rw[a];go_wp2;rw[cf];exact jF (v:=d? #[jK 0,jK 0,h? t?]) (by simp[results,Tryz.results242,go_sem]) rfl ⟨rfl,0,rfl⟩
def Li(f a:I)(b:ld f=u?)(w:jC):jE Tryz.prog 242 #[jJ f,jJ a] w λe w'=>e=a? (cH)/\∃n,w'=w.drewN n:=by
 have c:=ah b;go_in;go_wp2_with fail;refine rW 0 rfl ?_;go_wp2_with fail;refine(lK _ _).mono ?_;rintro e w'⟨rfl,rfl⟩;rw[c];go_wp2_with fail;go_step3;refine And.intro (Eq.refl 0) ?_;dsimp only;go_wp2;rw[cf];exact jF (v:=cH) (by simp[results,Tryz.results242,go_sem]) rfl ⟨rfl,0,rfl⟩
def Lh(f a:I)(b:ld f=t?)(d:a<0)(w:jC):jE Tryz.prog 242 #[jJ f,jJ a] w λe w'=>e=a? (cH)/\∃n,w'=w.drewN n:=by
 have c:=ah b;go_in;go_wp2_with fail;refine rW 0 rfl ?_;go_wp2_with fail;refine(lK _ _).mono ?_;rintro e w'⟨rfl,rfl⟩;rw[c];go_wp2_with fail;go_step3;refine And.intro (Eq.refl 0) ?_;dsimp only;go_wp2;rw[cf];exact jF (v:=cH) (by simp[results,Tryz.results242,go_sem]) rfl ⟨rfl,0,rfl⟩
def lx(f a:I):I×I×z?:=
 if ld f=t?/\0<=a then match bnd f.toNat a.toNat with|some q=>((q.1:O),(q.2:O),t?)|none=>(0,0,u?)else(0,0,u?)
abbrev bdV(q:I×I×z?):jD:=d? #[jK q.1,jK q.2.1,h? q.2.2]
def yO{a:O}(b:f<=3):lx f a=match bnd f a with|some q=>((q.1:O),(q.2:O),t?)|none=>(0,0,u?):=by
 have:ld f=t?:=by simp[ld];omega
 unfold lx;rw[B? ⟨this,jS⟩];simp
def qH(f a:I)(j:I64 a)(w:jC):jE Tryz.prog 242 #[jJ f,jJ a] w λe w'=>e=a? (bdV (lx f a))/\∃n,w'=w.drewN n:=by
 cases h:ld f with
 |false=>
  have e:lx f a=(0,0,u?):=by unfold lx;rw[A? (by simp[h])]
  rw[e];exact Li f a h w
 |true=>
  obtain⟨k,l⟩:=qZ h;obtain⟨F,rfl⟩:=fm k;by_cases g:a<0
  .have e:lx F a=(0,0,u?):=by unfold lx;rw[A? jS]
   rw[e];exact Lh F a h g w
  obtain⟨a,rfl⟩:=fm (show 0<=a by omega);rw[yO jS];unfold I64 at j
  cases a with
  |zero=>exact Iw F jS w
  |succ A=>
   unfold bnd;rw[A? jS,Nat.add_sub_cancel];have d:F<=3:=jS;have c:A<9223372036854775807:=jS;by_cases c1:64<=A/2^F
   .rw[B? c1];exact IB F A d c c1 w
   rw[A? c1];by_cases c2:F<=A/2^F
   .rw[B? c2];exact Iy F A d c jS c2 w
   rw[A? c2];by_cases b:A%2^F%2^(F-A/2^F)=0
   .rw[B? b];exact Iz F A d c jS b w
   rw[A? b];exact IC F A d c jS b w
def S9(l:jX)(k:O):I:=if k=0 then -1 else(mC l (k-1)).1
def okI(f:I)(l:jX)(k:O):z?:=(mC l k).2 !=0&&((lx f (mC l k).1).2.2&&decide (S9 l k<(mC l k).1))
def xF(f:I)(l:jX)(k:O):z?:=(bu k).all (okI f l)
def kg(f:I)(l:jX):z?:=ld f&&xF f l l.length
def Nr(f:I)(l:jX)(k:O):xF f l (k+1)=(xF f l k&&okI f l k):=by
 unfold xF;rw[fV,gT];simp
variable{l:jX}
def Qj{f:I}(a:k<l.length)(h:okI f l k=u?):xF f l l.length=u?:=by
 unfold xF;rw[List.all_eq_false];exact⟨k,dh.2 a,by simp[h]⟩
def IE(l:jX)(k:O):S9 l (k+1)=(mC l k).1:=by simp[S9]
def SD(w:jC)(f:I)(A:w? jG)(n cap:O)(wr:jC):Prop:=
 jR wr w 134 #[jJ f,b? A n cap]/\Below w w wr
def pw{a:jC}(h:Below a a w)(n:O):Below a a (w.drewN n):=below_drewN h n
variable{g:O}{t:jH}{cs:x? jD}
def _root_.Go.Proofs.YtfcnedcahoifoaaGreatDoor.jR.drewN(h:jR w g t cs)(n:O):jR (w.drewN n) g t cs:=h
variable{b:jD}
def _root_.Go.Proofs.YtfcnedcahoifoaaGreatDoor.jR.d0{a:jD}(h:jR w g t #[a,b]):w.cell? ⟨g,0,Z⟩=M a:=h.cell 0
def _root_.Go.Proofs.YtfcnedcahoifoaaGreatDoor.jR.d1{a:jD}(h:jR w g t #[a,b]):w.cell? ⟨g,1,Z⟩=M b:=h.cell 1
def j_(f:I)(A:w? jG)(l:jX)(cap:O)(hU:oT l)(hl:l.length<=9223372036854775807)(w:jC)(L:Sb w w A l):jE Tryz.prog 202 #[g? #[jJ f,jN A l cap]] w λe w'=>e=a? (h? (kg f l))/\Below w w w':=by
 have T:Below w w (w.alloc (m? #[jJ f,jN A l cap] 134)):=jP (jQ _) _;have X:=ah (jR.new w 134 #[jJ f,jN A l cap]);have W:=ah L;clear L
 cases v:ld f with
 |false=>
  have d:=ah v;clear v;go_in;go_wp2_with fail;refine(lK _ _).mono ?_;rintro e w'⟨rfl,rfl⟩;rw[d];go_wp2_with fail;go_ret;exact⟨jU (by simp[kg,d.out]),T⟩
 |true=>
  have d:=ah v;clear v;go_in;go_wp2_with fail;refine(lK _ _).mono ?_;rintro e w'⟨rfl,rfl⟩;rw[d];go_wp2_with fail;have C:Hid (SD w f A l.length cap (w.alloc (m? #[jJ f,jN A l cap] 134))):=⟨X,T⟩;clear X T;go_loopw[3,16] (λb i wr=>∃k:O,k<=l.length/\i=c? o? k/\b=c? o? (S9 l k)/\Hid (xF f l k=t?)/\SD w f A l.length cap wr) (λ_ i _=>l.length-(intOf i).toNat)
  case atStart=>exact⟨0,be _,rfl,rfl,rfl,C⟩
  obtain⟨k,hk,rfl,rfl,K,X,T⟩:=hrel;clear C;have x0:=X.d0;have x1:=X.d1;have zx:=X.lt;have HX:=ah X;clear X;by_cases j:k<l.length
  .obtain⟨b,m,rfl,J,g⟩:=W.at_ (by omega);obtain⟨D,H⟩:=g k j;have i1:=(T.cell (p:=(cP b m k)) J).trans D;have i2:=(T.cell (p:=(cE b m k)) J).trans H;have N:b<wr.heap.size:=by have:=T.size;omega
   have Y:Hid (xF f l (k+1)=okI f l k):=by show _=_;rw[Nr,K,eF]
   have z:Hid (okI f l k=u?->xF f l l.length=u?):=λh=>Qj j h;have s:Hid (okI f l k=((mC l k).2 !=0&&((lx f (mC l k).1).2.2&&decide (S9 l k<(mC l k).1)))):=rfl;have y:Hid (S9 l (k+1)=(mC l k).1):=IE l k;obtain⟨r,u2⟩:=Iu hU k;generalize mC l k=c at*;generalize S9 l k=x at*;generalize G:lx f c.1=q at*;have t:=ah G;have Q:(0:I)<=k:=by omega
   have α:(k:I)<l.length:=by omega
   clear g D H G;by_cases c1:c.2=0
   .have d1:(c.2==0)=t?:=by simp[c1]
    have a:Hid (xF f l l.length=u?):=z (by rw[s];simp[c1]);clear c1;go_wp2_with fail;refine(qH _ _ r _).mono ?_;rintro e w'⟨rfl,n,rfl⟩;rw[t];go_wp2_with fail;go_ret;exact⟨jU (by simp[kg,a.out]),pw (jP T _) _⟩
   have d1:(c.2==0)=u?:=by simp[c1]
   by_cases c2:q.2.2=t?
   .by_cases F:x<c.1
    .have V:decide (c.1<=x)=u?:=by simp;omega
     have a:Hid (xF f l (k+1)=t?):=by show _=_;rw[Y,s,c2];simp[c1,F]
     clear c1;go_wp2_with fail;refine(qH _ _ r _).mono ?_;rintro e w'⟨rfl,n,rfl⟩;rw[t];go_wp2_with fail;go_roundw
     case rel=>exact⟨k+1,by omega,by go_num,by rw[y],a,(HX.alloc _).drewN _,pw (jP T _) _⟩
     simp[intOf];omega
    have V:decide (c.1<=x)=t?:=by simp;omega
    have a:Hid (xF f l l.length=u?):=z (by rw[s];simp[F]);clear c1;go_wp2_with fail;refine(qH _ _ r _).mono ?_;rintro e w'⟨rfl,n,rfl⟩;rw[t];go_wp2_with fail;go_ret;exact⟨jU (by simp[kg,a.out]),pw (jP T _) _⟩
   have B:q.2.2=u?:=by simpa using c2
   have a:Hid (xF f l l.length=u?):=z (by rw[s,B];simp);clear c1 c2;go_wp2_with fail;refine(qH _ _ r _).mono ?_;rintro e w'⟨rfl,n,rfl⟩;rw[t];go_wp2;go_ret;exact⟨jU (by simp[kg,a.out]),pw (jP T _) _⟩
  obtain rfl:k=l.length:=jS;go_wp2;go_ret;exact⟨jU (by simp[kg,d.out,K.out]),T⟩
def _root_.Go.Proofs.YtfcnedcahoifoaaGreatDoor.jR.new2(w:jC)(o:Obj)(t:jH)(cs:x? jD):jR ((w.alloc o).alloc (m? cs t)) (w.heap.size+1) t cs:=by
 have h:=jR.new (w.alloc o) t cs;have e:(w.alloc o).heap.size=w.heap.size+1:=lV;rwa[e]at h
def N5(b:BinOp)(x y:bl7)(xs a:x? jD)(w:jC):(eqGuard b 303 x y (g? xs) (g? a)).run Tryz.prog w=.ok () w:=run_eqGuard_agg w b _ x y xs a oo
def XO(a n b m:I)(w:jC):(Op.equalIn 10000 303 (g? #[jJ a,jK n]) (g? #[jJ b,jK m])).run Tryz.prog w=.ok (a==b&&n==m) w:=by
 have c:Tryz.prog.underlying 303=M (.struct (Tryz.prog.fieldsOf 303)):=oo;rw[run_equalIn_agg w 9999 _ _ _ c oo];simp[Op.eqFields,Program.fieldsOf,Tryz.underlying303,go_sem];by_cases e:a=b<;>by_cases d:n=m<;>simp[e,d]
def LY(p q:I×I)(d:z?)(a:d=decide (p≠q))(w:jC):(binOp .neq 303 (g? #[jJ p.1,jK p.2]) (g? #[jJ q.1,jK q.2])).run Tryz.prog w=.ok (h? d) w:=by
 rw[run_neq_struct,XO,a];simp only[iF];congr 2;by_cases c:p.1=q.1<;>by_cases b:p.2=q.2<;>simp[c,b,Prod.ext_iff]
def vV(f:I)(l:jX)(g:I)(m:jX):z?:=decide (f=g/\l=m)
def EZ{m:jX}(h:l.length=m.length)(k:O)(a:k=l.length)(b:l.take k=m.take k):l=m:=by
 subst a;rwa[cl aa,cl jS]at b
def DN{m:jX}(d:k<l.length)(c:k<m.length)(a:l.take k=m.take k)(b:mC l k=mC m k):l.take (k+1)=m.take (k+1):=by
 rw[mR d,mR c,a,b]
def SmI(w:jC)(f g:I)(A C:w? jG)(n m cap a:O)(wr:jC):Prop:=
 jR wr w 134 #[jJ f,b? A n cap]/\jR wr (w.heap.size+1) 134 #[jJ g,b? C m a]/\Below w w wr
def tr(f g:I)(A C:w? jG)(l m:jX)(cap n:O)(hl:l.length<=65536)(hm:m.length<=65536)(w:jC)(L:Sb w w A l)(J:Sb w w C m):jE Tryz.prog 162 #[g? #[jJ f,jN A l cap],g? #[jJ g,jN C m n]] w λe w'=>e=a? (h? (vV f l g m))/\Below w w w':=by
 have T:Below w w ((w.alloc (m? #[jJ f,jN A l cap] 134)).alloc (m? #[jJ g,jN C m n] 134)):=jP (jP (jQ _) _) _;have X:=ah ((jR.new w 134 #[jJ f,jN A l cap]).alloc (m? #[jJ g,jN C m n] 134));have Y:=ah (jR.new2 w (m? #[jJ f,jN A l cap] 134) 134 #[jJ g,jN C m n]);have HS:=ah L;have HT:=ah J;clear L J;by_cases c1:f=g
 .subst c1;by_cases c2:l.length=m.length
  .have dl:((l.length:I)!=(m.length:I))=u?:=by simp;omega
   have z:=ah c2;have HI:Hid (SmI w f f A C l.length m.length cap n ((w.alloc (m? #[jJ f,jN A l cap] 134)).alloc (m? #[jJ f,jN C m n] 134))):=⟨X,Y,T⟩;clear c2 X Y T;go_in;go_wp2_with fail;go_loopw[24] (λi wr=>∃k:O,k<=l.length/\i=c? o? k/\Hid (l.take k=m.take k)/\SmI w f f A C l.length m.length cap n wr) (λi _=>l.length-(av i).toNat)
   case atStart=>exact⟨0,be _,rfl,rfl,HI⟩
   obtain⟨k,hk,rfl,B,X,Y,T⟩:=hrel;have x0:=X.d0;have x1:=X.d1;have zx:=X.lt;have y1:=Y.d1;have zy:=Y.lt;have HX:=ah X;have HY:=ah Y;by_cases s:k<l.length
   .have a:k<m.length:=by have:=z.out;omega
    obtain⟨b,t,rfl,K,r⟩:=HS.at_ jS;obtain⟨y,d,rfl,x,j⟩:=HT.at_ jS;obtain⟨F,H⟩:=r k s;obtain⟨G,D⟩:=j k a;have i1:=(T.cell (p:=(cP b t k)) K).trans F;have i2:=(T.cell (p:=(cE b t k)) K).trans H;have i3:=(T.cell (p:=(cP y d k)) x).trans G;have i4:=(T.cell (p:=(cE y d k)) x).trans D;have Q:b<wr.heap.size:=by have:=T.size;omega
    have N:y<wr.heap.size:=by have:=T.size;omega
    have HN:Hid (mC l k=mC m k->l.take (k+1)=m.take (k+1)):=λh=>DN s a B h;have HD:Hid (mC l k≠mC m k->l≠m):=λh e=>h (by rw[e]);generalize mC l k=p at*;generalize mC m k=q at*;have R:(0:I)<=k:=jS;have α:(k:I)<l.length:=by omega
    have W:(k:I)<m.length:=by omega
    clear r j F H G D;have gb:=N5;by_cases c:p=q
    .have nb:=LY p q u? (by simp[c]);have o:=ah (HN c);clear c;go_wp2_with fail;go_quiet(fail);go_wp2_with fail;go_roundw
     case rel=>exact⟨k+1,by omega,by go_num,o,(HX.alloc _).drewN _,(HY.alloc _).drewN _,pw (jP T _) _⟩
     simp[av];omega
    have nb:=LY p q t? (by simp[c]);have o:=ah (HD c);clear c;go_wp2_with fail;go_quiet(fail);go_wp2;go_ret;exact⟨jU (by simp[vV,o.out]),pw (jP T _) _⟩
   obtain rfl:k=l.length:=jS;have HR:=ah (EZ z _ rfl B);go_wp2;go_ret;exact⟨jU (by simp[vV,HR.out]),T⟩
  have dl:((l.length:I)!=(m.length:I))=t?:=mO;go_in;go_wp2;go_ret;exact⟨jU (by simp[vV];intro e;exact c2 (by rw[e])),T⟩
 have d1:(f !=g)=t?:=by simp[c1]
 go_in;go_wp2;go_ret;exact⟨jU (by simp[vV,c1]),T⟩
end Hi
structure Sk where
 kind:I
 level:I
 e:E I
 bits:I
 regs:v?
 rows:I
 cols:I
 c:E I
 fine:I
 g:Hi.jX
 deriving DecidableEq
structure SkM where
 s:Sk
 ea:w? jG
 ec:O
 ca:w? jG
 cc:O
 ga:w? jG
 gc:O
def eV(m:SkM):jD:=g? #[jN m.ea m.s.e m.ec]
def hV(m:SkM):jD:=g? #[jJ m.s.bits,jL m.s.regs]
def cV(m:SkM):jD:=g? #[jJ m.s.rows,jJ m.s.cols,jN m.ca m.s.c m.cc]
def gV(m:SkM):jD:=g? #[jJ m.s.fine,jN m.ga m.s.g m.gc]
def nT(m:SkM):jD:=g? #[jJ m.s.kind,jJ m.s.level,jN m.ea m.s.e m.ec,jJ m.s.bits,jL m.s.regs,jJ m.s.rows,jJ m.s.cols,jN m.ca m.s.c m.cc,jJ m.s.fine,jN m.ga m.s.g m.gc]
def YS(m:SkM):E jD:=[jJ m.s.kind,jJ m.s.level,jN m.ea m.s.e m.ec,jJ m.s.bits,jL m.s.regs,jJ m.s.rows,jJ m.s.cols,jN m.ca m.s.c m.cc,jJ m.s.fine,jN m.ga m.s.g m.gc]
structure jY(w:jC)(B:O)(m:SkM):Prop where
 e:Sl w B m.ea m.s.e
 c:Sl w B m.ca m.s.c
 g:Hi.Sb w B m.ga m.s.g
structure t8(s:Sk):Prop where
 e:s.e.length<=1000
 c:s.c.length<=1000
 g:s.g.length<=1000
 regs:s.regs.size<=1000
 gu:Hi.oT s.g
 kind:Hi.I64 s.kind
 level:Hi.I64 s.level
 bits:Hi.I64 s.bits
 rows:Hi.I64 s.rows
 cols:Hi.I64 s.cols
 fine:Hi.I64 s.fine
variable{w w':jC}
def jY.later{m:SkM}(h:jY w w m)(a:Below w w w'):jY w' w' m:=
 ⟨(Rd.below h.e a).more a.size,(Rd.below h.c a).more a.size,(Rd.below h.g a).more a.size⟩
structure mq where
 l:E kI
 k:Sk
 seen:I
 deriving DecidableEq
structure jZ where
 s:mq
 m:SkM
 la:w? jG
 lc:O
 hk:m.s=s.k
def yV(m:jZ):jD:=g? #[jN m.la m.s.l m.lc,jJ m.m.s.kind,jJ m.m.s.level,jN m.m.ea m.m.s.e m.m.ec,jJ m.m.s.bits,jL m.m.s.regs,jJ m.m.s.rows,jJ m.m.s.cols,jN m.m.ca m.m.s.c m.m.cc,jJ m.m.s.fine,jN m.m.ga m.m.s.g m.m.gc,jK m.s.seen]
def ng(m:jZ):E jD:=b? m.la m.s.l.length m.lc::(YS m.m++[c? n? m.s.seen])
structure my(w:jC)(B:O)(m:jZ):Prop where
 l:Lb w B m.la m.s.l
 k:jY w B m.m
structure n_(s:mq):Prop where
 l:s.l.length<=10
 ls:∀x∈s.l,x.1.size<=20/\x.2.size<=120
 k:t8 s.k
 seen:U s.seen
def my.later{m:jZ}(h:my w w m)(a:Below w w w'):my w' w' m:=⟨h.l.later a,h.k.later a⟩
def lS(ms:E jZ):E jD:=ms.flatMap ng
structure Tab(w:jC)(B:O)(A:w? jG)(ms:E jZ):Prop where
 rd:Rd w B A (lS ms)
 ok:∀m∈ms,my w B m
variable{A:w? jG}{ms:E jZ}
def Tab.later(h:Tab w w A ms)(a:Below w w w'):Tab w' w' A ms:=⟨(Rd.below h.rd a).more a.size,λm b=>(h.ok m b).later a⟩
def l7(m:jZ):(ng m).length=12:=by simp[ng,YS]
def vS(ms:E jZ):(lS ms).length=12*ms.length:=by
 induction ms with
 |nil=>rfl
 |cons m ms a=>unfold lS at a⊢;rw[dg,cd,a,l7,c_];omega
def LH:∀(ms:E jZ)(k j:O)(h:k<ms.length),j<12->(lS ms)[k*12+j]? =(ng ms[k])[j]?
 |[],_,_,h,_=>WY
 |m::ms,0,j,_,a=>by
  unfold lS;rw[dg,fh,au,eL (by rw[l7];exact a)];rfl
 |m::ms,k+1,j,h,a=>by
  have b:k<ms.length:=S6;have e:(lS (m::ms))[(k+1)*12+j]? =(lS ms)[k*12+j]? :=by
   unfold lS;rw[dg,d7 (by rw[l7];omega),l7];congr 1;omega
  rw[e,LH ms k j b a];rfl
structure wV(w:jC)(b o:O)(m:jZ):Prop where
 c0:w.cell? ⟨b,o,Z⟩=M (b? m.la m.s.l.length m.lc)
 c1:w.cell? ⟨b,o+1,Z⟩=M (c? o? m.m.s.kind)
 c2:w.cell? ⟨b,o+2,Z⟩=M (c? o? m.m.s.level)
 c3:w.cell? ⟨b,o+3,Z⟩=M (b? m.m.ea m.m.s.e.length m.m.ec)
 c4:w.cell? ⟨b,o+4,Z⟩=M (c? o? m.m.s.bits)
 c5:w.cell? ⟨b,o+5,Z⟩=M (f? m.m.s.regs)
 c6:w.cell? ⟨b,o+6,Z⟩=M (c? o? m.m.s.rows)
 c7:w.cell? ⟨b,o+7,Z⟩=M (c? o? m.m.s.cols)
 c8:w.cell? ⟨b,o+8,Z⟩=M (b? m.m.ca m.m.s.c.length m.m.cc)
 c9:w.cell? ⟨b,o+9,Z⟩=M (c? o? m.m.s.fine)
 c10:w.cell? ⟨b,o+10,Z⟩=M (b? m.m.ga m.m.s.g.length m.m.gc)
 c11:w.cell? ⟨b,o+11,Z⟩=M (c? n? m.s.seen)
variable{B:O}
def Tab.at_(h:Tab w B A ms)(n:0<ms.length):∃b a,A=M ⟨b,a,Z⟩/\b<B/\∀k(c:k<ms.length),wV w b (a+k*12) ms[k]:=by
 obtain⟨b,a,e,l,d⟩:=h.rd (by
  intro e;have m:12*ms.length=0:=by rw[<-vS,e];rfl
  omega)
 refine⟨b,a,e,l,λk c=>?_⟩;have q:∀j v,j<12->(ng ms[k])[j]? =M v->w.cell? ⟨b,a+k*12+j,Z⟩=M v:=λj v g f=>by
  have:=d (k*12+j) v (by rw[LH ms k j c g];exact f);rwa[<-gW]at this
 exact⟨q 0 _ B8 rfl,q 1 _ B8 rfl,q 2 _ B8 rfl,q 3 _ B8 rfl,q 4 _ B8 rfl,q 5 _ B8 rfl,q 6 _ B8 rfl,q 7 _ B8 rfl,q 8 _ B8 rfl,q 9 _ B8 rfl,q 10 _ B8 rfl,q 11 _ B8 rfl⟩
def wV.below{b o:O}{m:jZ}(h:wV w b o m)(d:Below B w w')(c:b<B):wV w' b o m:=by
 have q:∀(i:O)(v:jD),w.cell? ⟨b,i,Z⟩=M v->w'.cell? ⟨b,i,Z⟩=M v:=λi v a=>(d.cell (p:=⟨b,i,Z⟩) c).trans a;exact⟨q _ _ h.c0,q _ _ h.c1,q _ _ h.c2,q _ _ h.c3,q _ _ h.c4,q _ _ h.c5,q _ _ h.c6,q _ _ h.c7,q _ _ h.c8,q _ _ h.c9,q _ _ h.c10,q _ _ h.c11⟩
structure ScO(x0:I)(x1:v?) where
def cO(b:I)(a:v?):ScO b a:=⟨⟩
instance(x0:I)(x1:v?):CoeOut (ScO x0 x1) jD:=⟨λ_=>g? #[jJ x0,jL x1]⟩
def kn(k:I):I:=if k=1 then 4 else if k=2\/k=3 then 3 else -1
def qI(k:I)(w:jC):jE Tryz.prog 112 #[jJ k] w λe w'=>e=a? (c? o? (kn k))/\w=w':=by
 by_cases b:k=1
 .subst b;go_in;go_wp2;go_ret;exact⟨rfl,rfl⟩
 have h:(k==1)=u?:=by rw[G?];exact b
 by_cases a:k=2
 .subst a;go_in;go_wp2;go_ret;exact⟨rfl,rfl⟩
 have f:(k==2)=u?:=by rw[G?];exact a
 by_cases c:k=3
 .subst c;go_in;go_wp2;go_ret;exact⟨rfl,rfl⟩
 have g:(k==3)=u?:=by rw[G?];exact c
 have d:Hid (kn k= -1):=by show _=_;simp[kn,b,a,c]
 clear b a c;go_in;go_wp2;go_ret;exact⟨by rw[d];rfl,rfl⟩
def UE(a b:I)(s t:v?)(w:jC):(binOp .eql 129 (cO a s) (cO b t)).run Tryz.prog w=.ok (h? (a==b&&s.toList==t.toList)) w:=by
 by_cases c:a=b
 .subst c;by_cases d:s.toList=t.toList<;>simp[d,go_sem]
 simp[c,go_sem]
def ZM{x y:Sk}(h:x.kind≠y.kind\/x.level≠y.level\/x.bits≠y.bits\/x.regs≠y.regs\/x.e≠y.e\/x.rows≠y.rows\/x.cols≠y.cols\/x.c≠y.c\/x.fine≠y.fine\/x.g≠y.g):decide (x=y)=u?:=by
 apply E?;rintro rfl;simp at h
def NL(x y:SkM)(w:jC)(hx:jY w w x)(hy:jY w w y)(fx:t8 x.s)(fy:t8 y.s):jE Tryz.prog 113 #[nT x,nT y] w λe w'=>e=a? (h? (decide (x.s=y.s)))/\Below w w w':=by
 have HX:=ah hx;have HY:=ah hy;have K:=ah (jP (jP (jQ w) (m? (YS x).toArray 136)) (m? (YS y).toArray 136));obtain⟨κ,μ,ρ⟩:=hx.later K;obtain⟨θ,ξ,φ⟩:=hy.later K;have ψ:=fx.e;have Θ:=fx.c;have ω:=fx.g;have Γ:=fy.e;have Δ:=fy.c;have χ:=fy.g;clear hx hy fx fy;obtain⟨⟨l,h,e,bits,regs,f,d,c,j,g⟩,ea,ec,ca,cc,L,gc⟩:=x;obtain⟨⟨AG,vA,e1,vd,wb,uR,u_,c1,u6,B⟩,β,δ,A,ε,X,η⟩:=y;simp only[YS]at*;have J:=ah (@ZM ⟨l,h,e,bits,regs,f,d,c,j,g⟩ ⟨AG,vA,e1,vd,wb,uR,u_,c1,u6,B⟩);have G:Hid (∀w',Sl w' w' ea e->Sl w' w' β e1->jE Tryz.prog 160 #[dD ea e ec,dD β e1 δ] w' λr Y=>r=a? (h? (Ex.Cj e e1))/\Below w' w' Y):=λw' z C=>Ex.tr w' _ _ _ _ _ _ z C jS jS;have V:Hid (∀w',Sl w' w' ca c->Sl w' w' A c1->jE Tryz.prog 161 #[bR f d ca c cc,bR uR u_ A c1 ε] w' λr Y=>r=a? (h? (Cm.yv ⟨f,d,c⟩ ⟨uR,u_,c1⟩))/\Below w' w' Y):=λw' z C=>Cm.tr _ _ _ _ _ _ _ _ _ _ w' z C jS jS;have QG:Hid (∀w',Hi.Sb w' w' L g->Hi.Sb w' w' X B->jE Tryz.prog 162 #[g? #[jJ j,jN L g gc],g? #[jJ u6,jN X B η]] w' λr Y=>r=a? (h? (Hi.vV j g u6 B))/\Below w' w' Y):=λw' z C=>Hi.tr _ _ _ _ _ _ _ _ jS jS w' z C;have W:=ah κ;have o:=ah θ;have R:=ah μ;have m:=ah ξ;have DH:=ah ρ;have n:=ah φ;clear κ θ μ ξ ρ φ HX HY ψ Θ ω Γ Δ χ;simp only at*;have q1:=UE bits vd regs wb;have T:=ah ((jR.new w 136 #[jJ l,jJ h,jN ea e ec,jJ bits,jL regs,jJ f,jJ d,jN ca c cc,jJ j,jN L g gc]).alloc (m? #[jJ AG,jJ vA,jN β e1 δ,jJ vd,jL wb,jJ uR,jJ u_,jN A c1 ε,jJ u6,jN X B η] 136));have N:=ah (jR.new (w.alloc (m? #[jJ l,jJ h,jN ea e ec,jJ bits,jL regs,jJ f,jJ d,jN ca c cc,jJ j,jN L g gc] 136)) 136 #[jJ AG,jJ vA,jN β e1 δ,jJ vd,jL wb,jJ uR,jJ u_,jN A c1 ε,jJ u6,jN X B η]);have ν:(w.alloc (m? #[jJ l,jJ h,jN ea e ec,jJ bits,jL regs,jJ f,jJ d,jN ca c cc,jJ j,jN L g gc] 136)).heap.size=w.heap.size+1:=lV;rw[ν]at N;clear ν;unfold nT;by_cases z:l=AG
 .have b1:(l==AG)=t?:=by rw[beq_iff_eq];exact z
  by_cases C:h=vA
  .have b2:(h==vA)=t?:=by rw[beq_iff_eq];exact C
   by_cases Q:bits=vd/\regs=wb
   .have b3:(bits==vd&&regs.toList==wb.toList)=t?:=by simp[Q.1,Q.2]
    rw[b3]at q1;clear b3
    cases h4:Ex.Cj e e1 with
    |true=>
     have e4:e=e1:=by simpa[Ex.Cj]using h4
     rw[h4]at G
     cases h5:Cm.yv ⟨f,d,c⟩ ⟨uR,u_,c1⟩with
     |true=>
      have e5:f=uR/\d=u_/\c=c1:=by simpa[Cm.yv]using h5
      rw[h5]at V
      cases h6:Hi.vV j g u6 B with
      |true=>
       have e6:j=u6/\g=B:=by simpa[Hi.vV]using h6
       rw[h6]at QG;have H:Hid (decide ((⟨l,h,e,bits,regs,f,d,c,j,g⟩:Sk)=⟨AG,vA,e1,vd,wb,uR,u_,c1,u6,B⟩)=t?):=by
        show _=_;rw[D?,z,C,Q.1,Q.2,e4,e5.1,e5.2.1,e5.2.2,e6.1,e6.2]
       clear z C Q h4 h5 h6 e4 e5 e6 J;go_in;go_wp2_with fail;refine(G _ W o).mono ?_;rintro r k⟨rfl,a⟩;have p:=ah (Below.two K a);have q:=ah (T.later a);have t:=ah (N.later a);have C1:=ah (show Sl k k ca c from(Rd.below R a).more a.size);have C2:=ah (show Sl k k A c1 from(Rd.below m a).more a.size);have G1:=ah (show Hi.Sb k k L g from(Rd.below DH a).more a.size);have G2:=ah (show Hi.Sb k k X B from(Rd.below n a).more a.size);clear G W o R m DH n K a T N;have x5:=ce q 5;have x6:=ce q 6;have x7:=ce q 7;have y5:=ce t 5;have y6:=ce t 6;have y7:=ce t 7;go_wp2_with fail;refine(V _ C1 C2).mono ?_;rintro r F⟨rfl,b⟩;have D:=ah (Below.two p b);have X2:=ah (q.later b);have Y2:=ah (t.later b);have G3:=ah (show Hi.Sb F F L g from(Rd.below G1 b).more b.size);have G4:=ah (show Hi.Sb F F X B from(Rd.below G2 b).more b.size);clear V C1 C2 G1 G2 p b q t x5 x6 x7 y5 y6 y7;have x8:=ce X2 8;have x9:=ce X2 9;have y8:=ce Y2 8;have y9:=ce Y2 9;go_wp2_with fail;refine(QG _ G3 G4).mono ?_;rintro r w3⟨rfl,α⟩;have γ:=ah (Below.two D α);clear QG G3 G4 D α X2 Y2 x8 x9 y8 y9;go_wp2;go_ret;exact⟨by rw[H];rfl,γ⟩
      |false=>
       have e6:¬(j=u6/\g=B):=by simpa[Hi.vV]using h6
       rw[h6]at QG;have H:=ah (J (by
        by_cases hf:j=u6
        .exact s? (s? (s? (s? (s? (s? (s? (s? (s? (λhg=>e6 ⟨hf,hg⟩)))))))))
        exact s? (s? (s? (s? (s? (s? (s? (s? (r? hf))))))))))
       clear z C Q h4 h5 h6 e4 e5 e6 J;go_in;go_wp2_with fail;refine(G _ W o).mono ?_;rintro r k⟨rfl,a⟩;have p:=ah (Below.two K a);have q:=ah (T.later a);have t:=ah (N.later a);have C1:=ah (show Sl k k ca c from(Rd.below R a).more a.size);have C2:=ah (show Sl k k A c1 from(Rd.below m a).more a.size);have G1:=ah (show Hi.Sb k k L g from(Rd.below DH a).more a.size);have G2:=ah (show Hi.Sb k k X B from(Rd.below n a).more a.size);clear G W o R m DH n K a T N;have x5:=ce q 5;have x6:=ce q 6;have x7:=ce q 7;have y5:=ce t 5;have y6:=ce t 6;have y7:=ce t 7;go_wp2_with fail;refine(V _ C1 C2).mono ?_;rintro r F⟨rfl,b⟩;have D:=ah (Below.two p b);have X2:=ah (q.later b);have Y2:=ah (t.later b);have G3:=ah (show Hi.Sb F F L g from(Rd.below G1 b).more b.size);have G4:=ah (show Hi.Sb F F X B from(Rd.below G2 b).more b.size);clear V C1 C2 G1 G2 p b q t x5 x6 x7 y5 y6 y7;have x8:=ce X2 8;have x9:=ce X2 9;have y8:=ce Y2 8;have y9:=ce Y2 9;go_wp2_with fail;refine(QG _ G3 G4).mono ?_;rintro r w3⟨rfl,α⟩;have γ:=ah (Below.two D α);clear QG G3 G4 D α X2 Y2 x8 x9 y8 y9;go_wp2;go_ret;exact⟨by rw[H];rfl,γ⟩
     |false=>
      have e5:¬(f=uR/\d=u_/\c=c1):=by simpa[Cm.yv]using h5
      rw[h5]at V;have H:=ah (J (by
       by_cases hf:f=uR
       .by_cases hg:d=u_
        .exact s? (s? (s? (s? (s? (s? (s? (r? λhk=>e5 ⟨hf,hg,hk⟩)))))))
        exact s? (s? (s? (s? (s? (s? (r? hg))))))
       exact s? (s? (s? (s? (s? (r? hf)))))))
      clear z C Q h4 h5 e4 e5 J;go_in;go_wp2_with fail;refine(G _ W o).mono ?_;rintro r k⟨rfl,a⟩;have p:=ah (Below.two K a);have q:=ah (T.later a);have t:=ah (N.later a);have C1:=ah (show Sl k k ca c from(Rd.below R a).more a.size);have C2:=ah (show Sl k k A c1 from(Rd.below m a).more a.size);have G1:=ah (show Hi.Sb k k L g from(Rd.below DH a).more a.size);have G2:=ah (show Hi.Sb k k X B from(Rd.below n a).more a.size);clear G W o R m DH n K a T N;have x5:=ce q 5;have x6:=ce q 6;have x7:=ce q 7;have y5:=ce t 5;have y6:=ce t 6;have y7:=ce t 7;go_wp2_with fail;refine(V _ C1 C2).mono ?_;rintro r F⟨rfl,b⟩;have D:=ah (Below.two p b);have X2:=ah (q.later b);have Y2:=ah (t.later b);have G3:=ah (show Hi.Sb F F L g from(Rd.below G1 b).more b.size);have G4:=ah (show Hi.Sb F F X B from(Rd.below G2 b).more b.size);clear V C1 C2 G1 G2 p b q t x5 x6 x7 y5 y6 y7;go_wp2;go_ret;exact⟨by rw[H];rfl,D⟩
    |false=>
     have e4:¬e=e1:=by simpa[Ex.Cj]using h4
     rw[h4]at G;have H:=ah (J (s? (s? (s? (s? (r? e4))))));clear z C Q h4 e4 J;go_in;go_wp2_with fail;refine(G _ W o).mono ?_;rintro r k⟨rfl,a⟩;have p:=ah (Below.two K a);have q:=ah (T.later a);have t:=ah (N.later a);have C1:=ah (show Sl k k ca c from(Rd.below R a).more a.size);have C2:=ah (show Sl k k A c1 from(Rd.below m a).more a.size);have G1:=ah (show Hi.Sb k k L g from(Rd.below DH a).more a.size);have G2:=ah (show Hi.Sb k k X B from(Rd.below n a).more a.size);clear G W o R m DH n K a T N;go_wp2;go_ret;exact⟨by rw[H];rfl,p⟩
   have b3:(bits==vd&&regs.toList==wb.toList)=u?:=by
    by_cases hb:bits=vd
    .have hr:¬regs.toList=wb.toList:=λe=>Q ⟨hb,rX (by rw[<-km,<-km,e])⟩;simp[hb,hr]
    simp[hb]
   rw[b3]at q1;have H:=ah (J (by
    by_cases hb:bits=vd
    .exact s? (s? (s? (r? λhr=>Q ⟨hb,hr⟩)))
    exact s? (s? (r? hb))))
   clear b3 z C Q;clear J G V QG W o R m DH n T N;go_in;go_wp2;go_ret;exact⟨by rw[H];rfl,K⟩
  have b2:(h==vA)=u?:=by rw[G?];exact C
  have H:=ah (J (s? (r? C)));clear z C;clear J G V QG W o R m DH n T N;go_in;go_wp2;go_ret;exact⟨by rw[H];rfl,K⟩
 have b1:(l==AG)=u?:=by rw[G?];exact z
 have H:=ah (J (r? z));clear z;clear J G V QG W o R m DH n T N;go_in;go_wp2;go_ret;exact⟨by rw[H];rfl,K⟩
variable{P:bi3}{m clock:O}{es:x? bk4}{T kt et:jH}{c:I}{v:jD}
def Tz(f:w.heap[m]? =some (.map es clock))(b:P.underlying T=some (.map kt et))(a:P.underlying kt=some (.int .i64))(d:eI (.int .i64) (.int .i64 c) es.toList 0=some none):(fG T (.map (some m)) (.int .i64 c) v).run P w=.ok () (w.putObj m (.map (es.push {key:=.int .i64 c,val:=v,born:=clock}) (clock+1))):=by
 have g:=Go.MapKept.run_checkKey (w:=w) a (k:=.int .i64 c) rfl false 9999;have e:=Go.MapKept.run_findKey (w:=w) a d;simp only[fG,eT,bi8 b,dw,getObj,Sem.run,f,g,e,setObj];rfl
def nW{W:jC}(e:W.heap.size=m)(a:P.underlying T=some (.map kt et))(b:P.underlying kt=some (.int .i64))(d:eI (.int .i64) (.int .i64 c) es.toList 0=some none):(fG T (.map (some m)) (.int .i64 c) v).run P (W.alloc (.map es clock))=.ok () (W.alloc (.map (es.push {key:=.int .i64 c,val:=v,born:=clock}) (clock+1))):=by
 subst e;rw[Tz (du _ _) a b d];congr 1;simp only[World.putObj,World.alloc];congr 1;apply Array.ext';simp[Array.setIfInBounds,Array.toList_push]
def FY{i:Nat}(d:w.heap[m]? =some (.map es clock))(b:P.underlying T=some (.map kt et))(a:P.underlying kt=some (.int .i64))(e:eI (.int .i64) (.int .i64 c) es.toList 0=some (some (i,v))):(eU T (.map (some m)) (.int .i64 c) true).run P w=.ok (.tuple #[v,.bool true]) w:=by
 have g:(Instr.checkKey es.isEmpty 10000 kt (.int .i64 c)).run P w=.ok () w:=Go.MapKept.run_checkKey (w:=w) a (k:=.int .i64 c) rfl es.isEmpty 9999;have f:=Go.MapKept.run_findKey (w:=w) a e;simp only[eU,eT,bi8 b,dw,getObj,Sem.run,d,fX,g,f];rfl
def BV{z:jD}(e:w.heap[m]? =some (.map es clock))(g:P.underlying T=some (.map kt et))(a:P.underlying kt=some (.int .i64))(h:eI (.int .i64) (.int .i64 c) es.toList 0=some none)(b:(zeroValue et).run P w=.ok z w):(eU T (.map (some m)) (.int .i64 c) true).run P w=.ok (.tuple #[z,.bool false]) w:=by
 have f:(Instr.checkKey es.isEmpty 10000 kt (.int .i64 c)).run P w=.ok () w:=Go.MapKept.run_checkKey (w:=w) a (k:=.int .i64 c) rfl es.isEmpty 9999;have d:=Go.MapKept.run_findKey (w:=w) a h;simp only[eU,eT,bi8 g,dw,getObj,Sem.run,e,fX,f,d,b];rfl
def AF:Array bk4:=#[{key:=.int .i64 1,val:=.func (.func 157) #[] #[],born:=0},{key:=.int .i64 2,val:=.func (.func 158) #[] #[],born:=1},{key:=.int .i64 3,val:=.func (.func 159) #[] #[],born:=2}]
def NM(w:jC):jE Tryz.prog 111 #[] w λe w'=>e=.returned (.map (some w))/\w'=w.alloc (.map AF 3):=by
 have d:=λv=>nW (P:=Tryz.prog) (W:=w) (T:=228) (c:=1) (v:=v) (es:=#[]) (clock:=0) rfl Tryz.underlying228 Tryz.underlying3 rfl;have f:=λv a=>nW (P:=Tryz.prog) (W:=w) (T:=228) (c:=2) (v:=v) (es:=#[{key:=.int .i64 1,val:=a,born:=0}]) (clock:=1) rfl Tryz.underlying228 Tryz.underlying3 rfl;have g:=λv a b=>nW (P:=Tryz.prog) (W:=w) (T:=228) (c:=3) (v:=v) (es:=#[{key:=.int .i64 1,val:=a,born:=0},{key:=.int .i64 2,val:=b,born:=1}]) (clock:=2) rfl Tryz.underlying228 Tryz.underlying3 rfl;simp only[fW,dz,dj,au,ao]at d f g;have h:=@run_makeMap Tryz.prog;go_in;go_wp2;go_ret;exact⟨rfl,rfl⟩
def lQ(s:v?):E O:=s.data.toList.map UInt8.toNat
def uB(s:v?):Hl.bs (lQ s)=s:=by
 apply rX;show((s.data.toList.map UInt8.toNat).map gH).toArray.toList=s.data.toList;rw[fY];have:(gH∘UInt8.toNat)=id:=by funext x;simp
 rw[this,List.map_id]
def pu(s:v?):Hl.Bytes (lQ s):=λx a=>by
 obtain⟨b,_,rfl⟩:=dq.1 a;exact b.toNat_lt
def Kr(b:I)(s:v?)(w:jC):jE Tryz.prog 200 #[cO b s] w λe w'=>e=a? (h? (Hl.kD b (lQ s)))/\Below w w w':=by
 have:=Hl.j_ b (lQ s) (pu s) w;rw[uB]at this;exact this
def Cn(m:SkM)(R:m.s.level=0)(w:jC)(L:jY w w m)(N:t8 m.s):jE Tryz.prog 157 #[nT m] w λr w'=>r=a? (d? #[i? 294 (eV m),h? (Ex.kg m.s.e)])/\Below w w w':=by
 have F:=ah L;have V:=ah N;clear L N;obtain⟨⟨h,A,e,bits,regs,f,b,c,d,g⟩,k,j,p,x,q,t⟩:=m;simp only at R;subst R;have z:=ah (jP (jQ w) (m? #[jJ h,jJ 0,jN k e j,jJ bits,jL regs,jJ f,jJ b,jN p c x,jJ d,jN q g t] 233));have B:=ah (jR.new w 233 #[jJ h,jJ 0,jN k e j,jJ bits,jL regs,jJ f,jJ b,jN p c x,jJ d,jN q g t]);obtain⟨H,C,D⟩:=F.later z;have X:=ah H;have HC:=ah C;have HG:=ah D;clear H C D F;unfold nT;simp only;go_in;go_wp2_with fail;generalize w.alloc (m? #[jJ h,jJ 0,jN k e j,jJ bits,jL regs,jJ f,jJ b,jN p c x,jJ d,jN q g t] 233)=o at*;have n:=B.lt;have x1:=ce B 1;have T:=ce B 2;haveI hAW:=After.some o;have F1:=After.cell x1 n;have F2:=After.cell T n;have Q:Hid (∀y:After o,jE Tryz.prog 199 #[dD k e j] y.at_ λr w'=>r=a? (h? (Ex.kg e))/\Below y.at_.heap.size y.at_ w'):=λy=>
  (Ex.j_ y.at_ y.at_.heap.size k j e ((Rd.below X y.is).more y.is.size) aa (by have:=V.e;simp only at this;omega)).mono λ_ _⟨Y,h2⟩=>⟨Y,h2▸jP (jQ _) _⟩
 refine rgb ?_;repeat(go_big_quiet_step (first|with_reducible exact na (Q.out _)))
 refine bl0 ?_;rintro K⟨J,G⟩;have W:(bB w K):=z.trans ((show Below o o K by rw[G];exact J.is).mono z.size);clear G J;go_wp2;go_ret2;exact⟨rfl,W⟩
def Ck(m:SkM)(h0:1<=m.s.level/\m.s.level<=4)(w:jC)(T:jY w w m)(V:t8 m.s):jE Tryz.prog 157 #[nT m] w λr w'=>r=a? (d? #[i? 297 (hV m),h? (Hl.kD m.s.bits (lQ m.s.regs)&&m.s.bits==8-m.s.level)])/\Below w w w':=by
 have J:=ah T;have HF:=ah V;clear T V;obtain⟨⟨j,b,e,bits,regs,h,d,c,f,g⟩,B,z,t,C,x,A⟩:=m;simp only at h0;have F:=ah (jP (jQ w) (m? #[jJ j,jJ b,jN B e z,jJ bits,jL regs,jJ h,jJ d,jN t c C,jJ f,jN x g A] 233));have q:=ah (jR.new w 233 #[jJ j,jJ b,jN B e z,jJ bits,jL regs,jJ h,jJ d,jN t c C,jJ f,jN x g A]);obtain⟨L,G,H⟩:=J.later F;have HE:=ah L;have HC:=ah G;have HG:=ah H;clear L G H J;unfold nT;simp only;go_in;go_wp2_with fail;generalize w.alloc (m? #[jJ j,jJ b,jN B e z,jJ bits,jL regs,jJ h,jJ d,jN t c C,jJ f,jN x g A] 233)=p at*;have n:=q.lt;have x1:=ce q 1;have X:=ce q 3;have Y:=ce q 4;haveI hAW:=After.some p;have F1:=After.cell x1 n;have F3:=After.cell X n;have F4:=After.cell Y n;obtain⟨o,k⟩:∃o,Hl.kD bits (lQ regs)=o:=⟨_,rfl⟩;have Q:Hid (∀y:After p,jE Tryz.prog 200 #[cO bits regs] y.at_ λr w'=>r=a? (h? o)/\Below y.at_.heap.size y.at_ w'):=λy=>k▸Kr bits regs y.at_;have D:=ah k;clear k;rcases(by omega:b=1\/b=2\/b=3\/b=4)with rfl|rfl|rfl|rfl
 all_goals cases o
 all_goals
  refine rgb ?_;repeat(go_big_quiet_step (first|with_reducible exact na (Q.out _)))
  refine bl0 ?_;rintro R⟨N,K⟩;have W:(bB w R):=F.trans ((show Below p p R by rw[K];exact N.is).mono F.size);clear K N;go_wp2;go_ret2;exact⟨by show _=ff (d? #[_,h? (Hl.kD bits (lQ regs)&&_)]);rw[D];rfl,W⟩
def Qx(m:SkM)(h0:0<=m.s.level/\m.s.level<=3)(w:jC)(V:jY w w m)(W:t8 m.s):jE Tryz.prog 159 #[nT m] w λr w'=>r=a? (d? #[i? 300 (gV m),h? (Hi.kg m.s.fine m.s.g&&m.s.fine==3-m.s.level)])/\Below w w w':=by
 have K:=ah V;have J:=ah W;clear V W;obtain⟨⟨j,b,e,bits,regs,h,f,c,d,g⟩,B,A,z,C,o,p⟩:=m;simp only at h0;have F:=ah (jP (jQ w) (m? #[jJ j,jJ b,jN B e A,jJ bits,jL regs,jJ h,jJ f,jN z c C,jJ d,jN o g p] 233));have x:=ah (jR.new w 233 #[jJ j,jJ b,jN B e A,jJ bits,jL regs,jJ h,jJ f,jN z c C,jJ d,jN o g p]);obtain⟨N,G,H⟩:=K.later F;have HE:=ah N;have HC:=ah G;have Y:=ah H;clear N G H K;unfold nT;simp only;go_in;go_wp2_with fail;generalize w.alloc (m? #[jJ j,jJ b,jN B e A,jJ bits,jL regs,jJ h,jJ f,jN z c C,jJ d,jN o g p] 233)=t at*;have n:=x.lt;have x1:=ce x 1;have x8:=ce x 8;have x9:=ce x 9;haveI hAW:=After.some t;have F1:=After.cell x1 n;have F8:=After.cell x8 n;have F9:=After.cell x9 n;obtain⟨q,k⟩:∃q,Hi.kg d g=q:=⟨_,rfl⟩;have Q:Hid (∀y:After t,jE Tryz.prog 202 #[g? #[jJ d,jN o g p]] y.at_ λr w'=>r=a? (h? q)/\Below y.at_.heap.size y.at_ w'):=λy=>k▸Hi.j_ d o g p J.gu (by have:=J.g;simp only at this;omega) y.at_ ((Rd.below Y y.is).more y.is.size);have D:=ah k;clear k;rcases(by omega:b=0\/b=1\/b=2\/b=3)with rfl|rfl|rfl|rfl
 all_goals cases q
 all_goals
  refine rgb ?_;repeat(go_big_quiet_step (first|with_reducible exact na (Q.out _)))
  refine bl0 ?_;rintro T⟨R,L⟩;have X:(bB w T):=F.trans ((show Below t t T by rw[L];exact R.is).mono F.size);clear L R;go_wp2;go_ret2;exact⟨by show _=ff (d? #[_,h? (Hi.kg d g&&_)]);rw[D];rfl,X⟩
def KZ(m:SkM)(h0:0<=m.s.level/\m.s.level<=3)(w:jC)(X:jY w w m)(Y:t8 m.s):jE Tryz.prog 158 #[nT m] w λr w'=>r=a? (d? #[i? 298 (cV m),h? (Cm.kP m.s.rows m.s.cols m.s.c.length&&m.s.rows==2&&m.s.cols==32/2^m.s.level.toNat)])/\Below w w w':=by
 have R:=ah X;have HF:=ah Y;clear X Y;obtain⟨⟨j,b,e,bits,regs,d,f,c,h,g⟩,G,B,q,x,A,C⟩:=m;simp only at h0;have J:=ah (jP (jQ w) (m? #[jJ j,jJ b,jN G e B,jJ bits,jL regs,jJ d,jJ f,jN q c x,jJ h,jN A g C] 233));have p:=ah (jR.new w 233 #[jJ j,jJ b,jN G e B,jJ bits,jL regs,jJ d,jJ f,jN q c x,jJ h,jN A g C]);obtain⟨V,L,N⟩:=R.later J;have HE:=ah V;have HC:=ah L;have HG:=ah N;clear V L N R;unfold nT;simp only;go_in;go_wp2_with fail;generalize w.alloc (m? #[jJ j,jJ b,jN G e B,jJ bits,jL regs,jJ d,jJ f,jN q c x,jJ h,jN A g C] 233)=z at*;have k:=p.lt;have x1:=ce p 1;have x5:=ce p 5;have x6:=ce p 6;have x7:=ce p 7;haveI hAW:=After.some z;have F1:=After.cell x1 k;have F5:=After.cell x5 k;have F6:=After.cell x6 k;have F7:=After.cell x7 k;obtain⟨n,o⟩:∃n,Cm.kP d f c.length=n:=⟨_,rfl⟩;obtain⟨t,b2⟩:∃t,(d==2)=t:=⟨_,rfl⟩;have Q:Hid (∀y:After z,jE Tryz.prog 201 #[bR d f q c x] y.at_ λr w'=>r=a? (h? n)/\Below y.at_.heap.size y.at_ w'):=λy=>o▸(Cm.j_ d f q c.length x y.at_).mono λ_ _⟨h1,h2⟩=>⟨h1,h2▸jP (jQ _) _⟩;have H:=ah o;have D:=ah b2;clear o;have h3:n=u?\/(n=t?/\t=t?)\/(n=t?/\t=u?):=by cases n<;>cases t<;>simp
 rcases(by omega:b=0\/b=1\/b=2\/b=3)with rfl|rfl|rfl|rfl
 all_goals rcases h3 with rfl|⟨rfl,rfl⟩|⟨rfl,rfl⟩
 all_goals
  refine rgb ?_;repeat(go_big_quiet_step (first|with_reducible exact na (Q.out _)))
  refine bl0 ?_;rintro w9⟨W,T⟩;have K:Below z z w9:=by rw[T];exact W.is
  have BI:=ah (J.trans (K.mono J.size));have F:=ah (p.later K);clear T W K;have z5:=ce F 5;have z6:=ce F 6;have z7:=ce F 7;go_wp2;go_ret2;exact⟨by show _=ff (d? #[_,h? (Cm.kP d f c.length&&d==2&&_)]);rw[H,D];rfl,BI⟩
structure SaX(x0:w? jG)(x1:jC) where
def aX(b:w? jG)(a:jC):SaX b a:=⟨⟩
instance(x0:w? jG)(x1:jC):CoeOut (SaX x0 x1) Prop:=⟨λ_=>∀ad,x0=M ad->x1.heap.size<=ad.block⟩
instance(x0:w? jG)(x1:jC):CoeSort (SaX x0 x1) Prop:=⟨λ_=>∀ad,x0=M ad->x1.heap.size<=ad.block⟩
structure ScZ(x0:w? jG)(x1:E I)(x2:O) where
def cZ(c:w? jG)(a:E I)(b:O):ScZ c a b:=⟨⟩
instance(x0:w? jG)(x1:E I)(x2:O):CoeOut (ScZ x0 x1 x2) jD:=⟨λ_=>b? x0 x1.length x2⟩
def Tryz.p_:(Tryz.prog.info? 22).map (λi=>(i.zero,i.size,i.bytes))=M (M (c? n? 0),1,8):=oo
def Tryz.Ez:(Tryz.prog.info? 303).map (λi=>(i.zero,i.size,i.bytes))=M (M (g? #[jJ 0,jK 0]),2,16):=oo
variable{n sz:O}{t:jH}{xs:E jD}
def li(h:w.ownsRow B t sz v n xs):∃A c,v=b? A n c/\n<=c/\Rd w w A xs/\∀l,A=M l->B<=l.block:=by
 obtain⟨k,⟨h,e⟩|⟨g,cap,a,r,p,m,f,q,o,d⟩⟩:=h
 .subst e;rw[fh]at k;have:xs=[]:=da k;subst this;exact⟨Z,0,h,ay _,Rd.none_,λ_ e=>LS⟩
 refine⟨_,cap,r,f,λ_=>⟨g,0,rfl,(aw.1 m).1,λj u b=>?_⟩,λ_ e=>by cases e;exact p⟩;rw[au];have s:a[j]? =M u:=by
  rw[<-d,gJ]at b;split at b
  .rw[<-Array.getElem?_toList];exact b
  cases b
 exact(jR.cell (show jR w g t a from m) j).trans s
def Oi{l:Hi.jX}:∀u∈Hi.mD l,u.oneCell'=t?:=λu a=>by
 unfold Hi.mD at a;obtain⟨x,_,a⟩:=ir.1 a;simp at a;rcases a with rfl|rfl<;>rfl
def Oh{l:E kI}:∀u∈k_ l,u.oneCell'=t?:=λu a=>by
 unfold k_ at a;obtain⟨x,_,a⟩:=ir.1 a;simp at a;rcases a with rfl|rfl<;>rfl
def pq(A:w? jG)(l:E I)(cap:O)(Q:l.length<=1000000)(w:jC)(t:Sl w w A l):jE Tryz.prog 163 #[jN A l cap] w λe w'=>(∃j d,e=a? (cZ j l d)/\Sl w' w' j l/\(aX j w))/\Below w w w':=by
 obtain⟨F,v,o,s,p⟩:=bi5 Tryz.p_;have H:∀(w:jC)(a:w? jG)(n c m d:O),(binOp .eql 33 (b? a n c) (b? Z m d)).run Tryz.prog w=.ok (h? a.isNone) w:=λw a n c m d=>fR w _ _ a n c m d Tryz.underlying33;have z:=ah t;have D:Hid (A=Z->l=[]):=λe=>by
  subst e
  cases l with
  |nil=>rfl
  |cons x r=>
   obtain⟨_,_,h,_⟩:=t lV
   cases h
 clear t
 cases A with
 |none=>
  obtain rfl:=D rfl;go_in;go_wp2;go_ret;exact⟨⟨Z,⟨0,rfl⟩,Rd.none_,λ_ e=>LS⟩,jQ _⟩
 |some N=>
  go_in;go_wp2_with(at_builtin;refine kr _ rfl _ _ 33 rfl w 22 F (c? n? 0) 1 8 Tryz.underlying33 v o s p rfl B8 _ 0 _ rfl (gO w #[] 0 aa (be _) lV) _ _ l.length cap (l.map (br n?)) rfl lV (Rd.below z (jP (jQ w) _)) (λu G=>by obtain⟨x,_,rfl⟩:=dq.1 G;rfl) O0 jS lV ?_;intro K L g b y);obtain⟨J,c2,rfl,B,f,q⟩:=li g;go_wp2;go_ret;rw[au];simp only[fO,gP,iT,dz,fh]at f;exact⟨⟨J,c2,rfl,f,q⟩,((Below.refl _ w).alloc aa _).grown b lV (by intro k C;cases C;exact ay _)⟩
def Bi(A:w? jG)(l:E kI)(cap:O)(N:l.length<=1000000)(w:jC)(t:Lb w w A l):jE Tryz.prog 184 #[jN A l cap] w λe w'=>(∃j d,e=a? (b? j l.length d)/\Lb w' w' j l/\(aX j w))/\Below w w w':=by
 obtain⟨F,v,o,s,p⟩:=bi5 Tryz.Mc;have G:∀(w:jC)(a:w? jG)(n c m d:O),(binOp .eql 72 (b? a n c) (b? Z m d)).run Tryz.prog w=.ok (h? a.isNone) w:=λw a n c m d=>fR w _ _ a n c m d Tryz.underlying72;have z:=ah t;have D:Hid (A=Z->l=[]):=λe=>by
  subst e
  cases l with
  |nil=>rfl
  |cons x r=>
   obtain⟨_,_,h,_⟩:=t (by simp[k_])
   cases h
 clear t
 cases A with
 |none=>
  obtain rfl:=D rfl;go_in;go_wp2;go_ret;exact⟨⟨Z,⟨0,rfl⟩,Rd.none_,λ_ e=>LS⟩,jQ _⟩
 |some L=>
  go_in;go_wp2_with(at_builtin;refine kr _ rfl _ _ 72 rfl w 71 F (g? #[aF,aF]) 2 32 Tryz.underlying72 v o s p rfl B8 _ 0 _ rfl (gO w #[] 0 aa (be _) lV) _ _ l.length cap (k_ l) rfl (by rw[sj];omega) (Rd.below z (jP (jQ w) _)) Oh O0 jS lV ?_;intro J K g b y);obtain⟨H,c2,rfl,B,f,q⟩:=li g;go_wp2;go_ret;rw[au];simp only[fO,gP,iT,dz,fh]at f;exact⟨⟨H,c2,rfl,f,q⟩,((Below.refl _ w).alloc aa _).grown b lV (by intro k C;cases C;exact ay _)⟩
def vI(A:w? jG)(l:Hi.jX)(cap:O)(N:l.length<=1000000)(w:jC)(t:Hi.Sb w w A l):jE Tryz.prog 164 #[jN A l cap] w λe w'=>(∃j d,e=a? (b? j l.length d)/\Hi.Sb w' w' j l/\(aX j w))/\Below w w w':=by
 obtain⟨F,v,o,s,p⟩:=bi5 Tryz.Ez;have G:∀(w:jC)(a:w? jG)(n c m d:O),(binOp .eql 132 (b? a n c) (b? Z m d)).run Tryz.prog w=.ok (h? a.isNone) w:=λw a n c m d=>fR w _ _ a n c m d Tryz.underlying132;have z:=ah t;have D:Hid (A=Z->l=[]):=λe=>by
  subst e
  cases l with
  |nil=>rfl
  |cons x r=>
   obtain⟨_,_,h,_⟩:=t (by simp[Hi.mD])
   cases h
 clear t
 cases A with
 |none=>
  obtain rfl:=D rfl;go_in;go_wp2;go_ret;exact⟨⟨Z,⟨0,rfl⟩,Rd.none_,λ_ e=>LS⟩,jQ _⟩
 |some L=>
  go_in;go_wp2_with(at_builtin;refine kr _ rfl _ _ 132 rfl w 303 F (g? #[jJ 0,jK 0]) 2 16 Tryz.underlying132 v o s p rfl B8 _ 0 _ rfl (gO w #[] 0 aa (be _) lV) _ _ l.length cap (Hi.mD l) rfl (by rw[Hi.ws];omega) (Rd.below z (jP (jQ w) _)) Oi O0 jS lV ?_;intro J K g b y);obtain⟨H,c2,rfl,B,f,q⟩:=li g;go_wp2;go_ret;rw[au];simp only[fO,gP,iT,dz,fh]at f;exact⟨⟨H,c2,rfl,f,q⟩,((Below.refl _ w).alloc aa _).grown b lV (by intro k C;cases C;exact ay _)⟩
structure SbD where
def bD:SbD:=⟨⟩
instance:CoeOut SbD jD:=⟨λ_=>e? (M ⟨4,346,Z⟩)⟩
structure SbO where
def bO:SbO:=⟨⟩
instance:CoeOut SbO jD:=⟨λ_=>e? (M ⟨4,223,Z⟩)⟩
structure SbT(x0:jG) where
def bT(a:jG):SbT a:=⟨⟩
instance(x0:jG):CoeOut (SbT x0) jD:=⟨λ_=>e? (M x0)⟩
structure ScC(x0:jC) where
def cC(a:jC):ScC a:=⟨⟩
instance(x0:jC):CoeOut (ScC x0) O:=⟨λ_=>x0.heap.size+1+1+1⟩
instance:CoeOut (Cp 26) jD:=⟨λ_=>i? 412 (g? #[e? (M ⟨4,171,Z⟩)])⟩
open Go.RowKit Go.Extern.Stop Go.Stop Go.Extern
def as_nil(t:jD)(w:jC):jE Tryz.prog 197 #[j?,t] w λe w'=>e=a? (h? u?)/\w'=w:=by
 go_in;go_wp2;go_ret;exact⟨rfl,rfl⟩
def Ty.valueOf27(t:jG)(w:jC):(ReflectliteValue.unpack (i? 346 (bT t))).run Tryz.prog w =.ok (g? #[bD,jO w,jK 150]) (w.alloc (m? #[bT t] 346)):=oo
def Ty.type27(a:jG)(w:jC):(ReflectliteValue.methodAny (ReflectliteValue.valueError "reflectlite.Value.Type" 0) (λt _ _ _=>ReflectliteType.toType t) #[g? #[bD,bT a,jK 150]]).run Tryz.prog w =.ok (i? 412 (g? #[bD])) w:=oo
def Ty.methodKind(h:jD)(w:jC):(gz 640 412 (g? #[h]) "Kind").run Tryz.prog w=.ok (277,h) w:=oo
def Ty.kind27(w:jC):((ReflectliteType.abiMethod λt=>Functor.map (λa:O=>br IntKind.u8 (a:I)) (Rtype.kind t)) #[bD]).run Tryz.prog w=.ok (c? p? 22) w:=oo
def Ty.kind25(w:jC):((ReflectliteType.abiMethod λt=>Functor.map (λa:O=>br IntKind.u8 (a:I)) (Rtype.kind t)) #[bO]).run Tryz.prog w=.ok (c? p? 22) w:=oo
def rlm(z:Sem jD)(f:jH->jG->O->O->Sem jD)(v:jD):ReflectliteValue.method z f #[v]=(do match <-ReflectliteValue.parts v with|none=>z|some (t,a,b)=>f t a b (b%32)):=rfl
def Ty.parts27(a:jG)(w:jC):(ReflectliteValue.parts (g? #[bD,bT a,jK 150])).run Tryz.prog w=.ok (M (346,a,150)) w:=oo
def Ty.isNil27(a p:jG)(W:jC)(b:W.cell? a=M (bT p)):(ReflectliteValue.method (ReflectliteValue.valueError "reflectlite.Value.IsNil" 0) ReflectliteValue.isNil #[g? #[bD,bT a,jK 150]]).run Tryz.prog W=.ok (h? u?) W:=by
 rw[rlm];simp only[eT,Ty.parts27,dw];simp[ReflectliteValue.isNil,loadVar,isAgg,underlying,Tryz.underlying346,b,dw]
def Ty.methodElem(h:jD)(w:jC):(gz 640 412 (g? #[h]) "Elem").run Tryz.prog w=.ok (391,g? #[h]) w:=oo
def Ty.methodImplements(h:jD)(w:jC):(gz 640 412 (g? #[h]) "Implements").run Tryz.prog w=.ok (392,g? #[h]) w:=oo
def Ty.methodAssignableTo(h:jD)(w:jC):(gz 640 412 (g? #[h]) "AssignableTo").run Tryz.prog w=.ok (389,g? #[h]) w:=oo
def Ty.elem27(w:jC):(ReflectliteType.method ReflectliteType.elem #[g? #[bD]]).run Tryz.prog w=.ok (i? 412 (g? #[bO])) w:=oo
def Ty.implements25(w:jC):(ReflectliteType.relation "Implements" ReflectliteType.implements_ #[g? #[bO],rO 26]).run Tryz.prog w=.ok (h? t?) w:=oo
def Ty.typeOf25(v:jD)(w:jC):(ReflectliteType.typeOf #[i? 223 v]).run Tryz.prog w=.ok (i? 412 (g? #[bO])) w:=oo
def Ty.assignable25(w:jC):(ReflectliteType.relation "AssignableTo" ReflectliteType.assignableTo #[g? #[bO],i? 412 (g? #[bO])]).run Tryz.prog w=.ok (h? t?) w:=oo
def Ty.valueOf25(e:jG)(w:jC):(ReflectliteValue.unpack (i? 223 (bT e))).run Tryz.prog w =.ok (g? #[bO,jO w,jK 150]) (w.alloc (m? #[bT e] 223)):=oo
def Ty.elemOf27(w:jC):(Rtype.elem? 346).run Tryz.prog w=.ok (M 223) w:=oo
def Ty.mk25(p:jG)(w:jC):(ReflectliteValue.mk 223 p ReflectliteValue.flagAddr).run Tryz.prog w=.ok (g? #[bO,bT p,jK 406]) w:=oo
def Ty.elemV27(a p:jG)(W:jC)(b:W.cell? a=M (bT p)):(ReflectliteValue.method (ReflectliteValue.valueError "reflectlite.Value.Elem" 0) ReflectliteValue.elem #[g? #[bD,bT a,jK 150]]).run Tryz.prog W =.ok (g? #[bO,bT p,jK 406]) W:=by
 rw[rlm];simp only[eT,Ty.parts27,dw];simp[ReflectliteValue.elem,loadVar,isAgg,underlying,Tryz.underlying346,b,dw,Ty.elemOf27,Ty.mk25]
def rls(v x:jD):ReflectliteValue.set #[v,x]=(do
 let(M (dst,a,fl),M (c,b,_)):=(<-ReflectliteValue.parts v,<-ReflectliteValue.parts x)
  |unsupported (.noEntry "extern/(internal/reflectlite.Value).Set.zeroValue")
 if fl/ReflectliteValue.flagAddr%2==0 then unsupported (.noEntry "extern/(internal/reflectlite.Value).Set.unaddressable")
 let d <-loadVar c b
 if <-Rtype.directlyAssignable dst c then storeVar dst a d
 else if <-Rtype.implements dst c then
  if(<-Rtype.kind c)==20 then
   match d with
   |j?=>unsupported (.noEntry "extern/reflectlite: a nil value of one interface type handed on as a value of another")
   |_=>storeVar dst a d
  else storeVar dst a (i? c d)
 else panicString ("reflectlite.Set: value of type "++(<-Rtype.spelt c)++ " is not assignable to type "++(<-Rtype.spelt dst))
 pure (d? #[])):=rfl
def Ty.parts25a(a:jG)(w:jC):(ReflectliteValue.parts (g? #[bO,bT a,jK 406])).run Tryz.prog w=.ok (M (223,a,406)) w:=oo
def Ty.parts25(a:jG)(w:jC):(ReflectliteValue.parts (g? #[bO,bT a,jK 150])).run Tryz.prog w=.ok (M (223,a,150)) w:=oo
def Ty.direct25(w:jC):(Rtype.directlyAssignable 223 223).run Tryz.prog w=.ok t? w:=oo
def Ty.set25(a b e:jG)(old:jD)(W:jC)(d:W.cell? b=M (bT e))(c:W.cell? a=M old)(f:W.frozen? a=u?):(ReflectliteValue.set #[g? #[bO,bT a,jK 406],g? #[bO,bT b,jK 150]]).run Tryz.prog W =.ok (d? #[]) (W.setCell a (bT e)):=by
 rw[rls];simp only[eT,Ty.parts25a,Ty.parts25,dw];simp[ReflectliteValue.flagAddr,loadVar,isAgg,underlying,Tryz.underlying223,d,dw,Ty.direct25,storeVar,Value.cells,storeCells,iU];rw[run_store Tryz.prog W a _ _ (by rfl)];simp[c,f]
def as_hit(e t:jG)(old:jD)(w:jC)(g:w.cell? ⟨1,0,Z⟩=M (rO 26))(c:w.cell? t=M old)(f:w.frozen? t=u?):jE Tryz.prog 197 #[i? 223 (bT e),i? 346 (bT t)] w λm w'=>m=a? (h? t?)/\w'=((((w.alloc (m? #[bT t] 346)).alloc (m? #[bD,jO w,jK 150] 375)).alloc (m? #[bD,jO w,jK 150] 375)).alloc (m? #[bT e] 223)).setCell t (bT e):=by
 have L:=@run_callFunc_extern Tryz.prog 234 _ (λa=>ReflectliteValue.unpack (a.getD 0 (d? #[]))) Tryz.func234 oo oo oo oo;have G:=@run_callFunc_extern Tryz.prog 235 _ (ReflectliteValue.methodAny (ReflectliteValue.valueError "reflectlite.Value.Type" 0) (λt _ _ _=>ReflectliteType.toType t)) Tryz.func235 oo oo oo oo;have H:=@run_callFunc_extern Tryz.prog 236 _ (ReflectliteValue.method (ReflectliteValue.valueError "reflectlite.Value.IsNil" 0) ReflectliteValue.isNil) Tryz.func236 oo oo oo oo;have r:=@run_callFunc_extern Tryz.prog 277 _ (ReflectliteType.abiMethod λt=>do pure (c? p? (<-Rtype.kind t))) Tryz.func277 oo oo oo oo;have A:=@run_callFunc_extern Tryz.prog 391 _ (ReflectliteType.method ReflectliteType.elem) Tryz.func391 oo oo oo oo;have o:=@run_callFunc_extern Tryz.prog 392 _ (ReflectliteType.relation "Implements" ReflectliteType.implements_) Tryz.func392 oo oo oo oo;have y:=@run_callFunc_extern Tryz.prog 255 _ ReflectliteType.typeOf Tryz.func255 oo oo oo oo;have p:=@run_callFunc_extern Tryz.prog 389 _ (ReflectliteType.relation "AssignableTo" ReflectliteType.assignableTo) Tryz.func389 oo oo oo oo;have k:=@run_callFunc_extern Tryz.prog 256 _ (ReflectliteValue.method (ReflectliteValue.valueError "reflectlite.Value.Elem" 0) ReflectliteValue.elem) Tryz.func256 oo oo oo oo;have j:=@run_callFunc_extern Tryz.prog 257 _ ReflectliteValue.set Tryz.func257 oo oo oo oo;have T:=Ty.typeOf25;have Q:=Ty.methodAssignableTo;have n:=Ty.assignable25;have x:=Ty.valueOf25;have F:=Ty.valueOf27;have K:=Ty.type27;have C:=Ty.methodKind;have R:=Ty.methodElem;have N:=Ty.methodImplements;have q:=Ty.kind27;have z:=Ty.kind25;have s:=Ty.elem27;have v:=Ty.implements25;have B:=Ty.isNil27 ⟨w,0,Z⟩ t ((w.alloc (m? #[bT t] 346)).alloc (m? #[bD,jO w,jK 150] 375)) lV;have d:1<w.heap.size:=b8 w ⟨1,0,Z⟩ g;have l:((w.alloc (m? #[bT t] 346)).alloc (m? #[bD,jO w,jK 150] 375)).cell? ⟨1,0,Z⟩=M (rO 26):=by
  rw[dt _ _ ⟨1,0,Z⟩ mO,dt _ _ ⟨1,0,Z⟩ d];exact g
 have b:t.block<w.heap.size:=by
  rcases fB t.block w with h|h
  .exact h
  simp[fJ,fH h]at c
 have J:=Ty.elemV27 ⟨w,0,Z⟩ t (((w.alloc (m? #[bT t] 346)).alloc (m? #[bD,jO w,jK 150] 375)).alloc (m? #[bD,jO w,jK 150] 375)) (by rw[dt _ _ ⟨w,0,Z⟩ mO];simp);have D:=Ty.set25 t ⟨cC w,0,Z⟩ e old ((((w.alloc (m? #[bT t] 346)).alloc (m? #[bD,jO w,jK 150] 375)).alloc (m? #[bD,jO w,jK 150] 375)).alloc (m? #[bT e] 223))
  (by rw[World.cell?_alloc_at _ _ _ _ lV];rfl)
  (by rw[dt _ _ t mO,dt _ _ t mO,dt _ _ t mO,dt _ _ t b];exact c)
  (by rw[gA _ _ t mO,gA _ _ t mO,gA _ _ t mO,gA _ _ t (Nat.ne_of_lt b)];exact f)
 go_in;go_wp2;refine bj8 1 ?_;rw[bi9];go_wp2;go_ret;exact⟨rfl,rfl⟩
def Er(w:jC):Prop:=w.cell? ⟨1,0,Z⟩=M (rO 26)
def Er.later(h:Er w)(a:Below w w w'):Er w':=(a.cell (p:=⟨1,0,Z⟩) (b8 w _ h)).trans h
def oy(b:jD)(w:jC):jE Tryz.prog 289 #[b,jJ 0] w λe w'=>e=a? (d? #[b,j?])/\w'=w:=by
 go_in;go_wp2;go_ret2;exact⟨rfl,rfl⟩
def LG(b:jD)(w:jC):jE Tryz.prog 289 #[b,jJ 60] w λe w'=>e=a? (d? #[j?,i? 223 (e? (aM w))])/\w'=w.alloc (m? #[jJ 60] 225):=by
 go_in;go_wp2;go_ret2;exact⟨rfl,rfl⟩
def Om(w:jC):jE Tryz.prog 154 #[j?] w λe w'=>e=a? (c? o? 0)/\Below w w w':=by
 go_in;go_wp2_with fail;refine(as_nil _ _).mono ?_;rintro e a⟨rfl,rfl⟩;go_wp2;go_ret;exact⟨rfl,jP (jQ w) _⟩
def On(b:O)(no:I)(w:jC)(k:Er w)(f:w.cell? ⟨b,0,Z⟩=M (c? o? no)):jE Tryz.prog 154 #[i? 223 (e? (aC b))] w λe w'=>e=a? (c? o? no)/\Below w w w':=by
 have c:b<w.heap.size:=b8 w _ f;have g:=(k.later (jP (jQ w) (m? #[e? Z] 223)));have a:(w.alloc (m? #[e? Z] 223)).cell? ⟨w,0,Z⟩=M (e? Z):=lV;have j:(w.alloc (m? #[e? Z] 223)).frozen? ⟨w,0,Z⟩=u?:=lV;have h:=ah (as_hit ⟨b,0,Z⟩ ⟨w,0,Z⟩ _ _ g a j);clear g a j;go_in;go_wp2_with fail;refine h.mono ?_;rintro e m⟨rfl,d⟩;have H:Hid (Hold w m [(w,223,[jO b])]):=by rw[d];exact((((((Hold.nil w).alloc w 223 [e? Z]).al _).al _).al _).al _).put 0 0 (e? (aC b))
 clear d h;have a:=(H.below.cell (p:=⟨b,0,Z⟩) c).trans f;have l:=H.facts;simp only[Facts,kz]at l;go_wp2;go_ret;exact⟨rfl,H.below⟩
def AI(w:jC):jE Tryz.prog 156 #[j?] w λe w'=>e=a? (h? u?)/\Below w w w':=by
 go_in;go_wp2_with fail;refine(Om w).mono ?_;rintro e b⟨rfl,a⟩;go_wp2;go_ret;exact⟨rfl,a⟩
def Db(b:O)(w:jC)(a:Er w)(c:w.cell? ⟨b,0,Z⟩=M (c? o? 60)):jE Tryz.prog 156 #[i? 223 (e? (aC b))] w λe w'=>e=a? (h? t?)/\Below w w w':=by
 have H:=ah (On b 60 w a c);clear a c;go_in;go_wp2_with fail;refine H.mono ?_;rintro e f⟨rfl,d⟩;go_wp2;go_ret;exact⟨rfl,d⟩
structure ScX where
def cX:ScX:=⟨⟩
instance:CoeOut ScX jD:=⟨λ_=>g? #[jJ 0,jJ 0,jM]⟩
def kN(k l:I):Sk:=⟨k,l,[],0,⟨#[]⟩,0,0,[],0,[]⟩
structure Fr(B:O)(m:SkM):Prop where
 e:∀ad,m.ea=M ad->B<=ad.block
 c:∀ad,m.ca=M ad->B<=ad.block
 g:∀ad,m.ga=M ad->B<=ad.block
def Fr.mono{B':O}{m:SkM}(h:Fr B m)(b:B'<=B):Fr B' m:=⟨λa e=>a_ b (h.e a e),λa e=>a_ b (h.c a e),λa e=>a_ b (h.g a e)⟩
def wT(w:jC)(s:Sk)(e:bi6)(w':jC):Prop:=∃m:SkM,m.s=s/\e=a? (nT m)/\jY w' w' m/\Fr w m/\Below w w w'
abbrev xl(k l:I):E jD:=[jJ k,jJ l,jM,jJ 0,aF,jJ 0,jJ 0,jM,jJ 0,jM]
def yq(A:w? jG)(l:E I)(cap:O)(k c:I)(z:l.length<=1000)(w:jC)(t:Sl w w A l):jE Tryz.prog 114 #[g? #[i? 294 (dD A l cap),jJ k,jJ c]] w (wT w {kN k c with e:=l}):=by
 have y:∀w,(dd (i? 294 (dD A l cap)) 167 294 t?).run Tryz.prog w=.ok (d? #[dD A l cap,h? t?]) w:=λ_=>oo;go_in;go_wp2_with fail;have H:=ah (((((Hold.nil w).alloc w 169 [i? 294 (dD A l cap),jJ k,jJ c]).alloc (w.heap.size+1) 136 (xl 0 0)).alloc (aN w) 136 (xl k c)).alloc (cC w) 294 [jN A l cap]);refine(pq A l cap jS _ ((Rd.below t H.below).more H.size)).mono ?_;rintro e C⟨⟨b,c1,rfl,n,h⟩,d⟩;replace H:=ah (H.call d);have m:=H.facts;simp only[Facts,kz,au,ao]at m;have f:∀g,g<=w.heap.size+1+1->∀a,b=M a->a.block≠g:=λg x a e=>by
  have:=h a e;simp at this;omega
 have q:∀a,b=M a->w.heap.size<=a.block:=λa e=>by
  have:=h a e;simp at this;omega
 go_wp2_with fail;have r:=aS ((H.put 1 2 (cZ b l c1)).all 2 [jJ k,jJ c,jN b l c1,jJ 0,aF,jJ 0,jJ 0,jM,jJ 0,jM]);have j:=aS (xr (f (w.heap.size+1) jS) [jJ k,jJ c,jN b l c1,jJ 0,aF,jJ 0,jJ 0,jM,jJ 0,jM] 0 (mi (o:=2) (u:=(cZ b l c1)) n (f (aN w) jS)));refine kw (λV=>Sl V V b l) r j (λV s p=>?_);clear m H d r j;have m:=s.at_ 2;simp only[kz,au,ao]at m;refine jF (v:=g? #[jJ k,jJ c,jN b l c1,jJ 0,aF,jJ 0,jJ 0,jM,jJ 0,jM]) (by simp[results,Tryz.results114,go_sem,m]) rfl ?_;exact⟨⟨{kN k c with e:=l},b,c1,Z,0,Z,0⟩,rfl,rfl,⟨p,Rd.none_,Rd.none_⟩,⟨q,λ_ e=>LS,λ_ e=>LS⟩,s.below⟩
def yo(b:I)(s:v?)(k a:I)(w:jC):jE Tryz.prog 114 #[g? #[i? 297 (cO b s),jJ k,jJ a]] w (wT w {kN k a with bits:=b,regs:=s}):=by
 have f:∀w,(dd (i? 297 (cO b s)) 167 294 t?).run Tryz.prog w=.ok (d? #[g? #[jM],h? u?]) w:=λ_=>oo;have g:∀w,(dd (i? 297 (cO b s)) 167 297 t?).run Tryz.prog w=.ok (d? #[cO b s,h? t?]) w:=λ_=>oo;go_in;go_wp2_with fail;refine kw (λ_=>True) (((((Hold.nil w).alloc w 169 [i? 297 (cO b s),jJ k,jJ a]).alloc (w.heap.size+1) 136 [jJ k,jJ a,jM,jJ b,jL s,jJ 0,jJ 0,jM,jJ 0,jM]).alloc (aN w) 136 ([jJ k,jJ a,jM,jJ b,jL s,jJ 0,jJ 0,jM,jJ 0,jM])).alloc (cC w) 297 [jJ b,jL s]) trivial (λV c _=>?_);have d:=c.at_ 2;simp only[kz,au,ao]at d;refine jF (v:=g? #[jJ k,jJ a,jM,jJ b,jL s,jJ 0,jJ 0,jM,jJ 0,jM]) (by simp[results,Tryz.results114,go_sem,d]) rfl ?_;exact⟨⟨{kN k a with bits:=b,regs:=s},Z,0,Z,0,Z,0⟩,rfl,rfl,⟨Rd.none_,Rd.none_,Rd.none_⟩,⟨λ_ e=>LS,λ_ e=>LS,λ_ e=>LS⟩,c.below⟩
def yu(r c:I)(A:w? jG)(l:E I)(cap:O)(k d:I)(J:l.length<=1000)(w:jC)(z:Sl w w A l):jE Tryz.prog 114 #[g? #[i? 298 (bR r c A l cap),jJ k,jJ d]] w (wT w {kN k d with rows:=r,cols:=c,c:=l}):=by
 have G:∀w,(dd (i? 298 (bR r c A l cap)) 167 294 t?).run Tryz.prog w=.ok (d? #[g? #[jM],h? u?]) w:=λ_=>oo;have F:∀w,(dd (i? 298 (bR r c A l cap)) 167 297 t?).run Tryz.prog w=.ok (d? #[g? #[jJ 0,aF],h? u?]) w:=λ_=>oo;have D:∀w,(dd (i? 298 (bR r c A l cap)) 167 298 t?).run Tryz.prog w=.ok (d? #[bR r c A l cap,h? t?]) w:=λ_=>oo;go_in;go_wp2_with fail;have H:=ah (((((Hold.nil w).alloc w 169 [i? 298 (bR r c A l cap),jJ k,jJ d]).alloc (w.heap.size+1) 136 (xl 0 0)).alloc (aN w) 136 ([jJ k,jJ d,jM,jJ 0,aF,jJ r,jJ c,jN A l cap,jJ 0,jM])).alloc (cC w) 298 [jJ r,jJ c,jN A l cap]);refine(pq A l cap jS _ ((Rd.below z H.below).more H.size)).mono ?_;rintro e K⟨⟨b,c1,rfl,q,j⟩,f⟩;replace H:=ah (H.call f);have p:=H.facts;simp only[Facts,kz,au,ao]at p;have h:∀g,g<=w.heap.size+1+1->∀a,b=M a->a.block≠g:=λg C a e=>by
  have:=j a e;simp at this;omega
 have t:∀a,b=M a->w.heap.size<=a.block:=λa e=>by
  have:=j a e;simp at this;omega
 go_wp2_with fail;have x:=aS ((H.put 1 7 (cZ b l c1)).all 2 [jJ k,jJ d,jM,jJ 0,aF,jJ r,jJ c,jN b l c1,jJ 0,jM]);have n:=aS (xr (h (w.heap.size+1) jS) [jJ k,jJ d,jM,jJ 0,aF,jJ r,jJ c,jN b l c1,jJ 0,jM] 0 (mi (o:=7) (u:=(cZ b l c1)) q (h (aN w) jS)));refine kw (λV=>Sl V V b l) x n (λV y s=>?_);clear p H f x n;have p:=y.at_ 2;simp only[kz,au,ao]at p;refine jF (v:=g? #[jJ k,jJ d,jM,jJ 0,aF,jJ r,jJ c,jN b l c1,jJ 0,jM]) (by simp[results,Tryz.results114,go_sem,p]) rfl ?_;exact⟨⟨{kN k d with rows:=r,cols:=c,c:=l},Z,0,b,c1,Z,0⟩,rfl,rfl,⟨Rd.none_,s,Rd.none_⟩,⟨λ_ e=>LS,t,λ_ e=>LS⟩,y.below⟩
def yp(f:I)(A:w? jG)(l:Hi.jX)(cap:O)(k c:I)(J:l.length<=1000)(w:jC)(z:Hi.Sb w w A l):jE Tryz.prog 114 #[g? #[i? 300 (g? #[jJ f,jN A l cap]),jJ k,jJ c]] w (wT w {kN k c with fine:=f,g:=l}):=by
 have G:∀w,(dd (i? 300 (g? #[jJ f,jN A l cap])) 167 294 t?).run Tryz.prog w=.ok (d? #[g? #[jM],h? u?]) w:=λ_=>oo;have F:∀w,(dd (i? 300 (g? #[jJ f,jN A l cap])) 167 297 t?).run Tryz.prog w=.ok (d? #[g? #[jJ 0,aF],h? u?]) w:=λ_=>oo;have D:∀w,(dd (i? 300 (g? #[jJ f,jN A l cap])) 167 298 t?).run Tryz.prog w=.ok (d? #[cX,h? u?]) w:=λ_=>oo;have y:∀w,(dd (i? 300 (g? #[jJ f,jN A l cap])) 167 300 t?).run Tryz.prog w=.ok (d? #[g? #[jJ f,jN A l cap],h? t?]) w:=λ_=>oo;go_in;go_wp2_with fail;have H:=ah (((((Hold.nil w).alloc w 169 [i? 300 (g? #[jJ f,jN A l cap]),jJ k,jJ c]).alloc (w.heap.size+1) 136 (xl 0 0)).alloc (aN w) 136 ([jJ k,jJ c,jM,jJ 0,aF,jJ 0,jJ 0,jM,jJ f,jN A l cap])).alloc (cC w) 300 [jJ f,jN A l cap]);refine(vI A l cap jS _ ((Rd.below z H.below).more H.size)).mono ?_;rintro e K⟨⟨b,c1,rfl,q,j⟩,d⟩;replace H:=ah (H.call d);have p:=H.facts;simp only[Facts,kz,au,ao]at p;have h:∀g,g<=w.heap.size+1+1->∀a,b=M a->a.block≠g:=λg C a e=>by
  have:=j a e;simp at this;omega
 have s:∀a,b=M a->w.heap.size<=a.block:=λa e=>by
  have:=j a e;simp at this;omega
 go_wp2_with fail;have t:=aS ((H.put 1 9 (b? b l.length c1)).all 2 [jJ k,jJ c,jM,jJ 0,aF,jJ 0,jJ 0,jM,jJ f,jN b l c1]);have n:=aS (xr (h (w.heap.size+1) jS) [jJ k,jJ c,jM,jJ 0,aF,jJ 0,jJ 0,jM,jJ f,jN b l c1] 0 (mi (o:=9) (u:=b? b l.length c1) q (h (aN w) jS)));refine kw (λV=>Hi.Sb V V b l) t n (λV x r=>?_);clear p H d t n;have p:=x.at_ 2;simp only[kz,au,ao]at p;refine jF (v:=g? #[jJ k,jJ c,jM,jJ 0,aF,jJ 0,jJ 0,jM,jJ f,jN b l c1]) (by simp[results,Tryz.results114,go_sem,p]) rfl ?_;exact⟨⟨{kN k c with fine:=f,g:=l},Z,0,Z,0,b,c1⟩,rfl,rfl,⟨Rd.none_,Rd.none_,r⟩,⟨λ_ e=>LS,λ_ e=>LS,s⟩,x.below⟩
structure ScT where
def cT:ScT:=⟨⟩
instance:CoeOut ScT (E jD):=⟨λ_=>[j?,jJ 0,jJ 0]⟩
def Ec(m:SkM)(J:Int)(i z:Nat)(T:jH)(o:jD)(hk:m.s.kind=J)(X:0<=m.s.level)(β:m.s.level<=kn J)(γ:z=157\/z=158\/z=159)(K:eI (.int .i64) (.int .i64 J) AF.toList 0=some (some (i,.func (.func z) #[] #[])))(w:jC)(hm:jY w w m)(hf:t8 m.s)(k:∀w',jY w' w' m->jE Tryz.prog z #[nT m] w' λr α=>r=.returned (.tuple #[.iface T o,.bool true])/\Below w' w' α)(A:∀w',jY w' w' m->jE Tryz.prog 114 #[.agg #[.iface T o,jJ m.s.kind,jJ m.s.level]] w' (wT w' m.s)):jE Tryz.prog 79 #[nT m] w λe w'=>e=.returned (.tuple #[.agg #[.iface T o,jJ m.s.kind,jJ m.s.level],.nilIface])/\Below w w w':=by
 have Y:Hid (∀w',Below w w w'->jY w' w' m):=λw' h=>hm.later h;have L:=ah hf;have Wy:=ah k;have Yp:=ah A;clear hm hf k A;obtain⟨⟨b,a,e,bits,regs,n,j,c,l,g⟩,ea,R,N,cc,Q,W⟩:=m;simp only at hk X β L Yp;subst hk;go_in;unfold nT at*;simp only at Wy⊢;go_wp2_with fail;refine oN (λ_=>True) ((((Hold.nil w).alloc w 136 [jJ b,jJ a,jN ea e R,jJ bits,jL regs,jJ n,jJ j,jN N c cc,jJ l,jN Q g W]).alloc (w.heap.size+1) 169 cT).al (.cells #[jJ 100] 225)) trivial (λV d _=>?_);have x:=d.at_ 1;simp only[kz,au,ao]at x;obtain⟨F,-⟩:=x;replace d:=ah d.drew;go_region_held(λw'=>w'.cell? ⟨w,0,none⟩=some (.int .i64 b)) (first|assumption|go_keep) ((go_at_call 111;refine(NM _).mono ?_;rintro r _⟨rfl,rfl⟩;have kL:=FY (P:=Tryz.prog) (T:=228) (du V.drew (.map AF 3)) Tryz.underlying228 Tryz.underlying3 K;replace d:=ah (d.al (.map AF 3));generalize V.drew.heap.size=mg at*;generalize V.drew.alloc (.map AF 3)=V1 at*;clear F;have x:=d.at_ 1;simp only[kz,au,ao]at x;obtain⟨F,x1,-⟩:=x));have ε:decide (a<0)=false:=ag;have δ:decide (kn b<a)=false:=ag;clear kL;go_wp2_with fail;replace d:=ah d.drew;go_region_held(λw'=>w'.cell? ⟨w,0,none⟩=some (.int .i64 b)/\w'.cell? ⟨w,1,none⟩=some (.int .i64 a)) (first|assumption|exact⟨F,x1⟩|go_keep) ((go_at_call 112;refine(qI _ _).mono ?_;rintro r _⟨rfl,rfl⟩));generalize V1.drew=V2 at*;clear F x1;have x:=d.facts;simp only[Facts,kz,au,ao]at x;rcases γ with rfl|rfl|rfl
 all_goals
  go_wp2_with fail;refine(Wy V2 (Y _ d.below)).mono ?_;rintro r w3⟨rfl,C⟩;replace d:=ah (d.call C);clear C x;have x:=d.facts;simp only[Facts,kz,au,ao]at x;go_wp2_with fail;refine oN (λ_=>True) (d.alloc w3 169 [.iface T o,jJ b,jJ a] rfl) trivial (λV4 G _=>?_);have hz:w.heap.size+1<w3.heap.size:=x.1;clear x d;generalize w3.heap.size=H at*;have f:=ah (G.drew);have x:=fk (G.at_ 2);have y:=fk (G.at_ 0);clear G;go_region_held(λw'=>w'.cell? ⟨w,0,none⟩=some (.int .i64 b)/\w'.cell? ⟨w,1,none⟩=some (.int .i64 a)/\w'.cell? ⟨w,2,none⟩=some (cZ ea e R)/\w'.cell? ⟨w,3,none⟩=some (.int .i64 bits)/\w'.cell? ⟨w,4,none⟩=some (.string regs)/\w'.cell? ⟨w,5,none⟩=some (.int .i64 n)/\w'.cell? ⟨w,6,none⟩=some (.int .i64 j)/\w'.cell? ⟨w,7,none⟩=some (cZ N c cc)/\w'.cell? ⟨w,8,none⟩=some (.int .i64 l)/\w'.cell? ⟨w,9,none⟩=some (.slice Q g.length W)/\w'.cell? ⟨H,0,none⟩=some (.iface T o)/\w'.cell? ⟨H,1,none⟩=some (.int .i64 b)/\w'.cell? ⟨H,2,none⟩=some (.int .i64 a)) (first|assumption|exact⟨x.1,x.2.1,x.2.2.1,x.2.2.2.1,x.2.2.2.2.1,x.2.2.2.2.2.1,x.2.2.2.2.2.2.1,x.2.2.2.2.2.2.2.1,x.2.2.2.2.2.2.2.2.1,x.2.2.2.2.2.2.2.2.2,y⟩) (first|(go_at_call 114;refine(Yp _ (Y _ f.below)).mono ?_;rintro r w6⟨mp,q,rfl,uH,_,D⟩;replace f:=ah (f.call D);clear x y;have x:=f.at_ 2;have y:=f.at_ 0;simp only[kz,au,ao,and_true]at x y;clear D)|(go_at_call 113;refine(NL ⟨⟨b,a,e,bits,regs,n,j,c,l,g⟩,ea,R,N,cc,Q,W⟩ mp w6 (Y _ f.below) uH L (q▸L)).mono ?_;rintro r w7⟨rfl,t⟩;replace f:=ah (f.call t);clear x y;have x:=f.at_ 2;have y:=f.at_ 0;simp only[kz,au,ao,and_true]at x y;rw[q];simp only[decide_true];clear t uH q));clear x y;have x:=f.facts;simp only[Facts,kz,au,ao]at x;go_wp2_with fail;have HR:=aS (f.all 1 [.iface T o,jJ b,jJ a]);refine kw (λ_=>True) HR trivial (λV d _=>?_);clear x f HR;have hq:=d.at_ 1;simp only[kz,au,ao]at hq;refine jF (v:=.tuple #[.agg #[.iface T o,jJ b,jJ a],.nilIface]) (by simp[results,Tryz.results79,go_sem,hq]) rfl ?_;exact⟨rfl,d.below⟩
def uU(s:Sk):Sk:=if s.kind=1 then(if s.level=0 then{kN s.kind s.level with e:=s.e}else{kN s.kind s.level with bits:=s.bits,regs:=s.regs})
 else if s.kind=2 then{kN s.kind s.level with rows:=s.rows,cols:=s.cols,c:=s.c}else{kN s.kind s.level with fine:=s.fine,g:=s.g}
def S7(s:Sk):z?:=if s.kind=1 then(if s.level=0 then Ex.kg s.e else Hl.kD s.bits (lQ s.regs)&&s.bits==8-s.level)
 else if s.kind=2 then Cm.kP s.rows s.cols s.c.length&&s.rows==2&&s.cols==32/2^s.level.toNat else Hi.kg s.fine s.g&&s.fine==3-s.level
def r4(s:Sk):z?:=decide (1<=s.kind/\s.kind<=3)&&decide (0<=s.level/\s.level<=kn s.kind)&&(S7 s&&decide (s=uU s))
def kK(m:SkM):jD:=if m.s.kind=1 then(if m.s.level=0 then i? 294 (eV m)else i? 297 (hV m))else if m.s.kind=2 then i? 298 (cV m)else i? 300 (gV m)
def jT(m:SkM):jD:=g? #[kK m,jJ m.s.kind,jJ m.s.level]
def v_{s:Sk}(h:r4 s=t?):1<=s.kind/\s.kind<=3/\0<=s.level/\s.level<=kn s.kind/\S7 s=t?/\s=uU s:=by
 simp only[r4,ba,D?]at h;exact⟨h.1.1.1,h.1.1.2,h.1.2.1,h.1.2.2,h.2.1,h.2.2⟩
def uj{f:bl9}{args:x? jD}{b:z?}(e:b=t?)(h:jE Tryz.prog f args w λr a=>r=a? (d? #[i? T v,h? b])/\Below w w a):jE Tryz.prog f args w λr a=>r=a? (d? #[i? T v,h? t?])/\Below w w a:=e▸h
def vu(m:SkM)(y:r4 m.s=t?)(w:jC)(q:jY w w m)(a:t8 m.s):jE Tryz.prog 79 #[nT m] w λe w'=>e=a? (d? #[jT m,j?])/\Below w w w':=by
 obtain⟨z,A,o,j,ok,n⟩:=v_ y;have B:m.s.level<=4:=by
  have:kn m.s.kind<=4:=by unfold kn;split;omega;split<;>omega
  omega
 have p:∀(s:Sk),s=m.s->∀{v:jD}(w':jC),jE Tryz.prog 114 #[v] w' (wT w' s)->jE Tryz.prog 114 #[v] w' (wT w' m.s):=λs e v w' h=>e▸h;rcases(by omega:m.s.kind=1\/m.s.kind=2\/m.s.kind=3)with k|k|k
 .by_cases l:m.s.level=0
  .have f:kK m=i? 294 (eV m):=by simp[kK,k,l]
   have d:Ex.kg m.s.e=t?:=by simpa[S7,k,l]using ok
   have b:{kN m.s.kind m.s.level with e:=m.s.e}=m.s:=by rw[n];simp[uU,kN,k,l]
   unfold jT;rw[f];refine Ec m 1 0 157 294 (eV m) k o (k▸j) (r? rfl) rfl w q a (λw' h=>?_) (λw' h=>p _ b w' (yq m.ea m.s.e m.ec _ _ a.e w' h.e));exact uj d (Cn m l w' h a)
  have f:kK m=i? 297 (hV m):=by simp[kK,k,l]
  have d:(Hl.kD m.s.bits (lQ m.s.regs)&&m.s.bits==8-m.s.level)=t?:=by simpa[S7,k,l]using ok
  have b:{kN m.s.kind m.s.level with bits:=m.s.bits,regs:=m.s.regs}=m.s:=by rw[n];simp[uU,kN,k,l]
  unfold jT;rw[f];refine Ec m 1 0 157 297 (hV m) k o (k▸j) (r? rfl) rfl w q a (λw' h=>?_) (λw' h=>p _ b w' (yo m.s.bits m.s.regs _ _ w'));exact uj d (Ck m jS w' h a)
 .have f:kK m=i? 298 (cV m):=by simp[kK,k]
  have d:(Cm.kP m.s.rows m.s.cols m.s.c.length&&m.s.rows==2&&m.s.cols==32/2^m.s.level.toNat)=t?:=by simpa[S7,k]using ok
  have b:{kN m.s.kind m.s.level with rows:=m.s.rows,cols:=m.s.cols,c:=m.s.c}=m.s:=by rw[n];simp[uU,kN,k]
  have x:m.s.level<=3:=by simpa[kn,k]using j
  unfold jT;rw[f];refine Ec m 2 1 158 298 (cV m) k o (k▸j) (s? (r? rfl)) rfl w q a (λw' h=>?_) (λw' h=>p _ b w' (yu m.s.rows m.s.cols m.ca m.s.c m.cc _ _ a.c w' h.c));exact uj d (KZ m jS w' h a)
 have f:kK m=i? 300 (gV m):=by simp[kK,k]
 have d:(Hi.kg m.s.fine m.s.g&&m.s.fine==3-m.s.level)=t?:=by simpa[S7,k]using ok
 have b:{kN m.s.kind m.s.level with fine:=m.s.fine,g:=m.s.g}=m.s:=by rw[n];simp[uU,kN,k]
 have x:m.s.level<=3:=by simpa[kn,k]using j
 unfold jT;rw[f];refine Ec m 3 2 159 300 (gV m) k o (k▸j) (s? (s? rfl)) rfl w q a (λw' h=>?_) (λw' h=>p _ b w' (yp m.s.fine m.ga m.s.g m.gc _ _ a.g w' h.g));exact uj d (Qx m jS w' h a)
def kv(m:SkM):∃T v,kK m=i? T v:=by unfold kK;split;(split<;>exact⟨_,_,rfl⟩);split<;>exact⟨_,_,rfl⟩
def Q5(m:SkM)(p:r4 m.s=t?)(w:jC)(t:jY w w m)(x:t8 m.s):jE Tryz.prog 183 #[nT m] w λe w'=>e=a? (h? t?)/\Below w w w':=by
 have b:Hid (∀w',Below w w w'->jE Tryz.prog 79 #[nT m] w' λe d=>e=a? (d? #[jT m,j?])/\Below w' w' d):=λw' h=>vu m p w' (t.later h) x;obtain⟨T,v,l⟩:=kv m;unfold jT at b;rw[l]at b;clear t x p l;obtain⟨⟨o,f,e,bits,regs,n,k,c,q,g⟩,F,C,A,z,B,D⟩:=m;unfold nT at*;simp only at b⊢;go_in;go_wp2_with fail;refine(b _ (jP (jQ w) _)).mono ?_;rintro r y⟨rfl,a⟩;have j:=ah (Below.two (jP (jQ w) _) a);clear a b;go_wp2;go_ret;exact⟨rfl,Below.two j (jP (jQ y) _)⟩
instance(x0:jC)(x1:O)(x2:jD)(x3:jD):CoeOut (IN 57 x0 x1 x2 x3) jC:=⟨λ_=>((x0.setCell ⟨x1,0,Z⟩ x2).setCell ⟨x1,1,Z⟩ x3)⟩
variable{α:Type}
def qA{f:α->E jD}(a:∀x,(f x).length=n):∀l:E α,(l.flatMap f).length=n*l.length
 |[]=>rfl
 |x::l=>by rw[dg,cd,qA a l,a,c_,Nat.mul_add];omega
def Mo{f:α->E jD}(a:∀x,(f x).length=n):∀(l:E α)(k j:O)(h:k<l.length),j<n->(l.flatMap f)[k*n+j]? =(f l[k])[j]?
 |[],_,_,h,_=>WY
 |x::l,0,j,_,b=>by rw[dg,fh,au,eL (by rw[a];exact b)];rfl
 |x::l,k+1,j,h,b=>by
  have c:k<l.length:=S6;have e:((x::l).flatMap f)[(k+1)*n+j]? =(l.flatMap f)[k*n+j]? :=by
   rw[dg,d7 (by rw[a,iY];omega),a];congr 1;rw[iY];omega
  rw[e,Mo a l k j c b];rfl
def oP{f:α->E jD}(d:∀x,(f x).length=n)(m:0<n){l:E α}(h:Rd w B A (l.flatMap f))(r:0<l.length):∃b a,A=M ⟨b,a,Z⟩/\b<B/\∀k(c:k<l.length) j v,j<n->(f l[k])[j]? =M v->w.cell? ⟨b,a+k*n+j,Z⟩=M v:=by
 obtain⟨b,a,e,q,g⟩:=h.at_ (by rw[qA d];exact Nat.mul_pos m r);exact⟨b,a,e,q,λk c j v p o=>by rw[gW];exact g _ v (by rw[Mo d l k j c p];exact o)⟩
variable{g:O}{b:jD}
def sD{a x y:jD}(h:jR w g t #[a,b]):jR (rU 57 w g x y) g t #[x,y]:=by
 unfold jR at h⊢;simp[bj,g_,h]
def Qh(h:w.ownsRow B t sz v n xs)(j:0<n):∃g cap,v=b? (aC g) n cap/\B<=g/\g<w.heap.size/\n<=cap:=by
 obtain⟨_,⟨_,e⟩|⟨g,cap,c,b,d,f,a,_⟩⟩:=h
 .omega
 exact⟨g,cap,b,d,(aw.1 f).1,a⟩
def qp(h:w.ownsRow B t sz v n xs):∀j,v.ownBlock=M j->B<=j:=λj e=>by
 obtain⟨_,⟨h,_⟩|⟨g,cap,b,a,c,_⟩⟩:=h
 .subst h;cases e
 subst a;cases e;exact c
structure mV where
 seq:I
 tm:I
 text:v?
 sum:I
 deriving DecidableEq
def nE(x:mV):E jD:=[jK x.seq,jK x.tm,jL x.text,jK x.sum]
def Hw(x:mV):jD:=g? #[jK x.seq,jK x.tm,jL x.text,jK x.sum]
structure qL(x:mV):Prop where
 seq:U x.seq
 tm:U x.tm
 sum:U x.sum
def Be(x:mV):(nE x).length=4:=rfl
def Eb(w:jC)(B:O)(A:w? jG)(l:E mV):Prop:=Rd w B A (l.flatMap nE)
variable{l:E mV}
def Eb.later(h:Eb w w A l)(a:Below w w w'):Eb w' w' A l:=(Rd.below h a).more a.size
def Eb.later'(h:Eb w w A l)(a:Below w w w'):Eb w' w A l:=Rd.below h a
structure IZ(w:jC)(b o:O)(x:mV):Prop where
 c0:w.cell? ⟨b,o,Z⟩=M (c? n? x.seq)
 c1:w.cell? ⟨b,o+1,Z⟩=M (c? n? x.tm)
 c2:w.cell? ⟨b,o+2,Z⟩=M (f? x.text)
 c3:w.cell? ⟨b,o+3,Z⟩=M (c? n? x.sum)
def Eb.at_(h:Eb w B A l)(g:0<l.length):∃b a,A=M ⟨b,a,Z⟩/\b<B/\∀k(c:k<l.length),IZ w b (a+k*4) l[k]:=by
 obtain⟨b,a,e,f,d⟩:=oP Be B8 h g;exact⟨b,a,e,f,λk c=>⟨d k c 0 _ B8 rfl,d k c 1 _ B8 rfl,d k c 2 _ B8 rfl,d k c 3 _ B8 rfl⟩⟩
structure Gr where
 id:I
 to:I
 scope:v?
 deriving DecidableEq
def uZ(x:Gr):E jD:=[jK x.id,jK x.to,jL x.scope]
def sA(x:Gr):(uZ x).length=3:=rfl
def Gb(w:jC)(B:O)(A:w? jG)(l:E Gr):Prop:=Rd w B A (l.flatMap uZ)
variable{l:E Gr}
def Gb.later(h:Gb w w A l)(a:Below w w w'):Gb w' w' A l:=(Rd.below h a).more a.size
structure VD(w:jC)(b o:O)(x:Gr):Prop where
 c0:w.cell? ⟨b,o,Z⟩=M (c? n? x.id)
 c1:w.cell? ⟨b,o+1,Z⟩=M (c? n? x.to)
 c2:w.cell? ⟨b,o+2,Z⟩=M (f? x.scope)
def Gb.at_(h:Gb w B A l)(g:0<l.length):∃b a,A=M ⟨b,a,Z⟩/\b<B/\∀k(c:k<l.length),VD w b (a+k*3) l[k]:=by
 obtain⟨b,a,e,f,d⟩:=oP sA B8 h g;exact⟨b,a,e,f,λk c=>⟨d k c 0 _ B8 rfl,d k c 1 _ B8 rfl,d k c 2 _ B8 rfl⟩⟩
def qc(p:w? jG)(w:jC):jE Tryz.prog 71 #[e? p] w λe w'=>e=a? (h? p.isNone)/\w'=w:=by
 cases p<;>(go_in;go_wp2_with fail;go_ret;exact⟨rfl,rfl⟩)
def qW(r:I):z?:=decide (1<=r/\r<=3)
def Kn(r:I)(w:jC):jE Tryz.prog 64 #[jJ r] w λe w'=>e=a? (h? (qW r))/\w'=w:=by
 unfold qW;by_cases h:1<=r
 .have a:decide (1<=r)=t?:=F? h;have e:decide (1<=r/\r<=3)=decide (r<=3):=by simp[h]
  rw[e];clear e h;go_in;go_wp2;go_ret;exact⟨rfl,rfl⟩
 have a:decide (1<=r)=u?:=E? h;have e:decide (1<=r/\r<=3)=u?:=ag;rw[e];clear e h;go_in;go_wp2;go_ret;exact⟨rfl,rfl⟩
def ux(r:I):z?:=decide (0<=r/\r<=1000000)
def Ev(r:I)(w:jC):jE Tryz.prog 140 #[jJ r] w λe w'=>e=a? (h? (ux r))/\w'=w:=by
 unfold ux;by_cases h:0<=r
 .have a:decide (0<=r)=t?:=F? h;have e:decide (0<=r/\r<=1000000)=decide (r<=1000000):=by simp[h]
  rw[e];clear e h;go_in;go_wp2;go_ret;exact⟨rfl,rfl⟩
 have a:decide (0<=r)=u?:=E? h;have e:decide (0<=r/\r<=1000000)=u?:=ag;rw[e];clear e h;go_in;go_wp2;go_ret;exact⟨rfl,rfl⟩
def yR(a next:I)(w:jC):jE Tryz.prog 123 #[jK a,jK next] w λe w'=>e=a? (if next<a then d? #[jK 0,jJ 140]else d? #[jK next,jJ 0])/\w'=w:=by
 by_cases h:next<a
 .rw[B? h];go_in;go_wp2;go_ret2;exact⟨rfl,rfl⟩
 rw[A? h];go_in;go_wp2;go_ret2;exact⟨rfl,rfl⟩
def Ry(w:jC):jE Tryz.prog 50 #[] w λe w'=>e=a? (g? #[jK 1,jM])/\Below w w w':=by
 go_in;go_wp2_with fail;have b:=jP (jQ w) (m? #[jK 1,jM] 111);have a:=jR.new w 111 #[jK 1,jM];exact jF (bl2 rfl _ _ w _ _ _ _ rfl a Tryz.underlying111 rfl oo) rfl ⟨rfl,b⟩
def kO(l:E mV):I:=match l.getLast? with|none=>0|some x=>x.seq
def pH(b:I)(l:E mV):I:=match l.getLast? with|none=>b|some x=>x.sum
def last_any(b:I)(A:w? jG)(l:E mV)(cap:O)(q:l.length<=1000)(w:jC)(c:Eb w w A l):jE Tryz.prog 126 #[g? #[jK b,jN A l cap]] w λe w'=>e=a? (c? n? (kO l))/\Below w w w':=by
 by_cases g:l.length=0
 .have e:l=[]:=da g;subst e;go_in;go_wp2;go_ret;exact⟨rfl,jP (jQ w) _⟩
 obtain⟨o,f,rfl,m,a⟩:=c.at_ jS;have c0:=(a (l.length-1) jS).c0;have e:kO l=(l[l.length-1]'jS).seq:=by unfold kO;rw[fv,an jS]
 rw[<-e]at c0;clear c a e;generalize p:l.length=n at*;have h:((n:I)==0)=u?:=J? jS;have d:(n==0)=u?:=J? jS;have j:IntKind.i64.wrap ((n:I)-1)=((n-1:O):I):=by rw[dv _ jS];omega
 have r:(0:I)<=((n-1:O):I):=jS;have k:((n-1:O):I)<(n:I):=jS;go_in;go_wp2;go_ret;exact⟨rfl,jP (jQ w) _⟩
def Rq(b:I)(A:w? jG)(l:E mV)(cap:O)(q:l.length<=1000)(w:jC)(c:Eb w w A l):jE Tryz.prog 128 #[g? #[jK b,jN A l cap]] w λe w'=>e=a? (c? n? (pH b l))/\Below w w w':=by
 by_cases g:l.length=0
 .have e:l=[]:=da g;subst e;go_in;go_wp2;go_ret;exact⟨rfl,jP (jQ w) _⟩
 obtain⟨o,f,rfl,m,a⟩:=c.at_ jS;have c0:=(a (l.length-1) jS).c3;have e:pH b l=(l[l.length-1]'jS).sum:=by unfold pH;rw[fv,an jS]
 rw[<-e]at c0;clear c a e;generalize p:l.length=n at*;have h:((n:I)==0)=u?:=J? jS;have d:(n==0)=u?:=J? jS;have j:IntKind.i64.wrap ((n:I)-1)=((n-1:O):I):=by rw[dv _ jS];omega
 have r:(0:I)<=((n-1:O):I):=jS;have k:((n-1:O):I)<(n:I):=jS;go_in;go_wp2;go_ret;exact⟨rfl,jP (jQ w) _⟩
def n9(a x:mV):z?:=decide (a.seq<18446744073709551615)&&(x.seq==a.seq+1&&decide (a.tm<=x.tm))
def Hm(a x:mV)(o:U a.seq)(w:jC):jE Tryz.prog 169 #[Hw a,Hw x] w λe w'=>e=a? (h? (n9 a x))/\Below w w w':=by
 obtain⟨b,at_,k,f⟩:=a;obtain⟨xs,m,h,d⟩:=x;unfold n9 Hw;obtain⟨n,l⟩:=o;simp only at n l⊢;have j:=ah (jP (jP (jQ w) (m? #[jK b,jK at_,jL k,jK f] 59)) (m? #[jK xs,jK m,jL h,jK d] 59));by_cases c1:b<18446744073709551615
 .have c:decide (b<18446744073709551615)=t?:=F? c1;have p:IntKind.u64.wrap (b+1)=b+1:=gC _ jS;by_cases c2:xs=b+1
  .have g:(xs==b+1)=t?:=beq_iff_eq.2 c2;rw[c,g];subst c2;go_in;go_wp2;go_ret;exact⟨lV,j.out⟩
  have g:(xs==b+1)=u?:=J? c2;rw[c,g];clear c2;go_in;go_wp2;go_ret;exact⟨lV,j.out⟩
 have c:decide (b<18446744073709551615)=u?:=E? c1;rw[c];go_in;go_wp2;go_ret;exact⟨lV,j.out⟩
def zZ(a b:I):z?:=qW a&&decide (1<=b/\b<=7)&&(a==3||b==7||a==1&&b==1||a==2&&(b==2||b==3||b==6))
def Jz{i:Nat}(d:w.heap[m]? =some (.map es clock))(b:P.underlying T=some (.map kt et))(a:P.underlying kt=some (.int .i64))(e:eI (.int .i64) (.int .i64 c) es.toList 0=some (some (i,v))):(eU T (.map (some m)) (.int .i64 c) false).run P w=.ok v w:=by
 have g:(Instr.checkKey es.isEmpty 10000 kt (.int .i64 c)).run P w=.ok () w:=Go.MapKept.run_checkKey (w:=w) a (k:=.int .i64 c) rfl es.isEmpty 9999;have f:=Go.MapKept.run_findKey (w:=w) a e;simp only[eU,eT,bi8 b,dw,getObj,Sem.run,d,fX,g,f];rfl
variable{cs:x? jD}
def DY{e:jH}{i:O}(h:P.underlying t=M (.array n e))(hs:(sizeOf e).run P w=.ok 1 w)(b:(isAgg e).run P w=.ok u? w)(hi:i<n)(a:cs[i]? =M v):(Instr.index t (g? cs) (aJ i)).run P w=.ok v w:=by
 simp[Instr.index,bi8 h,asIntOf,go_sem,hs,hi,a,b]
def tA':x? jD:=#[jJ 1,jJ 0,jJ 0,jJ 0,jJ 0,jJ 0,jJ 1]
def ZK:x? jD:=#[jJ 0,jJ 1,jJ 1,jJ 0,jJ 0,jJ 1,jJ 1]
def ZJ:x? jD:=#[jJ 1,jJ 1,jJ 1,jJ 1,jJ 1,jJ 1,jJ 1]
def tA:jD:=g? (#[c? o? 0]++tA')
def tB:jD:=g? (#[c? o? 0]++ZK)
def tC:jD:=g? (#[c? o? 0]++ZJ)
def Cc:x? bk4:=#[{key:=c? o? 1,val:=tA,born:=0},{key:=c? o? 2,val:=tB,born:=1},{key:=c? o? 3,val:=tC,born:=2}]
def Ue(a d:Int)(w:jC):jE Tryz.prog 37 #[jJ a,jJ d] w λe w'=>e=.returned (.bool (zZ a d))/\Below w w w':=by
 have l:=ah (Kn a);unfold zZ
 cases n:qW a with
 |false=>
  rw[n]at l;go_in;go_wp2_with fail;refine(l w).mono ?_;rintro e g⟨rfl,rfl⟩;go_wp2_with fail;go_ret;exact⟨rfl,jQ _⟩
 |true=>
  rw[n]at l;by_cases r:1<=d/\d<=7
  .have A:a=1\/a=2\/a=3:=by simp[qW]at n;omega
   have f:d=1\/d=2\/d=3\/d=4\/d=5\/d=6\/d=7:=by omega
   clear r n;have C:=λv=>nW (P:=Tryz.prog) (W:=w) (T:=147) (c:=1) (v:=v) (es:=#[]) (clock:=0) rfl Tryz.underlying147 Tryz.underlying3 rfl;have D:=λv x=>nW (P:=Tryz.prog) (W:=w) (T:=147) (c:=2) (v:=v) (es:=#[{key:=.int .i64 1,val:=x,born:=0}]) (clock:=1) rfl Tryz.underlying147 Tryz.underlying3 rfl;have F:=λv x y=>nW (P:=Tryz.prog) (W:=w) (T:=147) (c:=3) (v:=v) (es:=#[{key:=.int .i64 1,val:=x,born:=0},{key:=.int .i64 2,val:=y,born:=1}]) (clock:=2) rfl Tryz.underlying147 Tryz.underlying3 rfl;simp only[fW,dz,dj,au,ao]at C D F;have B:=@run_makeMap Tryz.prog;have z:=ai (jP (jQ w) (.map Cc 3));go_in;go_wp2_with fail;refine(l.out w).mono ?_;rintro e g⟨rfl,rfl⟩;go_wp2_with fail;clear C D F B;obtain⟨o,rfl⟩:∃o:Nat,d=(o:Int):=⟨d.toNat,by omega⟩;replace f:o=1\/o=2\/o=3\/o=4\/o=5\/o=6\/o=7:=by omega
   rcases A with rfl|rfl|rfl
   .have k:=Jz (P:=Tryz.prog) (T:=147) (c:=1) (du g (.map Cc 3)) Tryz.underlying147 Tryz.underlying3 rfl;obtain⟨v,h,j⟩:∃v:Int,(#[.int .i64 0]++tA')[o]? =some (.int .i64 v)/\(v==1)=(qW 1&&decide (1<=(o:Int)/\(o:Int)<=7)&&((1:Int)==3||(o:Int)==7||(1:Int)==1&&(o:Int)==1||(1:Int)==2&&((o:Int)==2||(o:Int)==3||(o:Int)==6))):=by
     rcases f with rfl|rfl|rfl|rfl|rfl|rfl|rfl<;>exact⟨_,rfl,by decide⟩
    have m:=DY (P:=Tryz.prog) (w:=g.alloc (.map Cc 3)) (t:=146) Tryz.underlying146 (Tryz.sizeOf3 _) (Tryz.isAgg3 _) (by omega) h;simp only[Cc,tA,tB,tC,tA',ZK,ZJ,gj,dj,dz]at k m;have q:=ai j;clear j h f;go_simp;go_wp2_with fail;go_ret;exact⟨jU q.out,z.out⟩
   .have k:=Jz (P:=Tryz.prog) (T:=147) (c:=2) (du g (.map Cc 3)) Tryz.underlying147 Tryz.underlying3 rfl;obtain⟨v,h,j⟩:∃v:Int,(#[.int .i64 0]++ZK)[o]? =some (.int .i64 v)/\(v==1)=(qW 2&&decide (1<=(o:Int)/\(o:Int)<=7)&&((2:Int)==3||(o:Int)==7||(2:Int)==1&&(o:Int)==1||(2:Int)==2&&((o:Int)==2||(o:Int)==3||(o:Int)==6))):=by
     rcases f with rfl|rfl|rfl|rfl|rfl|rfl|rfl<;>exact⟨_,rfl,by decide⟩
    have m:=DY (P:=Tryz.prog) (w:=g.alloc (.map Cc 3)) (t:=146) Tryz.underlying146 (Tryz.sizeOf3 _) (Tryz.isAgg3 _) (by omega) h;simp only[Cc,tA,tB,tC,tA',ZK,ZJ,gj,dj,dz]at k m;have q:=ai j;clear j h f;go_simp;go_wp2_with fail;go_ret;exact⟨jU q.out,z.out⟩
   have k:=Jz (P:=Tryz.prog) (T:=147) (c:=3) (du g (.map Cc 3)) Tryz.underlying147 Tryz.underlying3 rfl;obtain⟨v,h,j⟩:∃v:Int,(#[.int .i64 0]++ZJ)[o]? =some (.int .i64 v)/\(v==1)=(qW 3&&decide (1<=(o:Int)/\(o:Int)<=7)&&((3:Int)==3||(o:Int)==7||(3:Int)==1&&(o:Int)==1||(3:Int)==2&&((o:Int)==2||(o:Int)==3||(o:Int)==6))):=by
    rcases f with rfl|rfl|rfl|rfl|rfl|rfl|rfl<;>exact⟨_,rfl,by decide⟩
   have m:=DY (P:=Tryz.prog) (w:=g.alloc (.map Cc 3)) (t:=146) Tryz.underlying146 (Tryz.sizeOf3 _) (Tryz.isAgg3 _) (by omega) h;simp only[Cc,tA,tB,tC,tA',ZK,ZJ,gj,dj,dz]at k m;have q:=ah j;clear j h f;go_simp;go_wp2;go_ret;exact⟨jU q,z⟩
  have b:decide (1<=d/\d<=7)=false:=decide_eq_false r;rw[b];clear n;by_cases s:d<1
  .have G:decide (d<1)=true:=decide_eq_true s;clear r b s;go_in;go_wp2_with fail;refine(l w).mono ?_;rintro e g⟨rfl,rfl⟩;go_wp2;go_ret;exact⟨rfl,jQ _⟩
  have G:decide (d<1)=false:=decide_eq_false s;have H:decide (7<d)=true:=ae;clear r b s;go_in;go_wp2_with fail;refine(l w).mono ?_;rintro e g⟨rfl,rfl⟩;go_wp2;go_ret;exact⟨rfl,jQ _⟩
structure SbY(x0:jC)(x1:jC)(x2:O) where
def bY(c:jC)(a:jC)(b:O):SbY c a b:=⟨⟩
instance(x0:jC)(x1:jC)(x2:O):CoeOut (SbY x0 x1 x2) Prop:=⟨λ_=>x0.grownBy x1 (M x2)⟩
instance(x0:jC)(x1:jC)(x2:O):CoeSort (SbY x0 x1 x2) Prop:=⟨λ_=>x0.grownBy x1 (M x2)⟩
def uC{β:Type}(q:O->Prop)(B:O)(J:β->jC->Prop):Prop:=
 ∀s W a row,J s W->W.grownBy a row->(∀r,row=M r->q r\/(B<=r/\∃o:Obj,W.heap[r]? =M o/\o.isWalk=t?))->J s a
def DD(q:O->Prop)(F:Fence)(n:O)(P:bi3)(g:O)(lb:x? jD)(c:α->x? jD)(j:jC->jC->Prop)(S h:E α->Prop)(N:O)(Bd:E α->Prop)(Nx:E α->α->Prop)(w:jC):Prop:=
 ∀(l:O)(J d:E α->jC->Prop)(W:jC),Below w w W->uC q W J->uC q W d->(∀s W,J s W->Bd s)->
  (∀a x f,J a f->a.length<N->Nx a x->bl4 F (n-1) P l (c x) f λe b=>
   (e=a? (h? t?)/\J (a++[x]) b/\j f b)\/(e=a? (h? u?)/\d (a++[x]) b))->
  J [] W->
  bj2 F n P g (#[k? (.yield l) #[] #[]]++lb) W λe b=>(∃v,e=a? v)/\((∃xs,S xs/\J xs b)\/(∃a,h a/\d a b))
def x_(q:O->Prop)(F:Fence)(n:O)(P:bi3)(g:O)(lb:x? jD)(c:α->x? jD)(j:jC->jC->Prop)(S h:E α->Prop)(N:O)(w:jC):Prop:=
 ∀(l:O)(J d:E α->jC->Prop)(W:jC),Below w w W->uC q W J->uC q W d->
  (∀a x f,J a f->a.length<N->bl4 F (n-1) P l (c x) f λe b=>
   (e=a? (h? t?)/\J (a++[x]) b/\j f b)\/(e=a? (h? u?)/\d (a++[x]) b))->
  J [] W->
  bj2 F n P g (#[k? (.yield l) #[] #[]]++lb) W λe b=>(∃v,e=a? v)/\((∃xs,S xs/\J xs b)\/(∃a,h a/\d a b))
def sG{β:Type}(q:O->Prop)(b:β->jC->Prop):Prop:=∀s W a r,b s W->(bY W a r)->q r->b s a
variable{F:Fence}{n:O}{P:bi3}
variable{q:O->Prop}{ps:x? Tmp}{assign:bk9}{Q:bk7->Act->jC->Prop}{a:Act}
def yA{g:bl7}{body:bk9}
 (hro:F.round=none) (h1:1<=n) {gf:Nat} {lb:Array jD} (hg:a.eval g=(lI 38 gf lb)) (hFg:F.fn gf) (eg:∀args w,(callFunc gf args).run P w=.ok (.enter gf args) w)
 {encs:α->Array jD} {Kp:jC->jC->Prop} {S Sp:List α->Prop} {N:Nat} {Bd:List α->Prop} {Nx:List α->α->Prop} {w0:jC} (hseq:DD q F (n-1) P gf lb encs Kp S Sp N Bd Nx w0)
 (hKt:∀{A B C:jC},Kp A B->Kp B C->Kp A C) (hKb:∀(W:jC)(l:Nat)(o o':Obj),w.heap.size<=l->W.heap[l]? =some o->o.isCells=false->o.isWalk=false->Kp W (W.putObj l o'))
 (hb0:(bJ w0 w)) (hps:∀x,(encs x).size=ps.size) (hq:∀r,q r->r<w.heap.size)
 (I:List α->jC->Prop) (Ix:bk9->List α->jC->Prop) (hI:bj3 w.heap.size I) (hIx:∀c,bj3 w.heap.size (Ix c)) (hIq:sG q I) (XH:∀c,sG q (Ix c)) (hIB:∀s W,I s W->Bd s) (h0:I [] w) (a₁:α->Act)
 (hassign:∀(l:Nat)(x:α)(W:jC)(K:Act->jC->Prop),K (a₁ x) W->
  assign.wpIn (F.inRound l) (n-1-1) P (Exit.then K (λ_ _ _=>False)) {tmps:=(ps.zip (encs x)).foldl (λt(p,v)=>t.setIfInBounds p v) a.tmps,defers:=[]} W)
 (hbody:∀(l:Nat)(pre:List α)(x:α)(W:jC),I pre W->w.heap.size+1<W.heap.size->pre.length<N->Nx pre x->body.wpIn (F.inRound l) (n-1-1) P (ownPostK Kp I Ix (pre++[x]) W) (a₁ x) W)
 (hdone:∀(D:Nat)(xs:List α)(W:jC),w.heap.size<=D->S xs->I xs W->W.heap[D]? =some (aY)->Q .normal (lI 19 a D) W)
 (hstop:∀(D:Nat)(c:bk9)(pre:List α)(W:jC),w.heap.size<=D->Sp pre->Ix c pre W->W.heap[D]? =some (aY)->c.wpIn F n P Q (lI 19 a D) W):
 (Code.rangeFunc g ps assign body).wpIn F n P Q a w:=by
 refine wpIn_rangeFunc ?_
 intro fn hfn
 rw[hro]
 obtain⟨rec,hrec⟩:∃rec:LoopState->Option bk9->Loop,rec=λst pe=>{state:=st,pending:=pe,fn,tmps:=a.tmps,params:=ps,assign,body,defers:=w.heap.size}:=⟨_,rfl⟩
 obtain⟨W1,hW1⟩:∃W1,(w.alloc (aY)).alloc (.loop (rec .ready none))=W1:=⟨_,rfl⟩
 have hz1:W1.heap.size=w.heap.size+2:=by rw[<-hW1];simp
 have hL1:W1.heap[w.heap.size+1]? =some (.loop (rec .ready none)):=by
  rw[<-hW1];have:=du (w.alloc (aY)) (.loop (rec .ready none));rwa[b_]at this
 have hK1:W1.heap[w.heap.size]? =some (aY):=by
  rw[<-hW1];exact(Below.heap_alloc _ _ _ (by simp)).trans (du w _)
 have hI1:I [] W1:=by rw[<-hW1];exact hI.alloc _ (hI.alloc _ h0)
 have hb1:(bJ w0 W1):=by rw[<-hW1];exact Below.two hb0 (jP (jP (jQ w) _) _)
 refine⟨w.heap.size+1,[{target:=.collected w.heap.size,args:=#[]}],W1,{target:=.fn (.func gf) lb,args:=#[.func (.yield (w.heap.size+1)) #[] #[]]},W1,gf,
  #[.func (.yield (w.heap.size+1)) #[] #[]]++lb,W1,?_,?_,?_,?_,λ_=>h1,?_⟩
 ·rw[<-hW1,hrec];exact run_enterLoop_outer _ _ _ _ _
 ·simp only[resolve,hg];simp[go_sem]
 ·intro f' hf';simp[Target.leads]at hf';subst hf';exact hFg
 ·simp[invoke,go_sem,eg]
 have hnw:∀{A B:jC}{row:Option Nat},(∀r,row=some r->q r\/(W1.heap.size<=r/\∃o:Obj,A.heap[r]? =some o/\o.isWalk=true))->(∃r,row=some r/\q r)\/(∀r,row=some r->w.heap.size<=r/\(aH A r)):=λ{A B row} hr=>by
  cases row with
  |none=>exact .inr λr e=>by cases e
  |some r=>
   rcases hr r rfl with h|⟨hB,o,ho,hw⟩
   ·exact .inl ⟨r,rfl,h⟩
   exact .inr λr' e=>by cases e;exact⟨by omega,o,ho,Obj.not_cells_of_walk hw⟩
 have hmv:∀{J:List α->jC->Prop},bj3 w.heap.size J->sG q J->∀s A B row,J s A->A.grownBy B row->(∀r,row=some r->q r\/(W1.heap.size<=r/\∃o:Obj,A.heap[r]? =some o/\o.isWalk=true))->J s B:=λhJ hJq s A B row hs hg' hr=>by
  rcases hnw (B:=B) hr with⟨r,e,h⟩|h
  ·subst e;exact hJq s A B r hs hg' h
  exact hJ s A B row hs hg' h
 have hkp:∀{A B:jC}{row:Option Nat}{i:Nat}{o:Obj},A.grownBy B row->(∀r,row=some r->q r\/(W1.heap.size<=r/\∃o:Obj,A.heap[r]? =some o/\o.isWalk=true))->w.heap.size<=i->i<W1.heap.size->A.heap[i]? =some o->B.heap[i]? =some o:=λ{A B row i o} hg' hr h1 h2 ho=>by
  refine(hg'.block i (aw.1 ho).1 (λe=>?_)).trans ho;rcases hr i e.symm with h|⟨h,_⟩
  ·have:=hq i h;omega
  omega
 refine(hseq (w.heap.size+1)
  (λpre W=>I pre W/\W.heap[w.heap.size+1]? =some (.loop (rec .ready none))/\W.heap[w.heap.size]? =some (aY))
  (λpre W=>∃c,Ix c pre W/\W.heap[w.heap.size+1]? =some (.loop (rec .done (some c)))/\W.heap[w.heap.size]? =some (aY))
  W1 hb1
  (λs A B row hs hg' hr=>⟨hmv hI hIq s A B row hs.1 hg' hr,hkp hg' hr (by omega) (by omega) hs.2.1,hkp hg' hr (by omega) (by omega) hs.2.2⟩)
  (λs A B row hs hg' hr=>by
   obtain⟨c,hc,hl,hk⟩:=hs;exact⟨c,hmv (hIx c) (XH c) s A B row hc hg' hr,hkp hg' hr (by omega) (by omega) hl,hkp hg' hr (by omega) (by omega) hk⟩)
  (λs W hs=>hIB s W hs.1)
  ?_ ⟨hI1,hL1,hK1⟩).mono ?_
 ·rintro pre x W⟨hi,hl,hk⟩ hlen hnx;have hy:=run_yield (P:=P) (args:=encs x) hl (by rw[hrec];exact hps x);rw[hrec]at hy;have hlt:w.heap.size+1<W.heap.size:=(aw.1 hl).1;refine⟨fn,_,assign,body,hy,roundIn_of_wpIn hfn (hassign _ x W _ ?_)⟩;refine⟨_,run_beginRound hl (by rw[hrec]),?_⟩;have hl2:(W.putObj (w.heap.size+1) (.loop {rec .ready none with state:=.busy})).heap[w.heap.size+1]? =some (.loop {rec .ready none with state:=.busy}):=gN hlt;have hk2:(W.putObj (w.heap.size+1) (.loop {rec .ready none with state:=.busy})).heap[w.heap.size]? =some (aY):=(dx (by omega)).trans hk;have hw2:Kp W (W.putObj (w.heap.size+1) (.loop {rec .ready none with state:=.busy})):=hKb _ _ _ _ (by omega) hl rfl rfl;refine wpIn_mono (hbody _ pre x _ (hI.putObj _ hi (by omega) hl rfl) (aw.1 hl2).1 hlen hnx) ?_;have fin:∀(jump:Option bk9)(W3:jC),bj4 (W.putObj (w.heap.size+1) (.loop {rec .ready none with state:=.busy})) W3->
   (Instr.endRound (w.heap.size+1) jump).run P W3=.ok (.bool jump.isNone) (W3.putObj (w.heap.size+1) (.loop (rec (if jump.isNone then .ready else .done) jump)))/\
   W3.heap[w.heap.size+1]? =some (.loop {rec .ready none with state:=.busy})/\
   (W3.putObj (w.heap.size+1) (.loop (rec (if jump.isNone then .ready else .done) jump))).heap[w.heap.size+1]? =some (.loop (rec (if jump.isNone then .ready else .done) jump))/\
   (W3.putObj (w.heap.size+1) (.loop (rec (if jump.isNone then .ready else .done) jump))).heap[w.heap.size]? =some (aY):=λjump W3 hk3=>by
   have hl3:=hk3.same _ _ hl2 rfl
   have:=run_endRound (P:=P) jump hl3
   rw[hrec]at this⊢
   exact⟨this,by rw[hrec]at hl3;exact hl3,gN (aw.1 hl3).1,(dx (by omega)).trans (hk3.same _ _ hk2 rfl)⟩
  have out:∀(c:bk9)(W3:jC),bj4 (W.putObj (w.heap.size+1) (.loop {rec .ready none with state:=.busy})) W3->Ix c (pre++[x]) W3->
   ∃c',Ix c' (pre++[x]) (W3.putObj (w.heap.size+1) (.loop (rec .done (some c))))/\(W3.putObj (w.heap.size+1) (.loop (rec .done (some c)))).heap[w.heap.size+1]? =some (.loop (rec .done (some c')))/\(W3.putObj (w.heap.size+1) (.loop (rec .done (some c)))).heap[w.heap.size]? =some (aY):=λc W3 hk3 hi3=>by
   obtain⟨_,hl3,hl4,hk4⟩:=fin (some c) W3 hk3
   exact⟨c,(hIx _).putObj _ hi3 jS hl3 rfl,hl4,hk4⟩
  rintro e a3 W3 hp
  cases e with
  |normal=>
   obtain⟨hk3,hkp3,hi3⟩:=hp;obtain⟨hr,hl3,hl4,hk4⟩:=fin none W3 hk3;exact⟨_,_,hr,.inl ⟨rfl,⟨hI.putObj _ hi3 jS hl3 rfl,hl4,hk4⟩,hKt (hKt hw2 hkp3) (hKb _ _ _ _ jS hl3 rfl rfl)⟩⟩
  |ret=>exact⟨_,_,(fin (some .ret) W3 hp.1).1,.inr ⟨rfl,out _ _ hp.1 hp.2⟩⟩
  |exit id=>exact⟨_,_,(fin (some (.exit id)) W3 hp.1).1,.inr ⟨rfl,out _ _ hp.1 hp.2⟩⟩
  |goto t=>exact⟨_,_,(fin (some (.goto t)) W3 hp.1).1,.inr ⟨rfl,out _ _ hp.1 hp.2⟩⟩
  |panic ch=>exact hp.elim
  |outgrown=>exact hp.elim
 rintro e W2⟨⟨v,rfl⟩,(⟨xs,hS,hi,hl,hk⟩|⟨pre,hSp,c,hi,hl,hk⟩)⟩
 ·exact⟨none,_,by have:=run_endLoop (P:=P) hl (by rw[hrec];simp);rw[hrec]at this;exact this,hdone _ xs _ aa hS (hI.putObj _ hi jS hl rfl) ((dx jS).trans hk)⟩
 exact⟨some c,_,by have:=run_endLoop (P:=P) hl (by rw[hrec];simp);rw[hrec]at this;exact this,hstop _ c pre _ aa hSp ((hIx c).putObj _ hi jS hl rfl) ((dx jS).trans hk)⟩
def yy{g:bl7}{j:bk9}(H:F.round=Z) (h1:1<=n) {gf:O} {lb:x? jD} (hg:a.eval g=(lI 38 gf lb)) (β:F.fn gf) (eg:∀h w,(callFunc gf h).run P w=.ok (.enter gf h) w){e:α->x? jD} {y:jC->jC->Prop} {S Sp:E α->Prop} {N:O} {T:jC} (z:x_ q F (n-1) P gf lb e y S Sp N T)(γ:∀{A B C:jC},y A B->y B C->y A C) (δ:∀(W:jC)(l:O)(o o':Obj),w.heap.size<=l->W.heap[l]? =M o->o.isCells=u?->o.isWalk=u?->y W (W.putObj l o'))(Y:Below T T w) (V:∀x,(e x).size=ps.size) (hq:∀r,q r->r<w.heap.size)(ε:E α->jC->Prop) (G:bk9->E α->jC->Prop) (hI:bj3 w ε) (L:∀c,bj3 w (G c)) (R:sG q ε) (XH:∀c,sG q (G c)) (h0:ε [] w) (f:α->Act)(d:∀(l:O)(x:α)(W:jC)(K:Act->jC->Prop),K (f x) W->assign.wpIn (F.inRound l) (n-1-1) P (Exit.then K (λ_ _ _=>False)) {tmps:=(ps.zip (e x)).foldl (λt(p,v)=>t.setIfInBounds p v) a.tmps,defers:=[]} W)(k:∀(l:O)(b:E α)(x:α)(W:jC),ε b W->w.heap.size+1<W.heap.size->b.length<N->j.wpIn (F.inRound l) (n-1-1) P (ownPostK y ε G (b++[x]) W) (f x) W)(s:∀(D:O)(xs:E α)(W:jC),w.heap.size<=D->S xs->ε xs W->W.heap[D]? =M (aY)->Q .normal (lI 19 a D) W)(m:∀(D:O)(c:bk9)(b:E α)(W:jC),w.heap.size<=D->Sp b->G c b W->W.heap[D]? =M (aY)->c.wpIn F n P Q (lI 19 a D) W):(Code.rangeFunc g ps assign j).wpIn F n P Q a w:=
 yA (Bd:=λ_=>True) (Nx:=λ_ _=>True) H h1 hg β eg (λl J Jx W h1 h2 h3 _ hY=>z l J Jx W h1 h2 h3 λb x W1 hJ X=>hY b x W1 hJ X trivial) γ δ Y V hq ε G hI L R XH (λ_ _ _=>trivial) h0 f d (λl b x W hi hs X _=>k l b x W hi hs X) s m
def Kc(a:Int)(w:jC):jE Tryz.prog 238 #[jJ a] w λe w'=>e=.returned (.func (.func 258) #[] #[jO w])/\w.alloc (.cells #[jJ a] 3)=w':=by
 go_in;go_wp2;go_ret;exact⟨rfl,rfl⟩
def Kb(n M g:O)(T:1<=n)(b:I)(X:0<=b)(Q:b<=100)(N:M<=100)(w:jC)(B:g<w.heap.size)(z:jR w g 3 #[jJ b]):DD (λ_=>False) cz n Tryz.prog 258 #[jO g] (λx:I=>#[jJ x]) (λ_ _=>True) (λ_=>False) (λ_=>True) (M+1) (λa=>a.length<=M) (λa x=>x=b+a.length) w:=by
 intro l J L W f D p h v q;have t:=ah (z.below f B);have j:=ah h;have G:=ah v;have F:=t.one;clear z f D p h v t;refine bj1 Tryz.func258 rfl trivial ?_ rfl;simp only[Tryz.ntmps258,jn,c_,dp,ao,dk,Array.replicate_succ,Array.replicate_zero,fW,gj,dz,dj];gi_wp2;clear F;gi_loopw[3] (λi wr=>∃a:E I,i=c? o? (b+(a.length:I))/\J a wr) (λi _=>M+101-(av i).toNat)
 case atStart=>exact⟨[],lV,q⟩
 obtain⟨a,rfl,o⟩:=hrel;have V:=j _ _ o;have r:=G a (b+a.length) wr o jS rfl;obtain⟨R,A,assign,y,s,k⟩:=r;have H:IntKind.i64.wrap (b+(a.length:I)+1)=b+(a.length:I)+1:=dv _ jS;clear o;gi_wp2_with fail;refine k.mono ?_;rintro e K(⟨rfl,m,-⟩|⟨rfl,d⟩)
 .clear s k;gi_wp2_with fail;go_roundw
  case rel=>exact⟨a++[b+a.length],by rw[cd];simp;omega,m⟩
  exact No
 clear s k;gi_wp2_with fail;go_end0;exact⟨⟨_,rfl⟩,s? ⟨_,trivial,d⟩⟩
structure SaO where
def aO:SaO:=⟨⟩
instance:CoeOut SaO jD:=⟨λ_=>(b? Z 0 0)⟩
structure SaU(x0:jC) where
def aU(a:jC):SaU a:=⟨⟩
instance(x0:jC):CoeOut (SaU x0) Prop:=⟨λ_=>x0.heap.size<=x0.heap.size+1+1⟩
instance(x0:jC):CoeSort (SaU x0) Prop:=⟨λ_=>x0.heap.size<=x0.heap.size+1+1⟩
structure SbI(x0:jC)(x1:O)(x2:I) where
def bI(c:jC)(a:O)(b:I):SbI c a b:=⟨⟩
instance(x0:jC)(x1:O)(x2:I):CoeOut (SbI x0 x1 x2) Prop:=⟨λ_=>x0.cell? ⟨x1,0,Z⟩=M (c? n? x2)⟩
instance(x0:jC)(x1:O)(x2:I):CoeSort (SbI x0 x1 x2) Prop:=⟨λ_=>x0.cell? ⟨x1,0,Z⟩=M (c? n? x2)⟩
structure ScD(x0:I) where
def cD(a:I):ScD a:=⟨⟩
instance(x0:I):CoeOut (ScD x0) Obj:=⟨λ_=>(m? #[jK x0] 22)⟩
structure ScJ where
def cJ:ScJ:=⟨⟩
instance:CoeOut ScJ Obj:=⟨λ_=>(.deferred Z)⟩
instance(x0:jC):CoeOut (sH 46 x0) jG:=⟨λ_=>⟨x0.heap.size+1+1+1+1,0,Z⟩⟩
structure SbS(x0:jC) where
def bS(a:jC):SbS a:=⟨⟩
instance(x0:jC):CoeOut (SbS x0) jG:=⟨λ_=>⟨x0.heap.size+1,1,Z⟩⟩
structure SbZ(x0:jC) where
def bZ(a:jC):SbZ a:=⟨⟩
instance(x0:jC):CoeOut (SbZ x0) jG:=⟨λ_=>⟨x0.heap.size+1+1,1,Z⟩⟩
structure SdL(x0:jC) where
def dL(a:jC):SdL a:=⟨⟩
instance(x0:jC):CoeOut (SdL x0) Prop:=⟨λ_=>x0.heap.size+1≠x0.heap.size⟩
instance(x0:jC):CoeSort (SdL x0) Prop:=⟨λ_=>x0.heap.size+1≠x0.heap.size⟩
end Go.Proofs.YtfcnedcahoifoaaGreatDoor

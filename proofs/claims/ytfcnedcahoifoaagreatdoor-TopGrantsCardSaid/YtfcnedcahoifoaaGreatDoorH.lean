import Derived.Test.YtfcnedcahoifoaaGreatDoorD
import Derived.Test.YtfcnedcahoifoaaGreatDoorE
import Derived.Test.YtfcnedcahoifoaaGreatDoorF
namespace Go.Proofs.YtfcnedcahoifoaaGreatDoor
open Go.RowKit
open _root_.Bool renaming true_and→eF
open _root_.Go renaming Addr→jG,Calls→jE,Ending→bi6,FuncId→bl9,Value→jD,World→jC
open _root_.Go.Instr renaming field→i_,typeAssert→dd
open _root_.Go.IntWalk renaming i64_in→dv
open _root_.Int renaming eq_ofNat_of_zero_le→fm
open _root_.List renaming all_eq_true→dZ,eq_of_mem_replicate→gh,length_cons→c_,length_replicate→ey,map_map→fY,mem_append→ed,mem_cons→cw,mem_map→dq,mem_of_mem_drop→eJ,mem_of_mem_take→dy,mem_range→dh,pairwise_cons→b6,range→bu,replicate→de
open _root_.Nat renaming pow_le_pow_right→ep,reduceAdd→ao,two_pow_pos→ee,zero_add→au
open _root_.UInt8 renaming ofNat→gH
open _root_.Bool renaming false→u?,true→t?
open _root_.Go.Ending renaming returned→a?
open _root_.Go.IntKind renaming i64→o?,u64→n?
open _root_.Go.Value renaming agg→g?,iface→i?,int→c?,nilIface→j?,pointer→e?,slice→b?,string→f?,tuple→d?
open _root_.Option renaming none→Z,some→M
open _root_.Or renaming inr→s?
open _root_ renaming Array→x?,Bool→z?,ByteArray→v?,Int→I,List→E,Nat→O,Option→w?,and_true→I?,if_neg→A?,if_pos→B?
set_option maxRecDepth 100000
set_option maxHeartbeats 16000000
set_option linter.unusedVariables false
set_option linter.unusedSimpArgs false
set_option linter.defProp false
def oW(w:jC)(s:Sk)(e:bi6)(w':jC):Prop:=∃m:SkM,m.s=s/\e=a? (d? #[kK m,j?])/\jY w' w' m/\Fr w m/\Below w w w'
def I0(w:jC)(e:bi6)(w':jC):Prop:=∃b,e=a? (d? #[j?,i? 223 (e? (aC b))])/\w'.cell? ⟨b,0,Z⟩=M (c? o? 60)/\Below w w w'
def sR(l:E O)(h:Hl.Bytes l):lQ (Hl.bs l)=l:=by
 show((l.map gH).toArray.toList.map UInt8.toNat)=l;rw[fY];conv=>rhs;rw[<-List.map_id l]
 exact List.map_congr_left λx a=>by
  have:=h x a;simp only[Function.comp,id];rw[UInt8.toNat_ofNat_of_lt' (by simpa using this)]
variable{args:x? jD}{r:E I}
def EM{f:bl9}{w:jC}(h:r.length<=64)(b:jE Tryz.prog f args w (Ex.Fe w r)):jE Tryz.prog f args w λe a=>Below w w a/\∃v,e=a? (d? #[g? #[v],jJ 0])/\Held a w v r:=b.mono λe a⟨d,c⟩=>⟨d,by rcases c with⟨_,h⟩|⟨h,_⟩;exact h;omega⟩
def KI{f:bl9}{w:jC}(h:64<r.length)(b:jE Tryz.prog f args w (Ex.Fe w r)):jE Tryz.prog f args w λe a=>Below w w a/\e=a? (d? #[g? #[jM],jJ 60]):=b.mono λe a⟨d,c⟩=>⟨d,by rcases c with⟨h,_⟩|⟨_,h⟩;omega;exact h⟩
variable{b h:I}{s:v?}{y:Hl.Hr}
def Xv(a:U h)(c:Hl.pc b (lQ s) h.toNat=⟨y.b,y.l,0⟩)(w:jC):jE Tryz.prog 317 #[cO b s,jK h] w (Hl.yY w ⟨y.b,y.l,0⟩):=by
 have e:=Int.toNat_of_nonneg a.1;have:=Hl.add_any b (lQ s) (pu s) h.toNat (by have:=a.2;omega) w;unfold Hl.hV at this;rw[uB,e,c]at this;exact this
def G7{c:I}{t:v?}(a:Hl.l8 b (lQ s) c (lQ t)=⟨y.b,y.l,0⟩)(w:jC):jE Tryz.prog 320 #[cO b s,cO c t] w (Hl.yY w ⟨y.b,y.l,0⟩):=by
 have:=Hl.merge_any b c (lQ s) (lQ t) (pu s) (pu t) w;unfold Hl.hV at this;rw[uB,uB,a]at this;exact this
def Rm(a:Hl.lR b (lQ s)=⟨y.b,y.l,0⟩)(w:jC):jE Tryz.prog 319 #[cO b s] w (Hl.yY w ⟨y.b,y.l,0⟩):=by
 have:=Hl.rL b (lQ s) (pu s) w;unfold Hl.hV at this;rw[uB,a]at this;exact this
def Rn(b:I)(s:v?)(w:jC):jE Tryz.prog 318 #[cO b s] w λe a=>e=a? (c? n? ((Hl.vH b (lQ s):O):I))/\Below w w a:=by
 have:=Hl.count_any b (lQ s) (pu s) w;unfold Hl.hV at this;rw[uB]at this;exact this
def JV(A:w? jG)(l:E I)(c:O)(h n:I)(j:Ex.kg l=t?)(d:(Ex.kp l [h]).length<=64)(w:jC)(g:Sl w w A l):jE Tryz.prog 283 #[dD A l c,cI h n] w (oW w {kN 1 0 with e:=Ex.kp l [h]}):=by
 have H:=ah (((Hold.nil w).alloc w 294 [jN A l c]).alloc (w+1) 39 [jK h,jK n]);have f:=ah g;go_in;go_wp2_with fail;refine(EM d (Ex.add_any _ c A l h ((Rd.below f H.below).more (Below.size H.below)) j)).mono ?_;rintro e m⟨a,v,rfl,k,c1,rfl,-,-,b,hf1⟩;replace H:=ah (H.call a);go_wp2_with fail;refine(oy _ _).mono ?_;rintro e o⟨rfl,rfl⟩;go_wp2;go_ret2;exact⟨⟨{kN 1 0 with e:=Ex.kp l [h]},k,c1,Z,0,Z,0⟩,rfl,rfl,⟨(Rd.below b (jP (jQ m) _)).more lV,Rd.none_,Rd.none_⟩,⟨(λad e=>qhf),(λ_ e=>LS),(λ_ e=>LS)⟩,(H.al _).below⟩
def Ef(A:w? jG)(l:E I)(c:O)(A2:w? jG)(m:E I)(c2:O)(r:Ex.kg l=t?)(f:Ex.kg m=t?)(j:(Ex.kp l m).length<=64)(w:jC)(t:Sl w w A l)(p:Sl w w A2 m):jE Tryz.prog 287 #[dD A l c,i? 294 (dD A2 m c2)] w (oW w {kN 1 0 with e:=Ex.kp l m}):=by
 have H:=ah ((Hold.nil w).alloc w 294 [jN A l c]);have q:=ah t;have h:=ah p;have D:∀w,(dd (i? 294 (dD A2 m c2)) 167 294 u?).run Tryz.prog w=.ok (dD A2 m c2) w:=λ_=>oo;have G:∀w,(i_ 294 (dD A2 m c2) 0).run Tryz.prog w=.ok (dD A2 m c2) w:=λ_=>oo;go_in;go_wp2_with fail;have x:=fk (H.at_ 0);replace H:=ah H.drew;go_region_held(λC=>C.cell? ⟨w,0,Z⟩=M (cZ A l c)) (first|assumption|exact x|go_keep) ((go_at_call 292;first|(refine(EM j (Ex.merge_any _ c c2 A A2 l m ((Rd.below q H.below).more (Below.size H.below)) ((Rd.below h H.below).more (Below.size H.below)) r f)).mono ?_;rintro e s⟨a,v,rfl,d,c1,rfl,-,-,b,hf1⟩;replace H:=ah (H.call a);clear a x;have x:=H.at_ 0;have z:=H.facts;simp only[Facts,kz,au,ao,I?]at x z)|(refine(EM j (Ex.merge_any _ c c2 A A2 l m ((Rd.below q (H.alloc ((w:O)+1) 127 [jM]).below).more (Below.size (H.alloc ((w:O)+1) 127 [jM]).below)) ((Rd.below h (H.alloc ((w:O)+1) 127 [jM]).below).more (Below.size (H.alloc ((w:O)+1) 127 [jM]).below)) r f)).mono ?_;rintro e s⟨a,v,rfl,d,c1,rfl,-,-,b,hf1⟩;replace H:=ah ((H.alloc ((w:O)+1) 127 [jM]).call a);clear a x;have x:=H.at_ 1;have z:=H.facts;simp only[Facts,kz,au,ao,I?]at x z)))
 all_goals
  go_wp2_with fail;refine(oy _ _).mono ?_;rintro e F⟨rfl,rfl⟩;go_wp2;go_ret2;first
   |exact⟨⟨{kN 1 0 with e:=Ex.kp l m},d,c1,Z,0,Z,0⟩,rfl,rfl,⟨(Rd.below b (jP (jQ s) _)).more lV,Rd.none_,Rd.none_⟩,⟨(λad e=>qhf),(λ_ e=>LS),(λ_ e=>LS)⟩,(H.al _).below⟩
   |(
    have y:=(H.put 0 0 (b? d (Ex.kp l m).length c1))
    have k:∀ad,d=M ad->ad.block≠(w:O)+1:=λad e=>qhf
    have n:=(mi (g:=w+1) (o:=0) (u:=b? d (Ex.kp l m).length c1) b k)
    exact⟨⟨{kN 1 0 with e:=Ex.kp l m},d,c1,Z,0,Z,0⟩,rfl,rfl,⟨n,Rd.none_,Rd.none_⟩,⟨(λad e=>qhf),(λ_ e=>LS),(λ_ e=>LS)⟩,y.below⟩)
def JU(A:w? jG)(l:E I)(c:O)(h n:I)(g:Ex.kg l=t?)(b:64<(Ex.kp l [h]).length)(w:jC)(f:Sl w w A l):jE Tryz.prog 283 #[dD A l c,cI h n] w (I0 w):=by
 have H:=ah (((Hold.nil w).alloc w 294 [jN A l c]).alloc (w+1) 39 [jK h,jK n]);have d:=ah f;go_in;go_wp2_with fail;refine(KI b (Ex.add_any _ c A l h ((Rd.below d H.below).more (Below.size H.below)) g)).mono ?_;rintro e k⟨a,rfl⟩;replace H:=ah (H.call a);go_wp2_with fail;refine(LG _ _).mono ?_;rintro e j⟨rfl,rfl⟩;go_wp2;go_ret2;exact⟨_,rfl,lV,((H.al _).al _).below⟩
def Ee(A:w? jG)(l:E I)(c:O)(A2:w? jG)(m:E I)(c2:O)(j:Ex.kg l=t?)(b:Ex.kg m=t?)(f:64<(Ex.kp l m).length)(w:jC)(k:Sl w w A l)(g:Sl w w A2 m):jE Tryz.prog 287 #[dD A l c,i? 294 (dD A2 m c2)] w (I0 w):=by
 have H:=ah ((Hold.nil w).alloc w 294 [jN A l c]);have h:=ah k;have d:=ah g;have p:∀w,(dd (i? 294 (dD A2 m c2)) 167 294 u?).run Tryz.prog w=.ok (dD A2 m c2) w:=λ_=>oo;have q:∀w,(i_ 294 (dD A2 m c2) 0).run Tryz.prog w=.ok (dD A2 m c2) w:=λ_=>oo;go_in;go_wp2_with fail;have x:=fk (H.at_ 0);replace H:=ah H.drew;go_region_held(λn=>n.cell? ⟨w,0,Z⟩=M (cZ A l c)) (first|assumption|exact x|go_keep) ((go_at_call 292;first|(refine(KI f (Ex.merge_any _ c c2 A A2 l m ((Rd.below h H.below).more (Below.size H.below)) ((Rd.below d H.below).more (Below.size H.below)) j b)).mono ?_;rintro e o⟨a,rfl⟩;replace H:=ah (H.call a);clear a x;have x:=H.at_ 0;have z:=H.facts;simp only[Facts,kz,au,ao,I?]at x z)|(refine(KI f (Ex.merge_any _ c c2 A A2 l m ((Rd.below h (H.alloc ((w:O)+1) 127 [jM]).below).more (Below.size (H.alloc ((w:O)+1) 127 [jM]).below)) ((Rd.below d (H.alloc ((w:O)+1) 127 [jM]).below).more (Below.size (H.alloc ((w:O)+1) 127 [jM]).below)) j b)).mono ?_;rintro e o⟨a,rfl⟩;replace H:=ah ((H.alloc ((w:O)+1) 127 [jM]).call a);clear a x;have x:=H.at_ 1;have z:=H.facts;simp only[Facts,kz,au,ao,I?]at x z)))
 all_goals
  go_wp2_with fail;refine(LG _ _).mono ?_;rintro e r⟨rfl,rfl⟩;go_wp2;go_ret2;refine⟨_,rfl,?_,?_⟩
  .first|(simp;done)|(rw[World.cell?_alloc_at _ _ _ _ lV];rfl)
  first|exact((H.al _).al _).below|exact((H.put 0 0 aO).al _).below
def Eg(A:w? jG)(l:E I)(c:O)(f:I)(d:¬f=0)(y:Hl.Hr)(g:Us l)(n:(l:O)<=1000)(k:Hl.JQ 7 l=⟨y.b,y.l,0⟩)(w:jC)(j:Sl w w A l):jE Tryz.prog 286 #[dD A l c] w (oW w {kN 1 f with bits:=y.b,regs:=Hl.bs y.l}):=by
 have H:=ah ((Hold.nil w).alloc w 294 [jN A l c]);have h:=ah j;go_in;go_wp2_with fail;refine(k▸Hl.Xf 7 A l c g jS _ ((Rd.below h H.below).more (Below.size H.below))).mono ?_;rintro e o⟨rfl,a⟩;replace H:=ah (H.call a);go_wp2_with fail;refine(oy _ _).mono ?_;rintro e m⟨rfl,rfl⟩;go_wp2;go_ret2;exact⟨⟨{kN 1 f with bits:=y.b,regs:=Hl.bs y.l},Z,0,Z,0,Z,0⟩,rfl,by simp[kK,kN,hV,d],⟨Rd.none_,Rd.none_,Rd.none_⟩,⟨(λ_ e=>LS),(λ_ e=>LS),(λ_ e=>LS)⟩,(H.al _).below⟩
def Ab(b:I)(s:v?)(d:I)(c:¬d=0)(y:Hl.Hr)(h n:I)(f:U h)(g:Hl.pc b (lQ s) h.toNat=⟨y.b,y.l,0⟩)(w:jC):jE Tryz.prog 312 #[cO b s,cI h n] w (oW w {kN 1 d with bits:=y.b,regs:=Hl.bs y.l}):=by
 have H:=ah (((Hold.nil w).alloc w 297 [jJ b,jL s]).alloc (w+1) 39 [jK h,jK n]);go_in;go_wp2_with fail;refine(Xv f g _).mono ?_;rintro e k⟨rfl,a⟩;replace H:=ah (H.call a);go_wp2_with fail;refine(oy _ _).mono ?_;rintro e j⟨rfl,rfl⟩;go_wp2;go_ret2;exact⟨⟨{kN 1 d with bits:=y.b,regs:=Hl.bs y.l},Z,0,Z,0,Z,0⟩,rfl,by simp[kK,kN,hV,c],⟨Rd.none_,Rd.none_,Rd.none_⟩,⟨(λ_ e=>LS),(λ_ e=>LS),(λ_ e=>LS)⟩,(H.al _).below⟩
def wc(b:I)(s:v?)(d:I)(c:v?)(g:I)(f:¬g=0)(y:Hl.Hr)(h:Hl.l8 b (lQ s) d (lQ c)=⟨y.b,y.l,0⟩)(w:jC):jE Tryz.prog 316 #[cO b s,i? 297 (cO d c)] w (oW w {kN 1 g with bits:=y.b,regs:=Hl.bs y.l}):=by
 have H:=ah ((Hold.nil w).alloc w 297 [jJ b,jL s]);have n:∀w,(dd (i? 297 (cO d c)) 167 297 u?).run Tryz.prog w=.ok (cO d c) w:=λ_=>oo;have o:∀w,(i_ 297 (cO d c) 0).run Tryz.prog w=.ok (cO d c) w:=λ_=>oo;go_in;go_wp2_with fail;have x:=fk (H.at_ 0);replace H:=ah H.drew;go_region_held(λj=>j.cell? ⟨w,0,Z⟩=M (c? o? b)/\j.cell? ⟨w,1,Z⟩=M (f? s)) (first|assumption|exact x|go_keep) ((go_at_call 320;first|(refine(G7 h _).mono ?_;rintro e m⟨rfl,a⟩;replace H:=ah (H.call a);clear a x;have x:=H.at_ 0;have z:=H.facts;simp only[Facts,kz,au,ao,I?]at x z)|(refine(G7 h _).mono ?_;rintro e m⟨rfl,a⟩;replace H:=ah ((H.alloc (w+1) 129 [jJ 0,aF]).call a);clear a x;have x:=H.at_ 1;have z:=H.facts;simp only[Facts,kz,au,ao,I?]at x z)))
 all_goals
  go_wp2_with fail;refine(oy _ _).mono ?_;rintro e p⟨rfl,rfl⟩;go_wp2;go_ret2;first
   |exact⟨⟨{kN 1 g with bits:=y.b,regs:=Hl.bs y.l},Z,0,Z,0,Z,0⟩,rfl,by simp[kK,kN,hV,f],⟨Rd.none_,Rd.none_,Rd.none_⟩,⟨(λ_ e=>LS),(λ_ e=>LS),(λ_ e=>LS)⟩,(H.al _).below⟩
   |(
    have k:=((H.put 0 0 (c? o? y.b)).put 0 1 (f? (Hl.bs y.l)))
    exact⟨⟨{kN 1 g with bits:=y.b,regs:=Hl.bs y.l},Z,0,Z,0,Z,0⟩,rfl,by simp[kK,kN,hV,f],⟨Rd.none_,Rd.none_,Rd.none_⟩,⟨(λ_ e=>LS),(λ_ e=>LS),(λ_ e=>LS)⟩,k.below⟩)
def D7(b:I)(s:v?)(d:I)(c:¬d=0)(y:Hl.Hr)(f:Hl.lR b (lQ s)=⟨y.b,y.l,0⟩)(w:jC):jE Tryz.prog 315 #[cO b s] w (oW w {kN 1 d with bits:=y.b,regs:=Hl.bs y.l}):=by
 have H:=ah ((Hold.nil w).alloc w 297 [jJ b,jL s]);go_in;go_wp2_with fail;refine(Rm f _).mono ?_;rintro e h⟨rfl,a⟩;replace H:=ah (H.call a);go_wp2_with fail;refine(oy _ _).mono ?_;rintro e g⟨rfl,rfl⟩;go_wp2;go_ret2;exact⟨⟨{kN 1 d with bits:=y.b,regs:=Hl.bs y.l},Z,0,Z,0,Z,0⟩,rfl,by simp[kK,kN,hV,c],⟨Rd.none_,Rd.none_,Rd.none_⟩,⟨(λ_ e=>LS),(λ_ e=>LS),(λ_ e=>LS)⟩,(H.al _).below⟩
def K8(r k:I)(A:w? jG)(l:E I)(c:O)(f:I)(y:Cm.Cm)(h n:I)(s:U h)(p:U n)(g:Us l)(o:Cm.xX ⟨r,k,l⟩ h n=(y,0))(w:jC)(m:Sl w w A l):jE Tryz.prog 322 #[bR r k A l c,cI h n] w (oW w {kN 2 f with rows:=y.r,cols:=y.c,c:=y.l}):=by
 have H:=ah (((Hold.nil w).alloc w 298 [jJ r,jJ k,jN A l c]).alloc (w+1) 39 [jK h,jK n]);have j:=ah m;go_in;go_wp2_with fail;refine(o▸Cm.add_any r k A l c h n s p g _ ((Rd.below j H.below).more (Below.size H.below))).mono ?_;rintro e t⟨b,v,rfl,q,c1,rfl,-,-,d,hf1⟩;replace H:=ah (H.call b);go_wp2_with fail;refine(oy _ _).mono ?_;rintro e x⟨rfl,rfl⟩;go_wp2;go_ret2;exact⟨⟨{kN 2 f with rows:=y.r,cols:=y.c,c:=y.l},Z,0,q,c1,Z,0⟩,rfl,rfl,⟨Rd.none_,(Rd.below d (jP (jQ t) _)).more lV,Rd.none_⟩,⟨(λ_ e=>LS),(λad e=>qhf),(λ_ e=>LS)⟩,(H.al _).below⟩
def EU(r k:I)(A:w? jG)(l:E I)(c:O)(f d:I)(A2:w? jG)(m:E I)(c2:O)(G:I)(y:Cm.Cm)(N:Us l)(s:Us m)(K:Cm.ni ⟨r,k,l⟩ ⟨f,d,m⟩=(y,0))(w:jC)(P:Sl w w A l)(C:Sl w w A2 m):jE Tryz.prog 326 #[bR r k A l c,i? 298 (bR f d A2 m c2)] w (oW w {kN 2 G with rows:=y.r,cols:=y.c,c:=y.l}):=by
 have H:=ah ((Hold.nil w).alloc w 298 [jJ r,jJ k,jN A l c]);have J:=ah P;have t:=ah C;clear P C;have R:∀w,(dd (i? 298 (bR f d A2 m c2)) 167 298 u?).run Tryz.prog w=.ok (bR f d A2 m c2) w:=λ_=>by kernel_rfl
 have V:∀w,(i_ 298 (bR f d A2 m c2) 0).run Tryz.prog w=.ok (bR f d A2 m c2) w:=λ_=>by kernel_rfl
 go_in;go_wp2_with fail;have x:=fk (H.at_ 0);replace H:=ah H.drew;go_region_held(λF=>F.cell? ⟨w,0,Z⟩=M (c? o? r)/\F.cell? ⟨w,1,Z⟩=M (c? o? k)/\F.cell? ⟨w,2,Z⟩=M (cZ A l c)) (first|assumption|exact x|go_keep) ((go_at_call 330;first|(refine(K▸Cm.merge_any r k f d A A2 l m c c2 _ ((Rd.below J H.below).more (Below.size H.below)) ((Rd.below t H.below).more (Below.size H.below)) N s).mono ?_;rintro e L⟨a,v,rfl,q,c1,rfl,-,-,n,b⟩;replace H:=ah (H.call a);clear a x;have x:=H.at_ 0;have z:=H.facts;simp only[Facts,kz,au,ao,I?]at x z)|(refine(K▸Cm.merge_any r k f d A A2 l m c c2 _ ((Rd.below J (H.alloc (w+1) 131 [jJ 0,jJ 0,jM]).below).more (Below.size (H.alloc (w+1) 131 [jJ 0,jJ 0,jM]).below)) ((Rd.below t (H.alloc (w+1) 131 [jJ 0,jJ 0,jM]).below).more (Below.size (H.alloc (w+1) 131 [jJ 0,jJ 0,jM]).below)) N s).mono ?_;rintro e L⟨a,v,rfl,q,c1,rfl,-,-,n,b⟩;replace H:=ah ((H.alloc (w+1) 131 [jJ 0,jJ 0,jM]).call a);clear a x;have x:=H.at_ 1;have z:=H.facts;simp only[Facts,kz,au,ao,I?]at x z)))
 all_goals
  go_wp2_with fail;refine(oy _ _).mono ?_;rintro e T⟨rfl,rfl⟩;go_wp2_with fail;go_ret2;first
   |exact⟨⟨{kN 2 G with rows:=y.r,cols:=y.c,c:=y.l},Z,0,q,c1,Z,0⟩,rfl,rfl,⟨Rd.none_,(Rd.below n (jP (jQ L) _)).more (by simp),Rd.none_⟩,⟨(λ_ e=>by cases e),(λj e=>by have:=(b j e).1;simp at this;omega),(λ_ e=>by cases e)⟩,(H.al _).below⟩
   |(
    have Q:=(((H.put 0 0 (c? o? y.r)).put 0 1 (c? o? y.c)).put 0 2 (b? q y.l c1))
    have p:∀j,q=M j->j.block≠(w:O)+1:=λj e=>by have:=(b j e).1;simp at this;omega
    have D:=(mi (g:=w+1) (o:=2) (u:=b? q y.l c1) (mi (g:=w+1) (o:=1) (u:=c? o? y.c) (mi (g:=w+1) (o:=0) (u:=c? o? y.r) n p) p) p)
    exact⟨⟨{kN 2 G with rows:=y.r,cols:=y.c,c:=y.l},Z,0,q,c1,Z,0⟩,rfl,rfl,⟨Rd.none_,D,Rd.none_⟩,⟨(λ_ e=>by cases e),(λj e=>by have:=(b j e).1;simp at this;omega),(λ_ e=>by cases e)⟩,Q.below⟩)
def EV(r k:I)(A:w? jG)(l:E I)(c:O)(f:I)(y:Cm.Cm)(g:Us l)(m:Cm.mm ⟨r,k,l⟩=(y,0))(w:jC)(j:Sl w w A l):jE Tryz.prog 325 #[bR r k A l c] w (oW w {kN 2 f with rows:=y.r,cols:=y.c,c:=y.l}):=by
 have H:=ah ((Hold.nil w).alloc w 298 [jJ r,jJ k,jN A l c]);have h:=ah j;go_in;go_wp2_with fail;refine(m▸Cm.rL r k A l c g _ ((Rd.below h H.below).more (Below.size H.below))).mono ?_;rintro e o⟨b,v,rfl,n,c1,rfl,-,-,d,hf1⟩;replace H:=ah (H.call b);go_wp2_with fail;refine(oy _ _).mono ?_;rintro e p⟨rfl,rfl⟩;go_wp2;go_ret2;exact⟨⟨{kN 2 f with rows:=y.r,cols:=y.c,c:=y.l},Z,0,n,c1,Z,0⟩,rfl,rfl,⟨Rd.none_,(Rd.below d (jP (jQ o) _)).more lV,Rd.none_⟩,⟨(λ_ e=>LS),(λad e=>qhf),(λ_ e=>LS)⟩,(H.al _).below⟩
def Lc(f:I)(A:w? jG)(l:Hi.jX)(c:O)(j:I)(y:I×Hi.jX)(h n:I)(s:U h)(q:U n)(k:Hi.oT l)(z:l.length<=1000)(p:Hi.pc f l h n=(y.1,y.2,0))(w:jC)(o:Hi.Sb w w A l):jE Tryz.prog 341 #[g? #[jJ f,jN A l c],cI h n] w (oW w {kN 3 j with fine:=y.1,g:=y.2}):=by
 have H:=ah (((Hold.nil w).alloc w 300 [jJ f,jN A l c]).alloc (w+1) 39 [jK h,jK n]);have m:=ah o;go_in;go_wp2_with fail;refine(p▸Hi.add_any f A l c h n s q k jS _ ((Rd.below m H.below).more (Below.size H.below))).mono ?_;rintro e t⟨b,v,rfl,r,c1,rfl,-,-,d,hf1⟩;replace H:=ah (H.call b);go_wp2_with fail;refine(oy _ _).mono ?_;rintro e x⟨rfl,rfl⟩;go_wp2;go_ret2;exact⟨⟨{kN 3 j with fine:=y.1,g:=y.2},Z,0,Z,0,r,c1⟩,rfl,rfl,⟨Rd.none_,Rd.none_,(Rd.below d (jP (jQ t) _)).more lV⟩,⟨(λ_ e=>LS),(λ_ e=>LS),(λad e=>qhf)⟩,(H.al _).below⟩
def EW(f:I)(A:w? jG)(l:Hi.jX)(c:O)(d:I)(A2:w? jG)(m:Hi.jX)(c2:O)(r:I)(y:I×Hi.jX)(F:Hi.oT l)(k:Hi.oT m)(T:l.length<=1000)(L:m.length<=1000)(C:Hi.l8 f l d m=(y.1,y.2,0))(w:jC)(K:Hi.Sb w w A l)(s:Hi.Sb w w A2 m):jE Tryz.prog 345 #[g? #[jJ f,jN A l c],i? 300 (g? #[jJ d,jN A2 m c2])] w (oW w {kN 3 r with fine:=y.1,g:=y.2}):=by
 have H:=ah ((Hold.nil w).alloc w 300 [jJ f,jN A l c]);have t:=ah K;have n:=ah s;have N:∀w,(dd (i? 300 (g? #[jJ d,jN A2 m c2])) 167 300 u?).run Tryz.prog w=.ok (g? #[jJ d,jN A2 m c2]) w:=λ_=>oo;have R:∀w,(i_ 300 (g? #[jJ d,jN A2 m c2]) 0).run Tryz.prog w=.ok (g? #[jJ d,jN A2 m c2]) w:=λ_=>oo;go_in;go_wp2_with fail;have x:=fk (H.at_ 0);replace H:=ah H.drew;go_region_held(λG=>G.cell? ⟨w,0,Z⟩=M (c? o? f)/\G.cell? ⟨w,1,Z⟩=M (b? A (l:O) c)) (first|assumption|exact x|go_keep) ((go_at_call 349;first|(refine(C▸Hi.merge_any f d A A2 l m c c2 F k jS jS _ ((Rd.below t H.below).more (Below.size H.below)) ((Rd.below n H.below).more (Below.size H.below))).mono ?_;rintro e D⟨a,v,rfl,j,c1,rfl,-,-,h,hf1⟩;replace H:=ah (H.call a);clear a x;have x:=H.at_ 0;have z:=H.facts;simp only[Facts,kz,au,ao,I?]at x z)|(refine(C▸Hi.merge_any f d A A2 l m c c2 F k jS jS _ ((Rd.below t (H.alloc ((w:O)+1) 134 [jJ 0,jM]).below).more (Below.size (H.alloc ((w:O)+1) 134 [jJ 0,jM]).below)) ((Rd.below n (H.alloc ((w:O)+1) 134 [jJ 0,jM]).below).more (Below.size (H.alloc ((w:O)+1) 134 [jJ 0,jM]).below))).mono ?_;rintro e D⟨a,v,rfl,j,c1,rfl,-,-,h,hf1⟩;replace H:=ah ((H.alloc ((w:O)+1) 134 [jJ 0,jM]).call a);clear a x;have x:=H.at_ 1;have z:=H.facts;simp only[Facts,kz,au,ao,I?]at x z)))
 all_goals
  go_wp2_with fail;refine(oy _ _).mono ?_;rintro e Q⟨rfl,rfl⟩;go_wp2;go_ret2;first
   |exact⟨⟨{kN 3 r with fine:=y.1,g:=y.2},Z,0,Z,0,j,c1⟩,rfl,rfl,⟨Rd.none_,Rd.none_,(Rd.below h (jP (jQ D) _)).more lV⟩,⟨(λ_ e=>LS),(λ_ e=>LS),(λad e=>qhf)⟩,(H.al _).below⟩
   |(
    have J:=((H.put 0 0 (c? o? y.1)).put 0 1 (b? j y.2.length c1))
    have p:∀ad,j=M ad->ad.block≠(w:O)+1:=λad e=>qhf
    have q:=(mi (g:=w+1) (o:=1) (u:=b? j y.2.length c1) (mi (g:=w+1) (o:=0) (u:=c? o? y.1) h p) p)
    exact⟨⟨{kN 3 r with fine:=y.1,g:=y.2},Z,0,Z,0,j,c1⟩,rfl,rfl,⟨Rd.none_,Rd.none_,q⟩,⟨(λ_ e=>LS),(λ_ e=>LS),(λad e=>qhf)⟩,J.below⟩)
def EX(f:I)(A:w? jG)(l:Hi.jX)(c:O)(h:I)(y:I×Hi.jX)(j:Hi.oT l)(r:l.length<=1000)(n:Hi.lR f l=(y.1,y.2,0))(w:jC)(m:Hi.Sb w w A l):jE Tryz.prog 344 #[g? #[jJ f,jN A l c]] w (oW w {kN 3 h with fine:=y.1,g:=y.2}):=by
 have H:=ah ((Hold.nil w).alloc w 300 [jJ f,jN A l c]);have k:=ah m;go_in;go_wp2_with fail;refine(n▸Hi.rL f A l c j jS _ ((Rd.below k H.below).more (Below.size H.below))).mono ?_;rintro e p⟨b,v,rfl,o,c1,rfl,-,-,d,hf1⟩;replace H:=ah (H.call b);go_wp2_with fail;refine(oy _ _).mono ?_;rintro e q⟨rfl,rfl⟩;go_wp2;go_ret2;exact⟨⟨{kN 3 h with fine:=y.1,g:=y.2},Z,0,Z,0,o,c1⟩,rfl,rfl,⟨Rd.none_,Rd.none_,(Rd.below d (jP (jQ p) _)).more lV⟩,⟨(λ_ e=>LS),(λ_ e=>LS),(λad e=>qhf)⟩,(H.al _).below⟩
def JT(A:w? jG)(l:E I)(c:O)(h:I)(g:(l:O)<=1000)(w:jC)(d:Sl w w A l):jE Tryz.prog 284 #[dD A l c,jK h] w λe b=>e=a? (c? n? (Ex.cnt l))/\Below w w b:=by
 have H:=ah ((Hold.nil w).alloc w 294 [jN A l c]);have f:=ah d;go_in;go_wp2_with fail;refine(Ex.count_any _ c A l ((Rd.below f H.below).more (Below.size H.below)) jS).mono ?_;rintro e j⟨rfl,a⟩;go_wp2;go_ret;exact⟨rfl,(H.call a).below⟩
def JG(b:I)(s:v?)(h:I)(w:jC):jE Tryz.prog 313 #[cO b s,jK h] w λe c=>e=a? (c? n? ((Hl.vH b (lQ s):O):I))/\Below w w c:=by
 have H:=ah ((Hold.nil w).alloc w 297 [jJ b,jL s]);go_in;go_wp2_with fail;refine(Rn b s _).mono ?_;rintro e d⟨rfl,a⟩;go_wp2;go_ret;exact⟨rfl,(H.call a).below⟩
def K7(r k:I)(A:w? jG)(l:E I)(c:O)(h:I)(j:U h)(b:Us l)(w:jC)(f:Sl w w A l):jE Tryz.prog 323 #[bR r k A l c,jK h] w λe g=>e=a? (c? n? (Cm.qE ⟨r,k,l⟩ h))/\Below w w g:=by
 have H:=ah ((Hold.nil w).alloc w 298 [jJ r,jJ k,jN A l c]);have d:=ah f;go_in;go_wp2_with fail;refine(Cm.count_any r k A l c h j b _ ((Rd.below d H.below).more (Below.size H.below))).mono ?_;rintro e m⟨rfl,a⟩;go_wp2;go_ret;exact⟨rfl,(H.call a).below⟩
def La(f:I)(A:w? jG)(l:Hi.jX)(c:O)(h:I)(k:U h)(b:Hi.oT l)(m:l.length<=1000)(w:jC)(g:Hi.Sb w w A l):jE Tryz.prog 342 #[g? #[jJ f,jN A l c],jK h] w λe j=>e=a? (c? n? (Hi.pF f l h))/\Below w w j:=by
 have H:=ah ((Hold.nil w).alloc w 300 [jJ f,jN A l c]);have d:=ah g;go_in;go_wp2_with fail;refine(Hi.P4 f A l c h k b jS _ ((Rd.below d H.below).more (Below.size H.below))).mono ?_;rintro e n⟨rfl,a⟩;go_wp2;go_ret;exact⟨rfl,(H.call a).below⟩
def Gl(A:w? jG)(l:E I)(c:O)(d:(l:O)<=1000)(w:jC):jE Tryz.prog 285 #[dD A l c] w λe a=>e=a? (c? o? (8*((l:O):I)))/\Below w w a:=by
 have H:=ah ((Hold.nil w).alloc w 294 [jN A l c]);have b:IntKind.i64.wrap (8*((l:O):I))=8*((l:O):I):=dv _ (by omega);go_in;go_wp2;go_ret;exact⟨rfl,H.below⟩
def Gd(b:I)(s:v?)(c:s.size<=1000)(w:jC):jE Tryz.prog 314 #[cO b s] w λe a=>e=a? (c? o? (s.size:I))/\Below w w a:=by
 have H:=ah ((Hold.nil w).alloc w 297 [jJ b,jL s]);go_in;go_wp2;go_ret;exact⟨rfl,H.below⟩
def Ii(r k:I)(A:w? jG)(l:E I)(c:O)(d:(l:O)<=1000)(w:jC):jE Tryz.prog 324 #[bR r k A l c] w λe a=>e=a? (c? o? (8*((l:O):I)))/\Below w w a:=by
 have H:=ah ((Hold.nil w).alloc w 298 [jJ r,jJ k,jN A l c]);have b:IntKind.i64.wrap (8*((l:O):I))=8*((l:O):I):=dv _ (by omega);go_in;go_wp2;go_ret;exact⟨rfl,H.below⟩
def Iq(f:I)(A:w? jG)(l:Hi.jX)(c:O)(d:l.length<=1000)(w:jC):jE Tryz.prog 343 #[g? #[jJ f,jN A l c]] w λe a=>e=a? (c? o? (16*(l.length:I)))/\Below w w a:=by
 have H:=ah ((Hold.nil w).alloc w 300 [jJ f,jN A l c]);have b:IntKind.i64.wrap (16*((l:O):I))=16*((l:O):I):=dv _ (by omega);go_in;go_wp2;go_ret;exact⟨rfl,H.below⟩
structure SbC(x0:E I) where
def bC(a:E I):SbC a:=⟨⟩
instance(x0:E I):CoeOut (SbC x0) (E O):=⟨λ_=>Hl.mx 7 (de (2^7) 0) x0⟩
instance(x0:O)(x1:E O):CoeOut (wU 14 x0 x1) Sk:=⟨λ_=>⟨1,8-x0,[],x0,Hl.bs x1,0,0,[],0,[]⟩⟩
structure SbM(x0:E I) where
def bM(a:E I):SbM a:=⟨⟩
instance(x0:E I):CoeOut (SbM x0) Sk:=⟨λ_=>⟨1,0,x0,0,⟨#[]⟩,0,0,[],0,[]⟩⟩
instance(x0:O)(x1:O)(x2:E I):CoeOut (IP 22 x0 x1 x2) Sk:=⟨λ_=>⟨2,x0,[],0,⟨#[]⟩,2,x1,x2,0,[]⟩⟩
namespace Hi
def X8{f v:O}(n:f<=3)(d:v<18446744073709551616):∃j k,bnd f (bk f v)=M (j,k):=by
 by_cases h:v<8
 .have:∀f,f<4->∀v,v<8->(bnd f (bk f v)).isSome=t?:=TO;obtain⟨q,c⟩:=Option.isSome_iff_exists.1 (this f jS v h);exact⟨q.1,q.2,c⟩
 have a:v≠0:=jS;have m:3<=v.log2:=(Nat.le_log2 a).2 jS;have g:=uu d;have b:=We f v a;have e:bk f v-1=fr f v+v.log2*2^f:=by unfold bk;rw[A? a];omega
 have l:(bk f v-1)/2^f=v.log2:=by
  rw[e,Nat.add_mul_div_right _ _ (ee f),Nat.div_eq_of_lt b,au]
 unfold bnd;rw[A? (by unfold bk;rw[A? a];omega),l,A? jS,B? jS];exact⟨_,_,rfl⟩
variable{f a:I}
def XC(h:(lx f a).2.2=t?):0<=a:=by
 unfold lx at h;split at h
 .rename_i b;exact b.2
 cases h
variable{l:jX}
def tD(h:Rt f l):kg f l=t?:=by
 unfold kg;rw[h.fine,eF];refine dZ.2 λk e=>?_;have a:=dh.1 e;have c:=EY a;unfold okI;have g:=h.nz _ c;have b:=h.has _ c;have d:S9 l k<(mC l k).1:=by
  unfold S9;split
  .have:=XC b;omega
  exact LN h.rise jS a
 rw[b];simp[g,d]
def AN{v:I}(c:ld f=t?)(b:U v):(lx f (lj f v)).2.2=t?:=by
 obtain⟨d,h⟩:=qZ c;obtain⟨a,g⟩:=b;obtain⟨F,rfl⟩:=fm d;obtain⟨V,rfl⟩:=fm a;obtain⟨j,k,e⟩:=X8 (show F<=3 by omega) (show V<18446744073709551616 by omega);rw[yN jS,yO jS,e]
variable{n:I}
def OM{x:I×I}(h:x∈qa l a n):x.1=a\/∃z∈l,z.1=x.1:=by
 unfold qa at h;split at h
 .exact s? ⟨x,h,rfl⟩
 exact rF h
def Sw(h:oT l)(b:I64 a)(c:U n):oT (qa l a n):=by
 unfold qa;split
 .exact h
 exact Ac h b c
variable{L:jX}
def WV{v:I}(h:Rt f L)(g:UB L)(c:U v)(b:U n):Rt f (qa L (lj f v) n):=
 ⟨h.fine,by unfold qa;split;exact h.rise;exact ul h.rise,by unfold qa;split;exact h.nz;rename_i e;exact ze g h.nz b e,λx d=>by
  rcases OM d with e|⟨z,a,e⟩
  .rw[e];exact AN h.fine c
  rw[<-e];exact h.has z a⟩
def EI{f:I}:∀(h L:jX),(∀y∈L,(lx f y.1).2.2=t?)->(∀y∈h,(lx f y.1).2.2=t?)->∀y∈ku L h,(lx f y.1).2.2=t?
 |[],L,a,_,y,c=>a y c
 |z::h,L,a,d,y,c=>EI h (mY L z.1 z.2) (λq b=>by
  rcases rF b with e|⟨r,g,e⟩
  .rw[e];exact d z lV
  rw[<-e];exact a r g) (λq b=>d q (by simp[b])) y c
def WT{M:jX}(h:Rt f L)(k:Rt f M)(b:UB L)(a:UB M):Rt f (ku L M):=
 ⟨h.fine,oF h.rise,rG b a h.nz k.nz,EI M L h.has k.has⟩
def WU(h:Rt f L)(b:oT L)(a:ld (f-1)=t?):Rt (f-1) (ku [] (L.map (uG f))):=
 ⟨a,oF List.Pairwise.nil,rG (λ_ h=>WY) (wq b).ub (λ_ h=>WY) (L9 h.nz),EI _ _ (λ_ h=>WY) λy c=>by
  obtain⟨x,d,rfl⟩:=dq.1 c;exact AN a (xW f x.1).1⟩
def tz:∀(l:jX)(b a:I),ou l->(∀x∈l,b<=x.1/\x.1<=a)->b<=a+1->(l:I)<=a+1-b
 |[],b,a,_,_,h=>mO
 |x::l,b,a,e,c,h=>by
  obtain⟨g,f⟩:=b6.1 e;have j:=c x lV;have:=tz l (x.1+1) a f (λy d=>⟨by have:=g y d;omega,(c y (by simp[d])).2⟩) jS;simp only[c_];omega
def zV(h:Rt f l):l.length<=1000:=by
 have c:∀x∈l,0<=x.1/\x.1<=512:=λx b=>by
  have:=h.has x b;unfold lx at this;obtain⟨j,d⟩:=qZ h.fine;split at this
  .rename_i q;refine⟨q.2,?_⟩
   cases a:bnd f.toNat x.1.toNat with
   |none=>rw[a]at this;cases this
   |some p=>
    have g:=So a;have e:2^f.toNat<=2^3:=ep B8 jS;omega
  cases this
 have:=tz l 0 512 h.rise c jS;omega
end Hi
def Cm.rE{r c:I}{n:O}(h:Cm.mX r c=t?)(e:(n:I)=r*c):Cm.kP r c n=t?:=by simp[Cm.kP,h,e]
inductive GK:Sk->Prop
 |num (e:E I) (hr:Ex.kg e=t?) (hu:Us e):GK (bM e)
 |reg (b:O) (l:E O) (h4:4<=b) (h7:b<=7) (hr:Hl.kD b l=t?):GK (lI 14 b l)
 |cnt (lv C:O) (c:E I) (h3:lv<=3) (hC:C=32/2^lv) (hr:Cm.kP 2 C c.length=t?) (hu:Us c):GK (oZ 22 lv C c)
 |zB (lv:O) (g:Hi.jX) (h3:lv<=3) (hr:Hi.kg (3-lv) g=t?) (hu:Hi.oT g):GK ⟨3,lv,[],0,⟨#[]⟩,0,0,[],3-lv,g⟩
def oA(l:E O):(Hl.bs l).size=(l:O):=by show(l.map gH).toArray.size=_;simp
variable{s:Sk}
def GK.fit(h:GK s):t8 s:=by
 have j:Hi.oT []:=λx o=>by simp at o
 have z:Hi.I64 0:=by unfold Hi.I64;omega
 have f:(⟨#[]⟩:v?).size<=1000:=B8
 cases h with
 |num e a d=>have:=(Ex.mS.1 a).1;exact⟨by show (e:O)<=_;omega,lV,lV,f,j,qus,z,z,z,z,z⟩
 |reg b l t k a=>
  obtain⟨_,_,n,_⟩:=Hl.oc a;have:2^b<=2^7:=ep B8 k;exact⟨lV,lV,lV,by rw[oA,n];omega,j,qus,qus,qus,z,z,z⟩
 |cnt m C c p q a d=>
  have r:=(Cm.lh a).2;have:C<=32:=by rw[q];exact Nat.div_le_self _ _
  exact⟨lV,by show (c:O)<=_;omega,lV,f,j,qus,qus,z,qus,qus,z⟩
 |zB m g p a d=>exact⟨lV,lV,Hi.zV (Hi.pS a),f,d,qus,qus,z,z,z,qus⟩
def GK.right(h:GK s):r4 s=t?:=by
 cases h with
 |num e a k=>simp[r4,S7,uU,kN,kn,a]
 |reg b l r q a=>
  have m:=sR l (Hl.kU a);have p:¬((8:I)-b=0):=jS;have j:(0:I)<=8-b:=jS;have d:(8:I)-b<=4:=jS;simp[r4,S7,uU,kN,kn,m,a,p,j,d];omega
 |cnt f C c n o a k=>
  have d:(f:I)<=3:=jS;have j:(32:I)/2^f=C:=by rw[o];simp
  simp[r4,S7,uU,kN,kn,a,d,j]
 |zB f g n a k=>
  have d:(f:I)<=3:=jS;simp[r4,S7,uU,kN,kn,a,d]
def mG(s:Sk):Sk:=
 if s.kind=1 then
  if s.level=0 then⟨1,1,[],(Hl.JQ 7 s.e).b,Hl.bs (Hl.JQ 7 s.e).l,0,0,[],0,[]⟩
  else⟨1,s.level+1,[],(Hl.lR s.bits (lQ s.regs)).b,Hl.bs (Hl.lR s.bits (lQ s.regs)).l,0,0,[],0,[]⟩
 else if s.kind=2 then⟨2,s.level+1,[],0,⟨#[]⟩,(Cm.mm ⟨s.rows,s.cols,s.c⟩).1.r,(Cm.mm ⟨s.rows,s.cols,s.c⟩).1.c,(Cm.mm ⟨s.rows,s.cols,s.c⟩).1.l,0,[]⟩
 else⟨3,s.level+1,[],0,⟨#[]⟩,0,0,[],(Hi.lR s.fine s.g).1,(Hi.lR s.fine s.g).2.1⟩
def T7(e:E I):Hl.JQ 7 e=⟨(7:O),bC e,0⟩:=by rw[Hl.JQ,B? B8];rfl
def pZ{B:O}(c:3<=B)(a:B<=8)(b:E I):Hl.kD B (Hl.mx B (lz 63 B) b)=t?:=
 Hl.rE c a (by rw[Hl.ox,ey]) ((Hl.r7 B _).mx c a b)
variable{b:O}{l:E O}
def CZ(f:4<=b)(a:Hl.kD b l=t?):Hl.lR b l=⟨((b-1:O):I),Hl.qy (b-1) l,0⟩/\Hl.kD ((b-1:O):I) (Hl.qy (b-1) l)=t?:=by
 obtain⟨d,g,h,c⟩:=Hl.oc a;refine⟨by rw[Hl.lR,B? ⟨a,jS⟩];simp;omega,Hl.rE jS jS ?_ ?_⟩
 .unfold Hl.qy;rw[Hl.C7,ey]
 have e:b-1+1=b:=jS;exact Hl.Ranks.lw (B:=b-1) (by rw[e];exact c) jS (Hl.r7 _ _) _
def uW(h:GK s)(r:s.level<kn s.kind):GK (mG s)/\(mG s).kind=s.kind/\(mG s).level=s.level+1:=by
 cases h with
 |num e d m=>
  refine⟨?_,rfl,rfl⟩;have:mG (bM e)=⟨1,8-((7:O):I),[],((7:O):I),Hl.bs (bC e),0,0,[],0,[]⟩:=by
   simp[mG,T7]
  rw[this];exact GK.reg 7 _ jS jS (pZ jS jS e)
 |reg b l G D d=>
  have B:¬((8:I)-b=0):=jS;have F:5<=b:=by simp[kn]at r;omega
  obtain⟨j,n⟩:=CZ jS d;have y:=sR l (Hl.kU d);have:mG (lI 14 b l)=⟨1,8-((b-1:O):I),[],((b-1:O):I),Hl.bs (Hl.qy (b-1) l),0,0,[],0,[]⟩:=by
   simp only[mG,y,j,if_true,A? B];congr 1;omega
  refine⟨by rw[this];exact GK.reg (b-1) _ jS jS n,by rw[this],by rw[this];simp only;omega⟩
 |cnt a C c z t d m=>
  have w:a<3:=by simp[kn]at r;omega
  have f:(C:I)≠4/\C/2=32/2^(a+1)/\(C=8\/C=16\/C=32):=by
   rcases(by omega:a=0\/a=1\/a=2)with rfl|rfl|rfl<;>simp at t<;>subst t<;>decide
  have j:Cm.mm ⟨2,C,c⟩=(⟨2,((C/2:O):I),Cm.lL (λp _=>Cm.AO (((C:I)/2)).toNat c p) (de (2*((C:I)/2)).toNat 0) (bu (2*((C:I)/2)).toNat)⟩,0):=by
   rw[Cm.mm,B? ⟨d,f.1⟩];simp
  have n:(2*((C:I)/2)).toNat=2*(C/2):=jS;have:mG (oZ 22 a C c)=⟨2,((a+1:O):I),[],0,⟨#[]⟩,2,((C/2:O):I),Cm.lL (λp _=>Cm.AO (((C:I)/2)).toNat c p) (de (2*((C:I)/2)).toNat 0) (bu (2*((C:I)/2)).toNat),0,[]⟩:=by
   simp[mG,j]
  refine⟨?_,by rw[this],by rw[this];simp⟩;rw[this];refine GK.cnt (a+1) (C/2) _ jS f.2.1 (Cm.rE ?_ ?_) ?_
  .rcases f.2.2 with e|e|e<;>rw[e]<;>decide
  .rw[Cm.mT,ey,n];omega
  refine Us.lL (λp o _=>?_) λx A=>by rw[gh A];exact⟨by show(0:I)<=0;omega,by show(0:I)<=_;omega⟩
  have q:∀k,U (nth c k):=λk=>rI m k;exact Cm.uQ (q _).1 (q _).1
 |zB a g z d m=>
  have w:a<3:=by simp[kn]at r;omega
  have v:Hi.ld (3-(a:I)-1)=t?:=by simp[Hi.ld];omega
  have j:Hi.lR (3-(a:I)) g=(3-(a:I)-1,Hi.ku [] (g.map (Hi.uG (3-a))),0):=by rw[Hi.lR,B? ⟨d,v⟩]
  have:mG ⟨3,a,[],0,⟨#[]⟩,0,0,[],3-a,g⟩=⟨3,((a+1:O):I),[],0,⟨#[]⟩,0,0,[],3-((a+1:O):I),Hi.ku [] (g.map (Hi.uG (3-a)))⟩:=by
   simp[mG,j];omega
  refine⟨?_,by rw[this],by rw[this];simp⟩;rw[this];refine GK.zB (a+1) _ jS ?_ (Hi.qo (λ_ h=>WY) (Hi.wq m));have:=Hi.tD (Hi.WU (Hi.pS d) m v);rw[show(3:I)-((a+1:O):I)=3-a-1 by omega];exact this
def nQ(s:Sk)(h n:I):Sk:=
 if s.kind=1 then
  if s.level=0 then⟨1,0,Ex.kp s.e [h],0,⟨#[]⟩,0,0,[],0,[]⟩
  else⟨1,s.level,[],(Hl.pc s.bits (lQ s.regs) h.toNat).b,Hl.bs (Hl.pc s.bits (lQ s.regs) h.toNat).l,0,0,[],0,[]⟩
 else if s.kind=2 then⟨2,s.level,[],0,⟨#[]⟩,(Cm.xX ⟨s.rows,s.cols,s.c⟩ h n).1.r,(Cm.xX ⟨s.rows,s.cols,s.c⟩ h n).1.c,(Cm.xX ⟨s.rows,s.cols,s.c⟩ h n).1.l,0,[]⟩
 else⟨3,s.level,[],0,⟨#[]⟩,0,0,[],(Hi.pc s.fine s.g h n).1,(Hi.pc s.fine s.g h n).2.1⟩
def qY(s:Sk)(h:I):z?:=decide (s.kind=1/\s.level=0/\64<(Ex.kp s.e [h]).length)
def wQ(s:Sk)(h n:I):Sk:=if qY s h=t? then nQ (mG s) h n else nQ s h n
def p7(s t:Sk):Sk:=
 if s.kind=1 then
  if s.level=0 then⟨1,0,Ex.kp s.e t.e,0,⟨#[]⟩,0,0,[],0,[]⟩
  else⟨1,s.level,[],(Hl.l8 s.bits (lQ s.regs) t.bits (lQ t.regs)).b,Hl.bs (Hl.l8 s.bits (lQ s.regs) t.bits (lQ t.regs)).l,0,0,[],0,[]⟩
 else if s.kind=2 then⟨2,s.level,[],0,⟨#[]⟩,(Cm.ni ⟨s.rows,s.cols,s.c⟩ ⟨t.rows,t.cols,t.c⟩).1.r,(Cm.ni ⟨s.rows,s.cols,s.c⟩ ⟨t.rows,t.cols,t.c⟩).1.c,(Cm.ni ⟨s.rows,s.cols,s.c⟩ ⟨t.rows,t.cols,t.c⟩).1.l,0,[]⟩
 else⟨3,s.level,[],0,⟨#[]⟩,0,0,[],(Hi.l8 s.fine s.g t.fine t.g).1,(Hi.l8 s.fine s.g t.fine t.g).2.1⟩
def qu(s t:Sk):z?:=decide (s.kind=1/\s.level=0/\64<(Ex.kp s.e t.e).length)
def sW:O->Sk->Sk
 |0,s=>s
 |k+1,s=>sW k (mG s)
def mZ(s t:Sk):Sk:=
 let a:=sW (max s.level t.level-s.level).toNat s
 let b:=sW (max s.level t.level-t.level).toNat t
 if qu a b=t? then p7 (mG a) (mG b)else p7 a b
def nC(k:I):Sk:=if k=1 then⟨1,0,[],0,⟨#[]⟩,0,0,[],0,[]⟩else if k=2 then⟨2,0,[],0,⟨#[]⟩,2,32,de 64 0,0,[]⟩else⟨3,0,[],0,⟨#[]⟩,0,0,[],3,[]⟩
def wM(s:Sk):I:=if s.kind=1 then(if s.level=0 then 8*(s.e:I)else(s.regs.size:I))else if s.kind=2 then 8*(s.c:I)else 16*(s.g:I)
def rt(s:Sk)(h:I):I:=if s.kind=1 then(if s.level=0 then Ex.cnt s.e else((Hl.vH s.bits (lQ s.regs):O):I))else if s.kind=2 then Cm.qE ⟨s.rows,s.cols,s.c⟩ h else Hi.pF s.fine s.g h
def u0:U 0:=⟨by show(0:I)<=0;omega,by show(0:I)<=_;omega⟩
def wj{k:I}(h:1<=k/\k<=3):GK (nC k)/\(nC k).kind=k/\(nC k).level=0:=by
 rcases(by omega:k=1\/k=2\/k=3)with rfl|rfl|rfl
 .exact⟨GK.num [] B8 (λ_ h=>WY),rfl,rfl⟩
 .exact⟨GK.cnt 0 32 _ jS rfl B8 (λx a=>by rw[gh a];exact u0),rfl,rfl⟩
 exact⟨GK.zB 0 [] jS B8 (λ_ h=>WY),rfl,rfl⟩
def xh:∀{m l:E I},Us l->Us m->Us (Ex.kp l m)
 |[],_,h,_=>h
 |x::m,l,h,b=>by
  have c:Us (Ex.ins l x):=by
   unfold Ex.ins;split
   .exact h
   intro y a;rcases ed.1 a with a|a
   .exact h y (dy a)
   rcases cw.1 a with rfl|a
   .exact b y lV
   exact h y (eJ a)
  exact xh (m:=m) c λy a=>b y (by simp[a])
def E5(n:O)(c:Hl.kD b l=t?):Hl.pc b l n=⟨(b:I),Hl.uK b l n,0⟩/\Hl.kD b (Hl.uK b l n)=t?:=by
 obtain⟨a,d,f,e⟩:=Hl.oc c;exact⟨by rw[Hl.pc,B? c];simp,Hl.rE a d (by rw[Hl.tP,f]) (e.add a d n)⟩
def xH{m:E O}(a:Hl.kD b l=t?)(c:Hl.kD b m=t?):Hl.l8 b l b m=⟨(b:I),Hl.rk l m,0⟩/\Hl.kD b (Hl.rk l m)=t?:=by
 obtain⟨d,f,g,e⟩:=Hl.oc a;exact⟨by rw[Hl.l8,B? ⟨a,c,rfl⟩],Hl.rE d f (by unfold Hl.rk;rw[Hl.si,g]) (Hl.Ranks.mrg e (Hl.oc c).2.2.2 _)⟩
variable{c:E I}{n:I}
def MK{C:O}(b:Cm.kP 2 C (c:O)=t?)(f:Us c)(d:U n):∃a,Cm.xX ⟨2,C,c⟩ h n=(⟨2,C,a⟩,0)/\(a:O)=(c:O)/\Us a:=
 ⟨_,by rw[Cm.xX,B? b],Cm.mT _ _ _,Us.lL (λp o e=>Cm.uQ e.1 d.1) f⟩
def CY{C:O}{d:E I}(b:Cm.kP 2 C (c:O)=t?)(e:Cm.kP 2 C (d:O)=t?)(h:Us c)(f:Us d):∃a,Cm.ni ⟨2,C,c⟩ ⟨2,C,d⟩=(⟨2,C,a⟩,0)/\(a:O)=(c:O)/\Us a:=
 ⟨_,by rw[Cm.ni,B? ⟨b,e,rfl,rfl⟩],Cm.mT _ _ _,Us.lL (λp o g=>Cm.uQ g.1 (rI f p).1) h⟩
variable{f:I}
def IJ{g:Hi.jX}(a:Hi.kg f g=t?)(d:Hi.oT g)(b:U h)(c:U n):Hi.pc f g h n=(f,Hi.qa g (Hi.lj f h) n,0)/\Hi.kg f (Hi.qa g (Hi.lj f h) n)=t?/\Hi.oT (Hi.qa g (Hi.lj f h) n):=
 ⟨by rw[Hi.pc,B? a],Hi.tD (Hi.WV (Hi.pS a) d.ub b c),Hi.Sw d (Hi.q_ f b) c⟩
def Ar{g m:Hi.jX}(a:Hi.kg f g=t?)(c:Hi.kg f m=t?)(d:Hi.oT g)(b:Hi.oT m):Hi.l8 f g f m=(f,Hi.ku g m,0)/\Hi.kg f (Hi.ku g m)=t?/\Hi.oT (Hi.ku g m):=
 ⟨by rw[Hi.l8,B? ⟨a,c,rfl⟩],Hi.tD (Hi.WT (Hi.pS a) (Hi.pS c) d.ub b.ub),Hi.qo d b⟩
def E6(h:GK s){x:I}(r:U x)(q:U n)(t:qY s x=u?):GK (nQ s x n)/\(nQ s x n).kind=s.kind/\(nQ s x n).level=s.level:=by
 cases h with
 |num e d k=>
  refine⟨GK.num _ (Ex.mS.2 ⟨?_,Ex.pY (Ex.mS.1 d).2 _⟩) (xh k λy p=>by simp at p;rw[p];exact r),rfl,rfl⟩;simp[qY]at t;exact t
 |reg b l z w d=>
  obtain⟨j,f⟩:=E5 x.toNat d;have B:¬((8:I)-b=0):=jS;have:nQ (lI 14 b l) x n=⟨1,8-b,[],b,Hl.bs (Hl.uK b l x.toNat),0,0,[],0,[]⟩:=by simp only[nQ,sR l (Hl.kU d),j,if_true,A? B]
  rw[this];exact⟨GK.reg b _ z w f,rfl,rfl⟩
 |cnt a C c o A d k=>
  obtain⟨v,j,f,m⟩:=MK (h:=x) d k q;have:nQ (oZ 22 a C c) x n=(oZ 22 a C v):=by simp[nQ,j]
  rw[this];exact⟨GK.cnt a C _ o A (f▸d) m,rfl,rfl⟩
 |zB a g o d k=>
  obtain⟨j,f,m⟩:=IJ (h:=x) (n:=n) d k r q;have:nQ ⟨3,a,[],0,⟨#[]⟩,0,0,[],3-a,g⟩ x n=⟨3,a,[],0,⟨#[]⟩,0,0,[],3-a,Hi.qa g (Hi.lj (3-a) x) n⟩:=by simp[nQ,j]
  rw[this];exact⟨GK.zB a _ o f m,rfl,rfl⟩
def RF(a:qY s h=t?):s.kind=1/\s.level=0:=by simp[qY]at a;exact⟨a.1,a.2.1⟩
def Wk(h:GK s){x:I}(c:U x)(b:U n):GK (wQ s x n)/\(wQ s x n).kind=s.kind:=by
 unfold wQ;split
 .rename_i a;obtain⟨k,l⟩:=RF a;obtain⟨e,f,d⟩:=uW h (by rw[k,l];decide);have:=E6 e c b (by simp[qY,d,l]);exact⟨this.1,this.2.1.trans f⟩
 rename_i a;have:=E6 h c b (by simpa using a);exact⟨this.1,this.2.1⟩
def Jd:∀(k:O){s:Sk},GK s->s.level+k<=kn s.kind->GK (sW k s)/\(sW k s).kind=s.kind/\(sW k s).level=s.level+k
 |0,s,h,_=>⟨h,rfl,by simp[sW]⟩
 |k+1,s,h,g=>by
  obtain⟨e,b,a⟩:=uW h jS;obtain⟨c,d,f⟩:=Jd k e (by rw[b,a];omega);exact⟨c,d.trans b,by rw[show sW (k+1) s=sW k (mG s)from rfl,f,a];omega⟩
def JZ{t:Sk}(h:GK s)(v:GK t)(k:s.kind=t.kind)(p:s.level=t.level)(G:qu s t=u?):GK (p7 s t)/\(p7 s t).kind=s.kind/\(p7 s t).level=s.level:=by
 cases h with
 |num e n r=>
  cases v with
  |num o a j=>
   refine⟨GK.num _ (Ex.mS.2 ⟨?_,Ex.pY (Ex.mS.1 n).2 _⟩) (xh r j),rfl,rfl⟩;simp[qu]at G;exact G
  |reg b l D B=>simp only at p;omega
  |cnt=>simp at k
  |zB=>simp at k
 |reg b l D B n=>
  cases v with
  |num=>simp only at p;omega
  |reg L m K N a=>
   obtain rfl:b=L:=by simp only at p;omega
   obtain⟨q,o⟩:=xH n a;have Q:¬((8:I)-b=0):=jS;have:p7 (lI 14 b l) (lI 14 b m)=⟨1,8-b,[],b,Hl.bs (Hl.rk l m),0,0,[],0,[]⟩:=by simp only[p7,sR l (Hl.kU n),sR m (Hl.kU a),q,if_true,A? Q]
   rw[this];exact⟨GK.reg b _ D B o,rfl,rfl⟩
  |cnt=>simp at k
  |zB=>simp at k
 |cnt f C c z F n r=>
  cases v with
  |num=>simp at k
  |reg=>simp at k
  |cnt x J d y A a j=>
   obtain rfl:f=x:=by simp only at p;omega
   obtain rfl:C=J:=F.trans A.symm;obtain⟨H,q,o,w⟩:=CY n a r j;have:p7 (oZ 22 f C c) (oZ 22 f C d)=(oZ 22 f C H):=by simp[p7,q]
   rw[this];exact⟨GK.cnt f C _ z F (o▸n) w,rfl,rfl⟩
  |zB=>simp at k
 |zB f g z n r=>
  cases v with
  |num=>simp at k
  |reg=>simp at k
  |cnt=>simp at k
  |zB x m y a j=>
   obtain rfl:f=x:=by simp only at p;omega
   obtain⟨q,o,w⟩:=Ar n a r j;have:p7 ⟨3,f,[],0,⟨#[]⟩,0,0,[],3-f,g⟩ ⟨3,f,[],0,⟨#[]⟩,0,0,[],3-f,m⟩=⟨3,f,[],0,⟨#[]⟩,0,0,[],3-f,Hi.ku g m⟩:=by simp[p7,q]
   rw[this];exact⟨GK.zB f _ z o w,rfl,rfl⟩
def sI(h:GK s):0<=s.level/\s.level<=kn s.kind/\1<=s.kind/\s.kind<=3:=by
 obtain⟨d,b,c,a,_⟩:=v_ h.right;exact⟨c,a,d,b⟩
def Ei{t:Sk}(h:GK s)(l:GK t)(j:s.kind=t.kind):GK (mZ s t)/\(mZ s t).kind=s.kind:=by
 have x:=sI h;have o:=sI l;rw[<-j]at o;obtain⟨n,f,q⟩:=Jd (max s.level t.level-s.level).toNat h jS;obtain⟨m,v,w⟩:=Jd (max s.level t.level-t.level).toNat l (by rw[<-j];omega);unfold mZ;generalize sW (max s.level t.level-s.level).toNat s=a at*;generalize sW (max s.level t.level-t.level).toNat t=b at*;have e:a.kind=b.kind:=by rw[f,v,j]
 have g:a.level=b.level:=by rw[q,w];omega
 simp only;split
 .rename_i d;have c:a.kind=1/\a.level=0:=by simp[qu]at d;exact⟨d.1,d.2.1⟩
  obtain⟨c1,c2,k⟩:=uW n (by rw[c.1,c.2];decide);obtain⟨d1,r,p⟩:=uW m (by rw[<-e,<-g,c.1,c.2];decide);have:=JZ c1 d1 (by rw[c2,r,e]) (by rw[k,p,g]) (by simp[qu,k,c.2]);exact⟨this.1,by rw[this.2.1,c2,f]⟩
 rename_i d;have:=JZ n m e g (by simpa using d);exact⟨this.1,this.2.1.trans f⟩
end Go.Proofs.YtfcnedcahoifoaaGreatDoor

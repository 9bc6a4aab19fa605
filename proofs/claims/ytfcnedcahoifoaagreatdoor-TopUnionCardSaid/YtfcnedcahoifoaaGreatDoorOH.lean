import Derived.Test.YtfcnedcahoifoaaGreatDoorOD
import Derived.Test.YtfcnedcahoifoaaGreatDoorOE
import Derived.Test.YtfcnedcahoifoaaGreatDoorOF
namespace Go.Proofs.YtfcnedcahoifoaaGreatDoor
open Go.RowKit
open _root_.Bool renaming true_and→eF
open _root_.Go renaming Addr→jG,Calls→jE,Ending→bi6,FuncId→bl9,Value→jD,World→jC
open _root_.Go.Instr renaming field→i_,typeAssert→dd
open _root_.Go.IntWalk renaming i64_in→dv
open _root_.Int renaming eq_ofNat_of_zero_le→fm
open _root_.List renaming all_eq_true→dZ,eq_of_mem_replicate→gh,length_cons→c_,length_replicate→ey,map_map→fY,mem_append→ed,mem_cons→cw,mem_map→dq,mem_of_mem_drop→eJ,mem_of_mem_take→dy,mem_range→dh,pairwise_cons→b6,range→bu,replicate→de
open _root_.Nat renaming pow_le_pow_right→ep,reduceAdd→ao,two_pow_pos→ee,zero_add→au
open _root_.UInt8 renaming ofNat→gH
set_option maxRecDepth 100000
set_option maxHeartbeats 16000000
set_option linter.unusedVariables false
set_option linter.unusedSimpArgs false
def oW(w:jC)(s:Sk)(e:bi6)(w':jC):Prop:=∃m:SkM,m.s=s∧e=.returned (.tuple #[kK m,.nilIface])∧jY w' w' m∧Fr w m∧Below w w w'
def I0(w:jC)(e:bi6)(w':jC):Prop:=∃b,e=.returned (.tuple #[.nilIface,.iface 223 (.pointer (aC b))])∧w'.cell? ⟨b,0,none⟩=some (.int .i64 60)∧Below w w w'
theorem sR(l:List Nat)(h:Hl.Bytes l):lQ (Hl.bs l)=l:=by
 show((l.map gH).toArray.toList.map UInt8.toNat)=l;rw[fY];conv=>rhs;rw[←List.map_id l]
 exact List.map_congr_left fun x hx=>by
  have:=h x hx;simp only[Function.comp,id];rw[UInt8.toNat_ofNat_of_lt' (by simpa using this)]
variable{args:Array jD}{r:List Int}
theorem EM{f:bl9}{w:jC}(h:r.length≤64)(hc:jE Tryz.prog f args w (Ex.Fe w r)):jE Tryz.prog f args w fun e w'=>Below w w w'∧∃v,e=.returned (.tuple #[.agg #[v],jJ 0])∧Held w' w v r:=hc.mono fun e w'⟨hb,hx⟩=>⟨hb,by rcases hx with⟨_,h⟩|⟨h,_⟩;exact h;omega⟩
theorem KI{f:bl9}{w:jC}(h:64<r.length)(hc:jE Tryz.prog f args w (Ex.Fe w r)):jE Tryz.prog f args w fun e w'=>Below w w w'∧e=.returned (.tuple #[.agg #[jM],jJ 60]):=hc.mono fun e w'⟨hb,hx⟩=>⟨hb,by rcases hx with⟨h,_⟩|⟨_,h⟩;omega;exact h⟩
variable{b h:Int}{s:ByteArray}{y:Hl.Hr}
theorem Xv(hh:U h)(hy:Hl.pc b (lQ s) h.toNat=⟨y.b,y.l,0⟩)(w:jC):jE Tryz.prog 317 #[cO b s,jK h] w (Hl.yY w ⟨y.b,y.l,0⟩):=by
 have e:=Int.toNat_of_nonneg hh.1;have:=Hl.add_any b (lQ s) (pu s) h.toNat (by have:=hh.2;omega) w;unfold Hl.hV at this;rw[uB,e,hy]at this;exact this
theorem G7{c:Int}{t:ByteArray}(hy:Hl.l8 b (lQ s) c (lQ t)=⟨y.b,y.l,0⟩)(w:jC):jE Tryz.prog 320 #[cO b s,cO c t] w (Hl.yY w ⟨y.b,y.l,0⟩):=by
 have:=Hl.merge_any b c (lQ s) (lQ t) (pu s) (pu t) w;unfold Hl.hV at this;rw[uB,uB,hy]at this;exact this
theorem Rm(hy:Hl.lR b (lQ s)=⟨y.b,y.l,0⟩)(w:jC):jE Tryz.prog 319 #[cO b s] w (Hl.yY w ⟨y.b,y.l,0⟩):=by
 have:=Hl.rL b (lQ s) (pu s) w;unfold Hl.hV at this;rw[uB,hy]at this;exact this
theorem Rn(b:Int)(s:ByteArray)(w:jC):jE Tryz.prog 318 #[cO b s] w fun e w'=>e=.returned (.int .u64 ((Hl.vH b (lQ s):Nat):Int))∧Below w w w':=by
 have:=Hl.count_any b (lQ s) (pu s) w;unfold Hl.hV at this;rw[uB]at this;exact this
theorem JV(A:Option jG)(l:List Int)(c:Nat)(h n:Int)(hr:Ex.kg l=true)(h64:(Ex.kp l [h]).length≤64)(w:jC)(hS:Sl w w A l):
 jE Tryz.prog 283 #[dD A l c,cI h n] w (oW w {kN 1 0 with e:=Ex.kp l [h]}):=by
 have H:=ah (((Hold.nil w).alloc w 294 [jN A l c]).alloc (w.heap.size+1) 39 [jK h,jK n])
 have HS:=ah hS
 go_in
 go_wp2_with fail
 refine(EM h64 (Ex.add_any _ c A l h ((Rd.below HS H.below).more (Below.size H.below)) hr)).mono ?_
 rintro e w1⟨hb1,v,rfl,A1,c1,rfl,-,-,hs1,hf1⟩
 replace H:=ah (H.call hb1)
 go_wp2_with fail
 refine(oy _ _).mono ?_
 rintro e w2⟨rfl,rfl⟩
 go_wp2
 go_ret2
 exact⟨⟨{kN 1 0 with e:=Ex.kp l [h]},A1,c1,none,0,none,0⟩,rfl,rfl,⟨(Rd.below hs1 (jP (jQ w1) _)).more lV,Rd.none_,Rd.none_⟩,⟨(fun ad e=>qhf),(fun _ e=>LS),(fun _ e=>LS)⟩,(H.al _).below⟩
theorem Ef(A:Option jG)(l:List Int)(c:Nat)(A2:Option jG)(m:List Int)(c2:Nat)(hr:Ex.kg l=true)(hr2:Ex.kg m=true)(h64:(Ex.kp l m).length≤64)(w:jC)(hS:Sl w w A l)(hS2:Sl w w A2 m):
 jE Tryz.prog 287 #[dD A l c,.iface 294 (dD A2 m c2)] w (oW w {kN 1 0 with e:=Ex.kp l m}):=by
 have H:=ah ((Hold.nil w).alloc w 294 [jN A l c])
 have HS:=ah hS
 have HS2:=ah hS2
 have ta:∀w,(dd (.iface 294 (dD A2 m c2)) 167 294 false).run Tryz.prog w=.ok (dD A2 m c2) w:=fun _=>oo
 have tf:∀w,(i_ 294 (dD A2 m c2) 0).run Tryz.prog w=.ok (dD A2 m c2) w:=fun _=>oo
 go_in
 go_wp2_with fail
 have x:=fk (H.at_ 0)
 replace H:=ah H.drew
 go_region_held(fun w'=>w'.cell? ⟨w,0,none⟩=some (cZ A l c)) (first|assumption|exact x|go_keep) ((go_at_call 292;first|(refine(EM h64 (Ex.merge_any _ c c2 A A2 l m ((Rd.below HS H.below).more (Below.size H.below)) ((Rd.below HS2 H.below).more (Below.size H.below)) hr hr2)).mono ?_;rintro e w1⟨hb1,v,rfl,A1,c1,rfl,-,-,hs1,hf1⟩;replace H:=ah (H.call hb1);clear hb1 x;have x:=H.at_ 0;have z:=H.facts;simp only[Facts,kz,au,ao,and_true]at x z)|(refine(EM h64 (Ex.merge_any _ c c2 A A2 l m ((Rd.below HS (H.alloc (w.heap.size+1) 127 [jM]).below).more (Below.size (H.alloc (w.heap.size+1) 127 [jM]).below)) ((Rd.below HS2 (H.alloc (w.heap.size+1) 127 [jM]).below).more (Below.size (H.alloc (w.heap.size+1) 127 [jM]).below)) hr hr2)).mono ?_;rintro e w1⟨hb1,v,rfl,A1,c1,rfl,-,-,hs1,hf1⟩;replace H:=ah ((H.alloc (w.heap.size+1) 127 [jM]).call hb1);clear hb1 x;have x:=H.at_ 1;have z:=H.facts;simp only[Facts,kz,au,ao,and_true]at x z)))
 all_goals
  go_wp2_with fail;refine(oy _ _).mono ?_;rintro e w2⟨rfl,rfl⟩;go_wp2;go_ret2;first
   |exact⟨⟨{kN 1 0 with e:=Ex.kp l m},A1,c1,none,0,none,0⟩,rfl,rfl,⟨(Rd.below hs1 (jP (jQ w1) _)).more lV,Rd.none_,Rd.none_⟩,⟨(fun ad e=>qhf),(fun _ e=>LS),(fun _ e=>LS)⟩,(H.al _).below⟩
   |(
    have H2:=(H.put 0 0 (.slice A1 (Ex.kp l m).length c1))
    have hne:∀ad,A1=some ad→ad.block≠w.heap.size+1:=fun ad e=>qhf
    have hs2:=(mi (g:=w.heap.size+1) (o:=0) (u:=.slice A1 (Ex.kp l m).length c1) hs1 hne)
    exact⟨⟨{kN 1 0 with e:=Ex.kp l m},A1,c1,none,0,none,0⟩,rfl,rfl,⟨hs2,Rd.none_,Rd.none_⟩,⟨(fun ad e=>qhf),(fun _ e=>LS),(fun _ e=>LS)⟩,H2.below⟩)
theorem JU(A:Option jG)(l:List Int)(c:Nat)(h n:Int)(hr:Ex.kg l=true)(h64:64<(Ex.kp l [h]).length)(w:jC)(hS:Sl w w A l):
 jE Tryz.prog 283 #[dD A l c,cI h n] w (I0 w):=by
 have H:=ah (((Hold.nil w).alloc w 294 [jN A l c]).alloc (w.heap.size+1) 39 [jK h,jK n])
 have HS:=ah hS
 go_in
 go_wp2_with fail
 refine(KI h64 (Ex.add_any _ c A l h ((Rd.below HS H.below).more (Below.size H.below)) hr)).mono ?_
 rintro e w1⟨hb1,rfl⟩
 replace H:=ah (H.call hb1)
 go_wp2_with fail
 refine(LG _ _).mono ?_
 rintro e w2⟨rfl,rfl⟩
 go_wp2
 go_ret2
 exact⟨_,rfl,lV,((H.al _).al _).below⟩
theorem Ee(A:Option jG)(l:List Int)(c:Nat)(A2:Option jG)(m:List Int)(c2:Nat)(hr:Ex.kg l=true)(hr2:Ex.kg m=true)(h64:64<(Ex.kp l m).length)(w:jC)(hS:Sl w w A l)(hS2:Sl w w A2 m):
 jE Tryz.prog 287 #[dD A l c,.iface 294 (dD A2 m c2)] w (I0 w):=by
 have H:=ah ((Hold.nil w).alloc w 294 [jN A l c])
 have HS:=ah hS
 have HS2:=ah hS2
 have ta:∀w,(dd (.iface 294 (dD A2 m c2)) 167 294 false).run Tryz.prog w=.ok (dD A2 m c2) w:=fun _=>oo
 have tf:∀w,(i_ 294 (dD A2 m c2) 0).run Tryz.prog w=.ok (dD A2 m c2) w:=fun _=>oo
 go_in
 go_wp2_with fail
 have x:=fk (H.at_ 0)
 replace H:=ah H.drew
 go_region_held(fun w'=>w'.cell? ⟨w,0,none⟩=some (cZ A l c)) (first|assumption|exact x|go_keep) ((go_at_call 292;first|(refine(KI h64 (Ex.merge_any _ c c2 A A2 l m ((Rd.below HS H.below).more (Below.size H.below)) ((Rd.below HS2 H.below).more (Below.size H.below)) hr hr2)).mono ?_;rintro e w1⟨hb1,rfl⟩;replace H:=ah (H.call hb1);clear hb1 x;have x:=H.at_ 0;have z:=H.facts;simp only[Facts,kz,au,ao,and_true]at x z)|(refine(KI h64 (Ex.merge_any _ c c2 A A2 l m ((Rd.below HS (H.alloc (w.heap.size+1) 127 [jM]).below).more (Below.size (H.alloc (w.heap.size+1) 127 [jM]).below)) ((Rd.below HS2 (H.alloc (w.heap.size+1) 127 [jM]).below).more (Below.size (H.alloc (w.heap.size+1) 127 [jM]).below)) hr hr2)).mono ?_;rintro e w1⟨hb1,rfl⟩;replace H:=ah ((H.alloc (w.heap.size+1) 127 [jM]).call hb1);clear hb1 x;have x:=H.at_ 1;have z:=H.facts;simp only[Facts,kz,au,ao,and_true]at x z)))
 all_goals
  go_wp2_with fail;refine(LG _ _).mono ?_;rintro e w2⟨rfl,rfl⟩;go_wp2;go_ret2;refine⟨_,rfl,?_,?_⟩
  ·first|(simp;done)|(rw[World.cell?_alloc_at _ _ _ _ lV];rfl)
  first|exact((H.al _).al _).below|exact((H.put 0 0 aO).al _).below
theorem Eg(A:Option jG)(l:List Int)(c:Nat)(lv:Int)(hlv:¬lv=0)(y:Hl.Hr)(hU:Us l)(hl:l.length≤1000)(hy:Hl.JQ 7 l=⟨y.b,y.l,0⟩)(w:jC)(hS:Sl w w A l):
 jE Tryz.prog 286 #[dD A l c] w (oW w {kN 1 lv with bits:=y.b,regs:=Hl.bs y.l}):=by
 have H:=ah ((Hold.nil w).alloc w 294 [jN A l c])
 have HS:=ah hS
 go_in
 go_wp2_with fail
 refine(hy▸Hl.Xf 7 A l c hU jS _ ((Rd.below HS H.below).more (Below.size H.below))).mono ?_
 rintro e w1⟨rfl,hb1⟩
 replace H:=ah (H.call hb1)
 go_wp2_with fail
 refine(oy _ _).mono ?_
 rintro e w2⟨rfl,rfl⟩
 go_wp2
 go_ret2
 exact⟨⟨{kN 1 lv with bits:=y.b,regs:=Hl.bs y.l},none,0,none,0,none,0⟩,rfl,by simp[kK,kN,hV,hlv],⟨Rd.none_,Rd.none_,Rd.none_⟩,⟨(fun _ e=>LS),(fun _ e=>LS),(fun _ e=>LS)⟩,(H.al _).below⟩
theorem Ab(b:Int)(s:ByteArray)(lv:Int)(hlv:¬lv=0)(y:Hl.Hr)(h n:Int)(hh:U h)(hy:Hl.pc b (lQ s) h.toNat=⟨y.b,y.l,0⟩)(w:jC):
 jE Tryz.prog 312 #[cO b s,cI h n] w (oW w {kN 1 lv with bits:=y.b,regs:=Hl.bs y.l}):=by
 have H:=ah (((Hold.nil w).alloc w 297 [jJ b,jL s]).alloc (w.heap.size+1) 39 [jK h,jK n])
 go_in
 go_wp2_with fail
 refine(Xv hh hy _).mono ?_
 rintro e w1⟨rfl,hb1⟩
 replace H:=ah (H.call hb1)
 go_wp2_with fail
 refine(oy _ _).mono ?_
 rintro e w2⟨rfl,rfl⟩
 go_wp2
 go_ret2
 exact⟨⟨{kN 1 lv with bits:=y.b,regs:=Hl.bs y.l},none,0,none,0,none,0⟩,rfl,by simp[kK,kN,hV,hlv],⟨Rd.none_,Rd.none_,Rd.none_⟩,⟨(fun _ e=>LS),(fun _ e=>LS),(fun _ e=>LS)⟩,(H.al _).below⟩
theorem wc(b:Int)(s:ByteArray)(b2:Int)(s2:ByteArray)(lv:Int)(hlv:¬lv=0)(y:Hl.Hr)(hy:Hl.l8 b (lQ s) b2 (lQ s2)=⟨y.b,y.l,0⟩)(w:jC):
 jE Tryz.prog 316 #[cO b s,.iface 297 (cO b2 s2)] w (oW w {kN 1 lv with bits:=y.b,regs:=Hl.bs y.l}):=by
 have H:=ah ((Hold.nil w).alloc w 297 [jJ b,jL s])
 have ta:∀w,(dd (.iface 297 (cO b2 s2)) 167 297 false).run Tryz.prog w=.ok (cO b2 s2) w:=fun _=>oo
 have tf:∀w,(i_ 297 (cO b2 s2) 0).run Tryz.prog w=.ok (cO b2 s2) w:=fun _=>oo
 go_in
 go_wp2_with fail
 have x:=fk (H.at_ 0)
 replace H:=ah H.drew
 go_region_held(fun w'=>w'.cell? ⟨w,0,none⟩=some (.int .i64 b)∧w'.cell? ⟨w,1,none⟩=some (.string s)) (first|assumption|exact x|go_keep) ((go_at_call 320;first|(refine(G7 hy _).mono ?_;rintro e w1⟨rfl,hb1⟩;replace H:=ah (H.call hb1);clear hb1 x;have x:=H.at_ 0;have z:=H.facts;simp only[Facts,kz,au,ao,and_true]at x z)|(refine(G7 hy _).mono ?_;rintro e w1⟨rfl,hb1⟩;replace H:=ah ((H.alloc (w.heap.size+1) 129 [jJ 0,aF]).call hb1);clear hb1 x;have x:=H.at_ 1;have z:=H.facts;simp only[Facts,kz,au,ao,and_true]at x z)))
 all_goals
  go_wp2_with fail;refine(oy _ _).mono ?_;rintro e w2⟨rfl,rfl⟩;go_wp2;go_ret2;first
   |exact⟨⟨{kN 1 lv with bits:=y.b,regs:=Hl.bs y.l},none,0,none,0,none,0⟩,rfl,by simp[kK,kN,hV,hlv],⟨Rd.none_,Rd.none_,Rd.none_⟩,⟨(fun _ e=>LS),(fun _ e=>LS),(fun _ e=>LS)⟩,(H.al _).below⟩
   |(
    have H2:=((H.put 0 0 (.int .i64 y.b)).put 0 1 (.string (Hl.bs y.l)))
    exact⟨⟨{kN 1 lv with bits:=y.b,regs:=Hl.bs y.l},none,0,none,0,none,0⟩,rfl,by simp[kK,kN,hV,hlv],⟨Rd.none_,Rd.none_,Rd.none_⟩,⟨(fun _ e=>LS),(fun _ e=>LS),(fun _ e=>LS)⟩,H2.below⟩)
theorem D7(b:Int)(s:ByteArray)(lv:Int)(hlv:¬lv=0)(y:Hl.Hr)(hy:Hl.lR b (lQ s)=⟨y.b,y.l,0⟩)(w:jC):
 jE Tryz.prog 315 #[cO b s] w (oW w {kN 1 lv with bits:=y.b,regs:=Hl.bs y.l}):=by
 have H:=ah ((Hold.nil w).alloc w 297 [jJ b,jL s])
 go_in
 go_wp2_with fail
 refine(Rm hy _).mono ?_
 rintro e w1⟨rfl,hb1⟩
 replace H:=ah (H.call hb1)
 go_wp2_with fail
 refine(oy _ _).mono ?_
 rintro e w2⟨rfl,rfl⟩
 go_wp2
 go_ret2
 exact⟨⟨{kN 1 lv with bits:=y.b,regs:=Hl.bs y.l},none,0,none,0,none,0⟩,rfl,by simp[kK,kN,hV,hlv],⟨Rd.none_,Rd.none_,Rd.none_⟩,⟨(fun _ e=>LS),(fun _ e=>LS),(fun _ e=>LS)⟩,(H.al _).below⟩
theorem K8(r k:Int)(A:Option jG)(l:List Int)(c:Nat)(lv:Int)(y:Cm.Cm)(h n:Int)(hh:U h)(hn:U n)(hU:Us l)(hy:Cm.xX ⟨r,k,l⟩ h n=(y,0))(w:jC)(hS:Sl w w A l):
 jE Tryz.prog 322 #[bR r k A l c,cI h n] w (oW w {kN 2 lv with rows:=y.r,cols:=y.c,c:=y.l}):=by
 have H:=ah (((Hold.nil w).alloc w 298 [jJ r,jJ k,jN A l c]).alloc (w.heap.size+1) 39 [jK h,jK n])
 have HS:=ah hS
 go_in
 go_wp2_with fail
 refine(hy▸Cm.add_any r k A l c h n hh hn hU _ ((Rd.below HS H.below).more (Below.size H.below))).mono ?_
 rintro e w1⟨hb1,v,rfl,A1,c1,rfl,-,-,hs1,hf1⟩
 replace H:=ah (H.call hb1)
 go_wp2_with fail
 refine(oy _ _).mono ?_
 rintro e w2⟨rfl,rfl⟩
 go_wp2
 go_ret2
 exact⟨⟨{kN 2 lv with rows:=y.r,cols:=y.c,c:=y.l},none,0,A1,c1,none,0⟩,rfl,rfl,⟨Rd.none_,(Rd.below hs1 (jP (jQ w1) _)).more lV,Rd.none_⟩,⟨(fun _ e=>LS),(fun ad e=>qhf),(fun _ e=>LS)⟩,(H.al _).below⟩
theorem EU(r k:Int)(A:Option jG)(l:List Int)(c:Nat)(r2 k2:Int)(A2:Option jG)(m:List Int)(c2:Nat)(lv:Int)(y:Cm.Cm)(hU:Us l)(hU2:Us m)(hy:Cm.ni ⟨r,k,l⟩ ⟨r2,k2,m⟩=(y,0))(w:jC)(hS:Sl w w A l)(hS2:Sl w w A2 m):
 jE Tryz.prog 326 #[bR r k A l c,.iface 298 (bR r2 k2 A2 m c2)] w (oW w {kN 2 lv with rows:=y.r,cols:=y.c,c:=y.l}):=by
 have H:=ah ((Hold.nil w).alloc w 298 [jJ r,jJ k,jN A l c])
 have HS:=ah hS
 have HS2:=ah hS2
 clear hS hS2
 have ta:∀w,(dd (.iface 298 (bR r2 k2 A2 m c2)) 167 298 false).run Tryz.prog w=.ok (bR r2 k2 A2 m c2) w:=fun _=>by kernel_rfl
 have tf:∀w,(i_ 298 (bR r2 k2 A2 m c2) 0).run Tryz.prog w=.ok (bR r2 k2 A2 m c2) w:=fun _=>by kernel_rfl
 go_in
 go_wp2_with fail
 have x:=fk (H.at_ 0)
 replace H:=ah H.drew
 go_region_held(fun w'=>w'.cell? ⟨w,0,none⟩=some (.int .i64 r)∧w'.cell? ⟨w,1,none⟩=some (.int .i64 k)∧w'.cell? ⟨w,2,none⟩=some (cZ A l c)) (first|assumption|exact x|go_keep) ((go_at_call 330;first|(refine(hy▸Cm.merge_any r k r2 k2 A A2 l m c c2 _ ((Rd.below HS H.below).more (Below.size H.below)) ((Rd.below HS2 H.below).more (Below.size H.below)) hU hU2).mono ?_;rintro e w1⟨hb1,v,rfl,A1,c1,rfl,-,-,hs1,hf1⟩;replace H:=ah (H.call hb1);clear hb1 x;have x:=H.at_ 0;have z:=H.facts;simp only[Facts,kz,au,ao,and_true]at x z)|(refine(hy▸Cm.merge_any r k r2 k2 A A2 l m c c2 _ ((Rd.below HS (H.alloc (w.heap.size+1) 131 [jJ 0,jJ 0,jM]).below).more (Below.size (H.alloc (w.heap.size+1) 131 [jJ 0,jJ 0,jM]).below)) ((Rd.below HS2 (H.alloc (w.heap.size+1) 131 [jJ 0,jJ 0,jM]).below).more (Below.size (H.alloc (w.heap.size+1) 131 [jJ 0,jJ 0,jM]).below)) hU hU2).mono ?_;rintro e w1⟨hb1,v,rfl,A1,c1,rfl,-,-,hs1,hf1⟩;replace H:=ah ((H.alloc (w.heap.size+1) 131 [jJ 0,jJ 0,jM]).call hb1);clear hb1 x;have x:=H.at_ 1;have z:=H.facts;simp only[Facts,kz,au,ao,and_true]at x z)))
 all_goals
  go_wp2_with fail;refine(oy _ _).mono ?_;rintro e w2⟨rfl,rfl⟩;go_wp2_with fail;go_ret2;first
   |exact⟨⟨{kN 2 lv with rows:=y.r,cols:=y.c,c:=y.l},none,0,A1,c1,none,0⟩,rfl,rfl,⟨Rd.none_,(Rd.below hs1 (jP (jQ w1) _)).more (by simp),Rd.none_⟩,⟨(fun _ e=>by cases e),(fun ad e=>by have:=(hf1 ad e).1;simp at this;omega),(fun _ e=>by cases e)⟩,(H.al _).below⟩
   |(
    have H2:=(((H.put 0 0 (.int .i64 y.r)).put 0 1 (.int .i64 y.c)).put 0 2 (.slice A1 y.l.length c1))
    have hne:∀ad,A1=some ad→ad.block≠w.heap.size+1:=fun ad e=>by have:=(hf1 ad e).1;simp at this;omega
    have hs2:=(mi (g:=w.heap.size+1) (o:=2) (u:=.slice A1 y.l.length c1) (mi (g:=w.heap.size+1) (o:=1) (u:=.int .i64 y.c) (mi (g:=w.heap.size+1) (o:=0) (u:=.int .i64 y.r) hs1 hne) hne) hne)
    exact⟨⟨{kN 2 lv with rows:=y.r,cols:=y.c,c:=y.l},none,0,A1,c1,none,0⟩,rfl,rfl,⟨Rd.none_,hs2,Rd.none_⟩,⟨(fun _ e=>by cases e),(fun ad e=>by have:=(hf1 ad e).1;simp at this;omega),(fun _ e=>by cases e)⟩,H2.below⟩)
theorem EV(r k:Int)(A:Option jG)(l:List Int)(c:Nat)(lv:Int)(y:Cm.Cm)(hU:Us l)(hy:Cm.mm ⟨r,k,l⟩=(y,0))(w:jC)(hS:Sl w w A l):
 jE Tryz.prog 325 #[bR r k A l c] w (oW w {kN 2 lv with rows:=y.r,cols:=y.c,c:=y.l}):=by
 have H:=ah ((Hold.nil w).alloc w 298 [jJ r,jJ k,jN A l c])
 have HS:=ah hS
 go_in
 go_wp2_with fail
 refine(hy▸Cm.rL r k A l c hU _ ((Rd.below HS H.below).more (Below.size H.below))).mono ?_
 rintro e w1⟨hb1,v,rfl,A1,c1,rfl,-,-,hs1,hf1⟩
 replace H:=ah (H.call hb1)
 go_wp2_with fail
 refine(oy _ _).mono ?_
 rintro e w2⟨rfl,rfl⟩
 go_wp2
 go_ret2
 exact⟨⟨{kN 2 lv with rows:=y.r,cols:=y.c,c:=y.l},none,0,A1,c1,none,0⟩,rfl,rfl,⟨Rd.none_,(Rd.below hs1 (jP (jQ w1) _)).more lV,Rd.none_⟩,⟨(fun _ e=>LS),(fun ad e=>qhf),(fun _ e=>LS)⟩,(H.al _).below⟩
theorem Lc(f:Int)(A:Option jG)(l:Hi.jX)(c:Nat)(lv:Int)(y:Int×Hi.jX)(h n:Int)(hh:U h)(hn:U n)(hU:Hi.oT l)(hl:l.length≤1000)(hy:Hi.pc f l h n=(y.1,y.2,0))(w:jC)(hS:Hi.Sb w w A l):
 jE Tryz.prog 341 #[.agg #[jJ f,jN A l c],cI h n] w (oW w {kN 3 lv with fine:=y.1,g:=y.2}):=by
 have H:=ah (((Hold.nil w).alloc w 300 [jJ f,jN A l c]).alloc (w.heap.size+1) 39 [jK h,jK n])
 have HS:=ah hS
 go_in
 go_wp2_with fail
 refine(hy▸Hi.add_any f A l c h n hh hn hU jS _ ((Rd.below HS H.below).more (Below.size H.below))).mono ?_
 rintro e w1⟨hb1,v,rfl,A1,c1,rfl,-,-,hs1,hf1⟩
 replace H:=ah (H.call hb1)
 go_wp2_with fail
 refine(oy _ _).mono ?_
 rintro e w2⟨rfl,rfl⟩
 go_wp2
 go_ret2
 exact⟨⟨{kN 3 lv with fine:=y.1,g:=y.2},none,0,none,0,A1,c1⟩,rfl,rfl,⟨Rd.none_,Rd.none_,(Rd.below hs1 (jP (jQ w1) _)).more lV⟩,⟨(fun _ e=>LS),(fun _ e=>LS),(fun ad e=>qhf)⟩,(H.al _).below⟩
theorem EW(f:Int)(A:Option jG)(l:Hi.jX)(c:Nat)(f2:Int)(A2:Option jG)(m:Hi.jX)(c2:Nat)(lv:Int)(y:Int×Hi.jX)(hU:Hi.oT l)(hU2:Hi.oT m)(hl:l.length≤1000)(hl2:m.length≤1000)(hy:Hi.l8 f l f2 m=(y.1,y.2,0))(w:jC)(hS:Hi.Sb w w A l)(hS2:Hi.Sb w w A2 m):
 jE Tryz.prog 345 #[.agg #[jJ f,jN A l c],.iface 300 (.agg #[jJ f2,jN A2 m c2])] w (oW w {kN 3 lv with fine:=y.1,g:=y.2}):=by
 have H:=ah ((Hold.nil w).alloc w 300 [jJ f,jN A l c])
 have HS:=ah hS
 have HS2:=ah hS2
 have ta:∀w,(dd (.iface 300 (.agg #[jJ f2,jN A2 m c2])) 167 300 false).run Tryz.prog w=.ok (.agg #[jJ f2,jN A2 m c2]) w:=fun _=>oo
 have tf:∀w,(i_ 300 (.agg #[jJ f2,jN A2 m c2]) 0).run Tryz.prog w=.ok (.agg #[jJ f2,jN A2 m c2]) w:=fun _=>oo
 go_in
 go_wp2_with fail
 have x:=fk (H.at_ 0)
 replace H:=ah H.drew
 go_region_held(fun w'=>w'.cell? ⟨w,0,none⟩=some (.int .i64 f)∧w'.cell? ⟨w,1,none⟩=some (.slice A l.length c)) (first|assumption|exact x|go_keep) ((go_at_call 349;first|(refine(hy▸Hi.merge_any f f2 A A2 l m c c2 hU hU2 jS jS _ ((Rd.below HS H.below).more (Below.size H.below)) ((Rd.below HS2 H.below).more (Below.size H.below))).mono ?_;rintro e w1⟨hb1,v,rfl,A1,c1,rfl,-,-,hs1,hf1⟩;replace H:=ah (H.call hb1);clear hb1 x;have x:=H.at_ 0;have z:=H.facts;simp only[Facts,kz,au,ao,and_true]at x z)|(refine(hy▸Hi.merge_any f f2 A A2 l m c c2 hU hU2 jS jS _ ((Rd.below HS (H.alloc (w.heap.size+1) 134 [jJ 0,jM]).below).more (Below.size (H.alloc (w.heap.size+1) 134 [jJ 0,jM]).below)) ((Rd.below HS2 (H.alloc (w.heap.size+1) 134 [jJ 0,jM]).below).more (Below.size (H.alloc (w.heap.size+1) 134 [jJ 0,jM]).below))).mono ?_;rintro e w1⟨hb1,v,rfl,A1,c1,rfl,-,-,hs1,hf1⟩;replace H:=ah ((H.alloc (w.heap.size+1) 134 [jJ 0,jM]).call hb1);clear hb1 x;have x:=H.at_ 1;have z:=H.facts;simp only[Facts,kz,au,ao,and_true]at x z)))
 all_goals
  go_wp2_with fail;refine(oy _ _).mono ?_;rintro e w2⟨rfl,rfl⟩;go_wp2;go_ret2;first
   |exact⟨⟨{kN 3 lv with fine:=y.1,g:=y.2},none,0,none,0,A1,c1⟩,rfl,rfl,⟨Rd.none_,Rd.none_,(Rd.below hs1 (jP (jQ w1) _)).more lV⟩,⟨(fun _ e=>LS),(fun _ e=>LS),(fun ad e=>qhf)⟩,(H.al _).below⟩
   |(
    have H2:=((H.put 0 0 (.int .i64 y.1)).put 0 1 (.slice A1 y.2.length c1))
    have hne:∀ad,A1=some ad→ad.block≠w.heap.size+1:=fun ad e=>qhf
    have hs2:=(mi (g:=w.heap.size+1) (o:=1) (u:=.slice A1 y.2.length c1) (mi (g:=w.heap.size+1) (o:=0) (u:=.int .i64 y.1) hs1 hne) hne)
    exact⟨⟨{kN 3 lv with fine:=y.1,g:=y.2},none,0,none,0,A1,c1⟩,rfl,rfl,⟨Rd.none_,Rd.none_,hs2⟩,⟨(fun _ e=>LS),(fun _ e=>LS),(fun ad e=>qhf)⟩,H2.below⟩)
theorem EX(f:Int)(A:Option jG)(l:Hi.jX)(c:Nat)(lv:Int)(y:Int×Hi.jX)(hU:Hi.oT l)(hl:l.length≤1000)(hy:Hi.lR f l=(y.1,y.2,0))(w:jC)(hS:Hi.Sb w w A l):
 jE Tryz.prog 344 #[.agg #[jJ f,jN A l c]] w (oW w {kN 3 lv with fine:=y.1,g:=y.2}):=by
 have H:=ah ((Hold.nil w).alloc w 300 [jJ f,jN A l c])
 have HS:=ah hS
 go_in
 go_wp2_with fail
 refine(hy▸Hi.rL f A l c hU jS _ ((Rd.below HS H.below).more (Below.size H.below))).mono ?_
 rintro e w1⟨hb1,v,rfl,A1,c1,rfl,-,-,hs1,hf1⟩
 replace H:=ah (H.call hb1)
 go_wp2_with fail
 refine(oy _ _).mono ?_
 rintro e w2⟨rfl,rfl⟩
 go_wp2
 go_ret2
 exact⟨⟨{kN 3 lv with fine:=y.1,g:=y.2},none,0,none,0,A1,c1⟩,rfl,rfl,⟨Rd.none_,Rd.none_,(Rd.below hs1 (jP (jQ w1) _)).more lV⟩,⟨(fun _ e=>LS),(fun _ e=>LS),(fun ad e=>qhf)⟩,(H.al _).below⟩
theorem JT(A:Option jG)(l:List Int)(c:Nat)(h:Int)(hl:l.length≤1000)(w:jC)(hS:Sl w w A l):jE Tryz.prog 284 #[dD A l c,jK h] w fun e w'=>e=.returned (.int .u64 (Ex.cnt l))∧Below w w w':=by
 have H:=ah ((Hold.nil w).alloc w 294 [jN A l c]);have HS:=ah hS;go_in;go_wp2_with fail;refine(Ex.count_any _ c A l ((Rd.below HS H.below).more (Below.size H.below)) jS).mono ?_;rintro e w1⟨rfl,hb1⟩;go_wp2;go_ret;exact⟨rfl,(H.call hb1).below⟩
theorem JG(b:Int)(s:ByteArray)(h:Int)(w:jC):jE Tryz.prog 313 #[cO b s,jK h] w fun e w'=>e=.returned (.int .u64 ((Hl.vH b (lQ s):Nat):Int))∧Below w w w':=by
 have H:=ah ((Hold.nil w).alloc w 297 [jJ b,jL s]);go_in;go_wp2_with fail;refine(Rn b s _).mono ?_;rintro e w1⟨rfl,hb1⟩;go_wp2;go_ret;exact⟨rfl,(H.call hb1).below⟩
theorem K7(r k:Int)(A:Option jG)(l:List Int)(c:Nat)(h:Int)(hh:U h)(hU:Us l)(w:jC)(hS:Sl w w A l):jE Tryz.prog 323 #[bR r k A l c,jK h] w fun e w'=>e=.returned (.int .u64 (Cm.qE ⟨r,k,l⟩ h))∧Below w w w':=by
 have H:=ah ((Hold.nil w).alloc w 298 [jJ r,jJ k,jN A l c]);have HS:=ah hS;go_in;go_wp2_with fail;refine(Cm.count_any r k A l c h hh hU _ ((Rd.below HS H.below).more (Below.size H.below))).mono ?_;rintro e w1⟨rfl,hb1⟩;go_wp2;go_ret;exact⟨rfl,(H.call hb1).below⟩
theorem La(f:Int)(A:Option jG)(l:Hi.jX)(c:Nat)(h:Int)(hh:U h)(hU:Hi.oT l)(hl:l.length≤1000)(w:jC)(hS:Hi.Sb w w A l):jE Tryz.prog 342 #[.agg #[jJ f,jN A l c],jK h] w fun e w'=>e=.returned (.int .u64 (Hi.pF f l h))∧Below w w w':=by
 have H:=ah ((Hold.nil w).alloc w 300 [jJ f,jN A l c]);have HS:=ah hS;go_in;go_wp2_with fail;refine(Hi.P4 f A l c h hh hU jS _ ((Rd.below HS H.below).more (Below.size H.below))).mono ?_;rintro e w1⟨rfl,hb1⟩;go_wp2;go_ret;exact⟨rfl,(H.call hb1).below⟩
theorem Gl(A:Option jG)(l:List Int)(c:Nat)(hl:l.length≤1000)(w:jC):jE Tryz.prog 285 #[dD A l c] w fun e w'=>e=.returned (.int .i64 (8*(l.length:Int)))∧Below w w w':=by
 have H:=ah ((Hold.nil w).alloc w 294 [jN A l c]);have hw:IntKind.i64.wrap (8*(l.length:Int))=8*(l.length:Int):=dv _ (by omega);go_in;go_wp2;go_ret;exact⟨rfl,H.below⟩
theorem Gd(b:Int)(s:ByteArray)(hl:s.size≤1000)(w:jC):jE Tryz.prog 314 #[cO b s] w fun e w'=>e=.returned (.int .i64 (s.size:Int))∧Below w w w':=by
 have H:=ah ((Hold.nil w).alloc w 297 [jJ b,jL s]);go_in;go_wp2;go_ret;exact⟨rfl,H.below⟩
theorem Ii(r k:Int)(A:Option jG)(l:List Int)(c:Nat)(hl:l.length≤1000)(w:jC):jE Tryz.prog 324 #[bR r k A l c] w fun e w'=>e=.returned (.int .i64 (8*(l.length:Int)))∧Below w w w':=by
 have H:=ah ((Hold.nil w).alloc w 298 [jJ r,jJ k,jN A l c]);have hw:IntKind.i64.wrap (8*(l.length:Int))=8*(l.length:Int):=dv _ (by omega);go_in;go_wp2;go_ret;exact⟨rfl,H.below⟩
theorem Iq(f:Int)(A:Option jG)(l:Hi.jX)(c:Nat)(hl:l.length≤1000)(w:jC):jE Tryz.prog 343 #[.agg #[jJ f,jN A l c]] w fun e w'=>e=.returned (.int .i64 (16*(l.length:Int)))∧Below w w w':=by
 have H:=ah ((Hold.nil w).alloc w 300 [jJ f,jN A l c]);have hw:IntKind.i64.wrap (16*(l.length:Int))=16*(l.length:Int):=dv _ (by omega);go_in;go_wp2;go_ret;exact⟨rfl,H.below⟩
structure SbC(x0:List Int) where
def bC(x0:List Int):SbC x0:=⟨⟩
instance(x0:List Int):CoeOut (SbC x0) (List Nat):=⟨fun _=>Hl.mx 7 (de (2^7) 0) x0⟩
instance(x0:Nat)(x1:List Nat):CoeOut (wU 14 x0 x1) Sk:=⟨fun _=>⟨1,8-x0,[],x0,Hl.bs x1,0,0,[],0,[]⟩⟩
structure SbM(x0:List Int) where
def bM(x0:List Int):SbM x0:=⟨⟩
instance(x0:List Int):CoeOut (SbM x0) Sk:=⟨fun _=>⟨1,0,x0,0,⟨#[]⟩,0,0,[],0,[]⟩⟩
instance(x0:Nat)(x1:Nat)(x2:List Int):CoeOut (IP 22 x0 x1 x2) Sk:=⟨fun _=>⟨2,x0,[],0,⟨#[]⟩,2,x1,x2,0,[]⟩⟩
namespace Hi
theorem X8{f v:Nat}(hf:f≤3)(hv:v<18446744073709551616):∃lo hi,bnd f (bk f v)=some (lo,hi):=by
 by_cases h8:v<8
 ·have:∀f,f<4→∀v,v<8→(bnd f (bk f v)).isSome=true:=TO;obtain⟨q,hq⟩:=Option.isSome_iff_exists.1 (this f jS v h8);exact⟨q.1,q.2,hq⟩
 have h0:v≠0:=jS;have hL:3≤v.log2:=(Nat.le_log2 h0).2 jS;have hL2:=uu hv;have hfr:=We f v h0;have e:bk f v-1=fr f v+v.log2*2^f:=by unfold bk;rw[if_neg h0];omega
 have e1:(bk f v-1)/2^f=v.log2:=by
  rw[e,Nat.add_mul_div_right _ _ (ee f),Nat.div_eq_of_lt hfr,au]
 unfold bnd;rw[if_neg (by unfold bk;rw[if_neg h0];omega),e1,if_neg jS,if_pos jS];exact⟨_,_,rfl⟩
variable{f a:Int}
theorem XC(h:(lx f a).2.2=true):0≤a:=by
 unfold lx at h;split at h
 ·rename_i h1;exact h1.2
 cases h
variable{l:jX}
theorem tD(h:Rt f l):kg f l=true:=by
 unfold kg;rw[h.fine,eF];refine dZ.2 fun k hk=>?_;have hk':=dh.1 hk;have hm:=EY hk';unfold okI;have h1:=h.nz _ hm;have h2:=h.has _ hm;have h3:S9 l k<(mC l k).1:=by
  unfold S9;split
  ·have:=XC h2;omega
  exact LN h.rise jS hk'
 rw[h2];simp[h1,h3]
theorem AN{v:Int}(hf:ld f=true)(hv:U v):(lx f (lj f v)).2.2=true:=by
 obtain⟨h1,h2⟩:=qZ hf;obtain⟨u1,u2⟩:=hv;obtain⟨F,rfl⟩:=fm h1;obtain⟨V,rfl⟩:=fm u1;obtain⟨lo,hi,hb⟩:=X8 (show F≤3 by omega) (show V<18446744073709551616 by omega);rw[yN jS,yO jS,hb]
variable{n:Int}
theorem OM{x:Int×Int}(h:x∈qa l a n):x.1=a∨∃z∈l,z.1=x.1:=by
 unfold qa at h;split at h
 ·exact .inr ⟨x,h,rfl⟩
 exact rF h
theorem Sw(h:oT l)(ha:I64 a)(hn:U n):oT (qa l a n):=by
 unfold qa;split
 ·exact h
 exact Ac h ha hn
variable{L:jX}
theorem WV{v:Int}(h:Rt f L)(hu:UB L)(hv:U v)(hn:U n):Rt f (qa L (lj f v) n):=
 ⟨h.fine,by unfold qa;split;exact h.rise;exact ul h.rise,by unfold qa;split;exact h.nz;rename_i e;exact ze hu h.nz hn e,fun x hx=>by
  rcases OM hx with e|⟨z,hz,e⟩
  ·rw[e];exact AN h.fine hv
  rw[←e];exact h.has z hz⟩
theorem EI{f:Int}:∀(M L:jX),(∀y∈L,(lx f y.1).2.2=true)→(∀y∈M,(lx f y.1).2.2=true)→∀y∈ku L M,(lx f y.1).2.2=true
 |[],L,hL,_,y,hy=>hL y hy
 |z::M,L,hL,hM,y,hy=>EI M (mY L z.1 z.2) (fun q hq=>by
  rcases rF hq with e|⟨r,hr,e⟩
  ·rw[e];exact hM z lV
  rw[←e];exact hL r hr) (fun q hq=>hM q (by simp[hq])) y hy
theorem WT{M:jX}(h:Rt f L)(k:Rt f M)(hu:UB L)(hm:UB M):Rt f (ku L M):=
 ⟨h.fine,oF h.rise,rG hu hm h.nz k.nz,EI M L h.has k.has⟩
theorem WU(h:Rt f L)(hu:oT L)(hf:ld (f-1)=true):Rt (f-1) (ku [] (L.map (uG f))):=
 ⟨hf,oF List.Pairwise.nil,rG (fun _ h=>WY) (wq hu).ub (fun _ h=>WY) (L9 h.nz),EI _ _ (fun _ h=>WY) fun y hy=>by
  obtain⟨x,hx,rfl⟩:=dq.1 hy;exact AN hf (xW f x.1).1⟩
theorem tz:∀(l:jX)(lo hi:Int),ou l→(∀x∈l,lo≤x.1∧x.1≤hi)→lo≤hi+1→(l.length:Int)≤hi+1-lo
 |[],lo,hi,_,_,h=>mO
 |x::l,lo,hi,hr,hb,h=>by
  obtain⟨h1,h2⟩:=b6.1 hr;have hx:=hb x lV;have:=tz l (x.1+1) hi h2 (fun y hy=>⟨by have:=h1 y hy;omega,(hb y (by simp[hy])).2⟩) jS;simp only[c_];omega
theorem zV(h:Rt f l):l.length≤1000:=by
 have hb:∀x∈l,0≤x.1∧x.1≤512:=fun x hx=>by
  have:=h.has x hx;unfold lx at this;obtain⟨f1,f2⟩:=qZ h.fine;split at this
  ·rename_i q;refine⟨q.2,?_⟩
   cases hq:bnd f.toNat x.1.toNat with
   |none=>rw[hq]at this;cases this
   |some p=>
    have h1:=So hq;have h2:2^f.toNat≤2^3:=ep B8 jS;omega
  cases this
 have:=tz l 0 512 h.rise hb jS;omega
end Hi
theorem Cm.rE{r c:Int}{n:Nat}(h:Cm.mX r c=true)(e:(n:Int)=r*c):Cm.kP r c n=true:=by simp[Cm.kP,h,e]
inductive GK:Sk→Prop
 |num (e:List Int) (hr:Ex.kg e=true) (hu:Us e):GK (bM e)
 |reg (b:Nat) (l:List Nat) (h4:4≤b) (h7:b≤7) (hr:Hl.kD b l=true):GK (lI 14 b l)
 |cnt (lv C:Nat) (c:List Int) (h3:lv≤3) (hC:C=32/2^lv) (hr:Cm.kP 2 C c.length=true) (hu:Us c):GK (oZ 22 lv C c)
 |zB (lv:Nat) (g:Hi.jX) (h3:lv≤3) (hr:Hi.kg (3-lv) g=true) (hu:Hi.oT g):GK ⟨3,lv,[],0,⟨#[]⟩,0,0,[],3-lv,g⟩
theorem oA(l:List Nat):(Hl.bs l).size=l.length:=by show(l.map gH).toArray.size=_;simp
variable{s:Sk}
theorem GK.fit(h:GK s):t8 s:=by
 have hu:Hi.oT []:=fun x hx=>by simp at hx
 have z:Hi.I64 0:=by unfold Hi.I64;omega
 have z0:(⟨#[]⟩:ByteArray).size≤1000:=B8
 cases h with
 |num e hr hu2=>have:=(Ex.mS.1 hr).1;exact⟨by show e.length≤_;omega,lV,lV,z0,hu,qus,z,z,z,z,z⟩
 |reg b l h4 h7 hr=>
  obtain⟨_,_,hl,_⟩:=Hl.oc hr;have:2^b≤2^7:=ep B8 h7;exact⟨lV,lV,lV,by rw[oA,hl];omega,hu,qus,qus,qus,z,z,z⟩
 |cnt lv C c h3 hC hr hu2=>
  have hc:=(Cm.lh hr).2;have:C≤32:=by rw[hC];exact Nat.div_le_self _ _
  exact⟨lV,by show c.length≤_;omega,lV,z0,hu,qus,qus,z,qus,qus,z⟩
 |zB lv g h3 hr hu2=>exact⟨lV,lV,Hi.zV (Hi.pS hr),z0,hu2,qus,qus,z,z,z,qus⟩
theorem GK.right(h:GK s):r4 s=true:=by
 cases h with
 |num e hr hu=>simp[r4,S7,uU,kN,kn,hr]
 |reg b l h4 h7 hr=>
  have hb:=sR l (Hl.kU hr);have h0:¬((8:Int)-b=0):=jS;have h1:(0:Int)≤8-b:=jS;have h2:(8:Int)-b≤4:=jS;simp[r4,S7,uU,kN,kn,hb,hr,h0,h1,h2];omega
 |cnt lv C c h3 hC hr hu=>
  have h2:(lv:Int)≤3:=jS;have h1:(32:Int)/2^lv=C:=by rw[hC];simp
  simp[r4,S7,uU,kN,kn,hr,h2,h1]
 |zB lv g h3 hr hu=>
  have h2:(lv:Int)≤3:=jS;simp[r4,S7,uU,kN,kn,hr,h2]
def mG(s:Sk):Sk:=
 if s.kind=1 then
  if s.level=0 then⟨1,1,[],(Hl.JQ 7 s.e).b,Hl.bs (Hl.JQ 7 s.e).l,0,0,[],0,[]⟩
  else⟨1,s.level+1,[],(Hl.lR s.bits (lQ s.regs)).b,Hl.bs (Hl.lR s.bits (lQ s.regs)).l,0,0,[],0,[]⟩
 else if s.kind=2 then⟨2,s.level+1,[],0,⟨#[]⟩,(Cm.mm ⟨s.rows,s.cols,s.c⟩).1.r,(Cm.mm ⟨s.rows,s.cols,s.c⟩).1.c,(Cm.mm ⟨s.rows,s.cols,s.c⟩).1.l,0,[]⟩
 else⟨3,s.level+1,[],0,⟨#[]⟩,0,0,[],(Hi.lR s.fine s.g).1,(Hi.lR s.fine s.g).2.1⟩
theorem T7(e:List Int):Hl.JQ 7 e=⟨(7:Nat),bC e,0⟩:=by rw[Hl.JQ,if_pos B8];rfl
theorem pZ{B:Nat}(h3:3≤B)(h8:B≤8)(ns:List Int):Hl.kD B (Hl.mx B (lz 63 B) ns)=true:=
 Hl.rE h3 h8 (by rw[Hl.ox,ey]) ((Hl.r7 B _).mx h3 h8 ns)
variable{b:Nat}{l:List Nat}
theorem CZ(h4:4≤b)(hr:Hl.kD b l=true):Hl.lR b l=⟨((b-1:Nat):Int),Hl.qy (b-1) l,0⟩∧Hl.kD ((b-1:Nat):Int) (Hl.qy (b-1) l)=true:=by
 obtain⟨h3,h8,hl,hk⟩:=Hl.oc hr;refine⟨by rw[Hl.lR,if_pos ⟨hr,jS⟩];simp;omega,Hl.rE jS jS ?_ ?_⟩
 ·unfold Hl.qy;rw[Hl.C7,ey]
 have e:b-1+1=b:=jS;exact Hl.Ranks.lw (B:=b-1) (by rw[e];exact hk) jS (Hl.r7 _ _) _
theorem uW(h:GK s)(hl:s.level<kn s.kind):GK (mG s)∧(mG s).kind=s.kind∧(mG s).level=s.level+1:=by
 cases h with
 |num e hr hu=>
  refine⟨?_,rfl,rfl⟩;have:mG (bM e)=⟨1,8-((7:Nat):Int),[],((7:Nat):Int),Hl.bs (bC e),0,0,[],0,[]⟩:=by
   simp[mG,T7]
  rw[this];exact GK.reg 7 _ jS jS (pZ jS jS e)
 |reg b l h4 h7 hr=>
  have h0:¬((8:Int)-b=0):=jS;have h5:5≤b:=by simp[kn]at hl;omega
  obtain⟨e1,e2⟩:=CZ jS hr;have hb:=sR l (Hl.kU hr);have:mG (lI 14 b l)=⟨1,8-((b-1:Nat):Int),[],((b-1:Nat):Int),Hl.bs (Hl.qy (b-1) l),0,0,[],0,[]⟩:=by
   simp only[mG,hb,e1,if_true,if_neg h0];congr 1;omega
  refine⟨by rw[this];exact GK.reg (b-1) _ jS jS e2,by rw[this],by rw[this];simp only;omega⟩
 |cnt lv C c h3 hC hr hu=>
  have h2:lv<3:=by simp[kn]at hl;omega
  have hc4:(C:Int)≠4∧C/2=32/2^(lv+1)∧(C=8∨C=16∨C=32):=by
   rcases(by omega:lv=0∨lv=1∨lv=2)with rfl|rfl|rfl<;>simp at hC<;>subst hC<;>decide
  have e1:Cm.mm ⟨2,C,c⟩=(⟨2,((C/2:Nat):Int),Cm.lL (fun p _=>Cm.AO (((C:Int)/2)).toNat c p) (de (2*((C:Int)/2)).toNat 0) (bu (2*((C:Int)/2)).toNat)⟩,0):=by
   rw[Cm.mm,if_pos ⟨hr,hc4.1⟩];simp
  have e2:(2*((C:Int)/2)).toNat=2*(C/2):=jS;have:mG (oZ 22 lv C c)=⟨2,((lv+1:Nat):Int),[],0,⟨#[]⟩,2,((C/2:Nat):Int),Cm.lL (fun p _=>Cm.AO (((C:Int)/2)).toNat c p) (de (2*((C:Int)/2)).toNat 0) (bu (2*((C:Int)/2)).toNat),0,[]⟩:=by
   simp[mG,e1]
  refine⟨?_,by rw[this],by rw[this];simp⟩;rw[this];refine GK.cnt (lv+1) (C/2) _ jS hc4.2.1 (Cm.rE ?_ ?_) ?_
  ·rcases hc4.2.2 with e|e|e<;>rw[e]<;>decide
  ·rw[Cm.mT,ey,e2];omega
  refine Us.lL (fun p o _=>?_) fun x hx=>by rw[gh hx];exact⟨by show(0:Int)≤0;omega,by show(0:Int)≤_;omega⟩
  have q:∀k,U (nth c k):=fun k=>rI hu k;exact Cm.uQ (q _).1 (q _).1
 |zB lv g h3 hr hu=>
  have h2:lv<3:=by simp[kn]at hl;omega
  have hf:Hi.ld (3-(lv:Int)-1)=true:=by simp[Hi.ld];omega
  have e1:Hi.lR (3-(lv:Int)) g=(3-(lv:Int)-1,Hi.ku [] (g.map (Hi.uG (3-lv))),0):=by rw[Hi.lR,if_pos ⟨hr,hf⟩]
  have:mG ⟨3,lv,[],0,⟨#[]⟩,0,0,[],3-lv,g⟩=⟨3,((lv+1:Nat):Int),[],0,⟨#[]⟩,0,0,[],3-((lv+1:Nat):Int),Hi.ku [] (g.map (Hi.uG (3-lv)))⟩:=by
   simp[mG,e1];omega
  refine⟨?_,by rw[this],by rw[this];simp⟩;rw[this];refine GK.zB (lv+1) _ jS ?_ (Hi.qo (fun _ h=>WY) (Hi.wq hu));have:=Hi.tD (Hi.WU (Hi.pS hr) hu hf);rw[show(3:Int)-((lv+1:Nat):Int)=3-lv-1 by omega];exact this
def nQ(s:Sk)(h n:Int):Sk:=
 if s.kind=1 then
  if s.level=0 then⟨1,0,Ex.kp s.e [h],0,⟨#[]⟩,0,0,[],0,[]⟩
  else⟨1,s.level,[],(Hl.pc s.bits (lQ s.regs) h.toNat).b,Hl.bs (Hl.pc s.bits (lQ s.regs) h.toNat).l,0,0,[],0,[]⟩
 else if s.kind=2 then⟨2,s.level,[],0,⟨#[]⟩,(Cm.xX ⟨s.rows,s.cols,s.c⟩ h n).1.r,(Cm.xX ⟨s.rows,s.cols,s.c⟩ h n).1.c,(Cm.xX ⟨s.rows,s.cols,s.c⟩ h n).1.l,0,[]⟩
 else⟨3,s.level,[],0,⟨#[]⟩,0,0,[],(Hi.pc s.fine s.g h n).1,(Hi.pc s.fine s.g h n).2.1⟩
def qY(s:Sk)(h:Int):Bool:=decide (s.kind=1∧s.level=0∧64<(Ex.kp s.e [h]).length)
def wQ(s:Sk)(h n:Int):Sk:=if qY s h=true then nQ (mG s) h n else nQ s h n
def p7(s t:Sk):Sk:=
 if s.kind=1 then
  if s.level=0 then⟨1,0,Ex.kp s.e t.e,0,⟨#[]⟩,0,0,[],0,[]⟩
  else⟨1,s.level,[],(Hl.l8 s.bits (lQ s.regs) t.bits (lQ t.regs)).b,Hl.bs (Hl.l8 s.bits (lQ s.regs) t.bits (lQ t.regs)).l,0,0,[],0,[]⟩
 else if s.kind=2 then⟨2,s.level,[],0,⟨#[]⟩,(Cm.ni ⟨s.rows,s.cols,s.c⟩ ⟨t.rows,t.cols,t.c⟩).1.r,(Cm.ni ⟨s.rows,s.cols,s.c⟩ ⟨t.rows,t.cols,t.c⟩).1.c,(Cm.ni ⟨s.rows,s.cols,s.c⟩ ⟨t.rows,t.cols,t.c⟩).1.l,0,[]⟩
 else⟨3,s.level,[],0,⟨#[]⟩,0,0,[],(Hi.l8 s.fine s.g t.fine t.g).1,(Hi.l8 s.fine s.g t.fine t.g).2.1⟩
def qu(s t:Sk):Bool:=decide (s.kind=1∧s.level=0∧64<(Ex.kp s.e t.e).length)
def sW:Nat→Sk→Sk
 |0,s=>s
 |k+1,s=>sW k (mG s)
def mZ(s t:Sk):Sk:=
 let a:=sW (max s.level t.level-s.level).toNat s
 let b:=sW (max s.level t.level-t.level).toNat t
 if qu a b=true then p7 (mG a) (mG b)else p7 a b
def nC(k:Int):Sk:=if k=1 then⟨1,0,[],0,⟨#[]⟩,0,0,[],0,[]⟩else if k=2 then⟨2,0,[],0,⟨#[]⟩,2,32,de 64 0,0,[]⟩else⟨3,0,[],0,⟨#[]⟩,0,0,[],3,[]⟩
def wM(s:Sk):Int:=if s.kind=1 then(if s.level=0 then 8*(s.e.length:Int)else(s.regs.size:Int))else if s.kind=2 then 8*(s.c.length:Int)else 16*(s.g.length:Int)
def rt(s:Sk)(h:Int):Int:=if s.kind=1 then(if s.level=0 then Ex.cnt s.e else((Hl.vH s.bits (lQ s.regs):Nat):Int))else if s.kind=2 then Cm.qE ⟨s.rows,s.cols,s.c⟩ h else Hi.pF s.fine s.g h
theorem u0:U 0:=⟨by show(0:Int)≤0;omega,by show(0:Int)≤_;omega⟩
theorem wj{k:Int}(h:1≤k∧k≤3):GK (nC k)∧(nC k).kind=k∧(nC k).level=0:=by
 rcases(by omega:k=1∨k=2∨k=3)with rfl|rfl|rfl
 ·exact⟨GK.num [] B8 (fun _ h=>WY),rfl,rfl⟩
 ·exact⟨GK.cnt 0 32 _ jS rfl B8 (fun x hx=>by rw[gh hx];exact u0),rfl,rfl⟩
 exact⟨GK.zB 0 [] jS B8 (fun _ h=>WY),rfl,rfl⟩
theorem xh:∀{m l:List Int},Us l→Us m→Us (Ex.kp l m)
 |[],_,h,_=>h
 |x::m,l,h,hm=>by
  have hi:Us (Ex.ins l x):=by
   unfold Ex.ins;split
   ·exact h
   intro y hy;rcases ed.1 hy with hy|hy
   ·exact h y (dy hy)
   rcases cw.1 hy with rfl|hy
   ·exact hm y lV
   exact h y (eJ hy)
  exact xh (m:=m) hi fun y hy=>hm y (by simp[hy])
theorem E5(n:Nat)(hr:Hl.kD b l=true):Hl.pc b l n=⟨(b:Int),Hl.uK b l n,0⟩∧Hl.kD b (Hl.uK b l n)=true:=by
 obtain⟨h3,h8,hl,hk⟩:=Hl.oc hr;exact⟨by rw[Hl.pc,if_pos hr];simp,Hl.rE h3 h8 (by rw[Hl.tP,hl]) (hk.add h3 h8 n)⟩
theorem xH{m:List Nat}(hr:Hl.kD b l=true)(hm:Hl.kD b m=true):Hl.l8 b l b m=⟨(b:Int),Hl.rk l m,0⟩∧Hl.kD b (Hl.rk l m)=true:=by
 obtain⟨h3,h8,hl,hk⟩:=Hl.oc hr;exact⟨by rw[Hl.l8,if_pos ⟨hr,hm,rfl⟩],Hl.rE h3 h8 (by unfold Hl.rk;rw[Hl.si,hl]) (Hl.Ranks.mrg hk (Hl.oc hm).2.2.2 _)⟩
variable{c:List Int}{n:Int}
theorem MK{C:Nat}(hr:Cm.kP 2 C c.length=true)(hu:Us c)(hn:U n):∃c',Cm.xX ⟨2,C,c⟩ h n=(⟨2,C,c'⟩,0)∧c'.length=c.length∧Us c':=
 ⟨_,by rw[Cm.xX,if_pos hr],Cm.mT _ _ _,Us.lL (fun p o ho=>Cm.uQ ho.1 hn.1) hu⟩
theorem CY{C:Nat}{d:List Int}(hr:Cm.kP 2 C c.length=true)(hd:Cm.kP 2 C d.length=true)(hu:Us c)(hv:Us d):∃c',Cm.ni ⟨2,C,c⟩ ⟨2,C,d⟩=(⟨2,C,c'⟩,0)∧c'.length=c.length∧Us c':=
 ⟨_,by rw[Cm.ni,if_pos ⟨hr,hd,rfl,rfl⟩],Cm.mT _ _ _,Us.lL (fun p o ho=>Cm.uQ ho.1 (rI hv p).1) hu⟩
variable{f:Int}
theorem IJ{g:Hi.jX}(hr:Hi.kg f g=true)(hu:Hi.oT g)(hh:U h)(hn:U n):Hi.pc f g h n=(f,Hi.qa g (Hi.lj f h) n,0)∧Hi.kg f (Hi.qa g (Hi.lj f h) n)=true∧Hi.oT (Hi.qa g (Hi.lj f h) n):=
 ⟨by rw[Hi.pc,if_pos hr],Hi.tD (Hi.WV (Hi.pS hr) hu.ub hh hn),Hi.Sw hu (Hi.q_ f hh) hn⟩
theorem Ar{g m:Hi.jX}(hr:Hi.kg f g=true)(hm:Hi.kg f m=true)(hu:Hi.oT g)(hv:Hi.oT m):Hi.l8 f g f m=(f,Hi.ku g m,0)∧Hi.kg f (Hi.ku g m)=true∧Hi.oT (Hi.ku g m):=
 ⟨by rw[Hi.l8,if_pos ⟨hr,hm,rfl⟩],Hi.tD (Hi.WT (Hi.pS hr) (Hi.pS hm) hu.ub hv.ub),Hi.qo hu hv⟩
theorem E6(h:GK s){x:Int}(hx:U x)(hn:U n)(hf:qY s x=false):GK (nQ s x n)∧(nQ s x n).kind=s.kind∧(nQ s x n).level=s.level:=by
 cases h with
 |num e hr hu=>
  refine⟨GK.num _ (Ex.mS.2 ⟨?_,Ex.pY (Ex.mS.1 hr).2 _⟩) (xh hu fun y hy=>by simp at hy;rw[hy];exact hx),rfl,rfl⟩;simp[qY]at hf;exact hf
 |reg b l h4 h7 hr=>
  obtain⟨e1,e2⟩:=E5 x.toNat hr;have h0:¬((8:Int)-b=0):=jS;have:nQ (lI 14 b l) x n=⟨1,8-b,[],b,Hl.bs (Hl.uK b l x.toNat),0,0,[],0,[]⟩:=by simp only[nQ,sR l (Hl.kU hr),e1,if_true,if_neg h0]
  rw[this];exact⟨GK.reg b _ h4 h7 e2,rfl,rfl⟩
 |cnt lv C c h3 hC hr hu=>
  obtain⟨c',e1,e2,e3⟩:=MK (h:=x) hr hu hn;have:nQ (oZ 22 lv C c) x n=(oZ 22 lv C c'):=by simp[nQ,e1]
  rw[this];exact⟨GK.cnt lv C _ h3 hC (e2▸hr) e3,rfl,rfl⟩
 |zB lv g h3 hr hu=>
  obtain⟨e1,e2,e3⟩:=IJ (h:=x) (n:=n) hr hu hx hn;have:nQ ⟨3,lv,[],0,⟨#[]⟩,0,0,[],3-lv,g⟩ x n=⟨3,lv,[],0,⟨#[]⟩,0,0,[],3-lv,Hi.qa g (Hi.lj (3-lv) x) n⟩:=by simp[nQ,e1]
  rw[this];exact⟨GK.zB lv _ h3 e2 e3,rfl,rfl⟩
theorem RF(hf:qY s h=true):s.kind=1∧s.level=0:=by simp[qY]at hf;exact⟨hf.1,hf.2.1⟩
theorem Wk(h:GK s){x:Int}(hx:U x)(hn:U n):GK (wQ s x n)∧(wQ s x n).kind=s.kind:=by
 unfold wQ;split
 ·rename_i hf;obtain⟨k,l⟩:=RF hf;obtain⟨g1,g2,g3⟩:=uW h (by rw[k,l];decide);have:=E6 g1 hx hn (by simp[qY,g3,l]);exact⟨this.1,this.2.1.trans g2⟩
 rename_i hf;have:=E6 h hx hn (by simpa using hf);exact⟨this.1,this.2.1⟩
theorem Jd:∀(k:Nat){s:Sk},GK s→s.level+k≤kn s.kind→GK (sW k s)∧(sW k s).kind=s.kind∧(sW k s).level=s.level+k
 |0,s,h,_=>⟨h,rfl,by simp[sW]⟩
 |k+1,s,h,hl=>by
  obtain⟨g1,g2,g3⟩:=uW h jS;obtain⟨r1,r2,r3⟩:=Jd k g1 (by rw[g2,g3];omega);exact⟨r1,r2.trans g2,by rw[show sW (k+1) s=sW k (mG s)from rfl,r3,g3];omega⟩
theorem JZ{t:Sk}(h:GK s)(ht:GK t)(hk:s.kind=t.kind)(hl:s.level=t.level)(hf:qu s t=false):GK (p7 s t)∧(p7 s t).kind=s.kind∧(p7 s t).level=s.level:=by
 cases h with
 |num e hr hu=>
  cases ht with
  |num e2 hr2 hu2=>
   refine⟨GK.num _ (Ex.mS.2 ⟨?_,Ex.pY (Ex.mS.1 hr).2 _⟩) (xh hu hu2),rfl,rfl⟩;simp[qu]at hf;exact hf
  |reg b l h4 h7=>simp only at hl;omega
  |cnt=>simp at hk
  |zB=>simp at hk
 |reg b l h4 h7 hr=>
  cases ht with
  |num=>simp only at hl;omega
  |reg b2 m h42 h72 hr2=>
   obtain rfl:b=b2:=by simp only at hl;omega
   obtain⟨e1,e2⟩:=xH hr hr2;have h0:¬((8:Int)-b=0):=jS;have:p7 (lI 14 b l) (lI 14 b m)=⟨1,8-b,[],b,Hl.bs (Hl.rk l m),0,0,[],0,[]⟩:=by simp only[p7,sR l (Hl.kU hr),sR m (Hl.kU hr2),e1,if_true,if_neg h0]
   rw[this];exact⟨GK.reg b _ h4 h7 e2,rfl,rfl⟩
  |cnt=>simp at hk
  |zB=>simp at hk
 |cnt lv C c h3 hC hr hu=>
  cases ht with
  |num=>simp at hk
  |reg=>simp at hk
  |cnt Xj C2 d h32 hC2 hr2 hu2=>
   obtain rfl:lv=Xj:=by simp only at hl;omega
   obtain rfl:C=C2:=hC.trans hC2.symm;obtain⟨c',e1,e2,e3⟩:=CY hr hr2 hu hu2;have:p7 (oZ 22 lv C c) (oZ 22 lv C d)=(oZ 22 lv C c'):=by simp[p7,e1]
   rw[this];exact⟨GK.cnt lv C _ h3 hC (e2▸hr) e3,rfl,rfl⟩
  |zB=>simp at hk
 |zB lv g h3 hr hu=>
  cases ht with
  |num=>simp at hk
  |reg=>simp at hk
  |cnt=>simp at hk
  |zB Xj m h32 hr2 hu2=>
   obtain rfl:lv=Xj:=by simp only at hl;omega
   obtain⟨e1,e2,e3⟩:=Ar hr hr2 hu hu2;have:p7 ⟨3,lv,[],0,⟨#[]⟩,0,0,[],3-lv,g⟩ ⟨3,lv,[],0,⟨#[]⟩,0,0,[],3-lv,m⟩=⟨3,lv,[],0,⟨#[]⟩,0,0,[],3-lv,Hi.ku g m⟩:=by simp[p7,e1]
   rw[this];exact⟨GK.zB lv _ h3 e2 e3,rfl,rfl⟩
theorem sI(h:GK s):0≤s.level∧s.level≤kn s.kind∧1≤s.kind∧s.kind≤3:=by
 obtain⟨k1,k2,l1,l2,_⟩:=v_ h.right;exact⟨l1,l2,k1,k2⟩
theorem Ei{t:Sk}(h:GK s)(ht:GK t)(hk:s.kind=t.kind):GK (mZ s t)∧(mZ s t).kind=s.kind:=by
 have l1:=sI h;have l2:=sI ht;rw[←hk]at l2;obtain⟨a1,a2,a3⟩:=Jd (max s.level t.level-s.level).toNat h jS;obtain⟨b1,b2,b3⟩:=Jd (max s.level t.level-t.level).toNat ht (by rw[←hk];omega);unfold mZ;generalize sW (max s.level t.level-s.level).toNat s=a at*
 generalize sW (max s.level t.level-t.level).toNat t=b at*
 have ek:a.kind=b.kind:=by rw[a2,b2,hk]
 have el:a.level=b.level:=by rw[a3,b3];omega
 simp only;split
 ·rename_i hf;have hf':a.kind=1∧a.level=0:=by simp[qu]at hf;exact⟨hf.1,hf.2.1⟩
  obtain⟨c1,c2,c3⟩:=uW a1 (by rw[hf'.1,hf'.2];decide);obtain⟨d1,d2,d3⟩:=uW b1 (by rw[←ek,←el,hf'.1,hf'.2];decide);have:=JZ c1 d1 (by rw[c2,d2,ek]) (by rw[c3,d3,el]) (by simp[qu,c3,hf'.2]);exact⟨this.1,by rw[this.2.1,c2,a2]⟩
 rename_i hf;have:=JZ a1 b1 ek el (by simpa using hf);exact⟨this.1,this.2.1.trans a2⟩
end Go.Proofs.YtfcnedcahoifoaaGreatDoor

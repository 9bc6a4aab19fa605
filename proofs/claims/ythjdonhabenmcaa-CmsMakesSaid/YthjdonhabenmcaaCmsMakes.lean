/-
  The walk of the law aviarylaw08.CmsMakes: call by call, each callee by its contract.
-/
import Derived.Test.YthjdonhabenmcaaCmsShown
import Derived.Test.YthjdonhabenmcaaCmsLaws
import Derived.Test.YthjdonhabenmcaaCmsRAdd
import Derived.Test.YthjdonhabenmcaaCmsRCount
import Derived.Test.YthjdonhabenmcaaQuiet
namespace Go.Proofs.Ythjdonhabenmcaa
open Go.RowKit
set_option linter.unusedVariables false
theorem right_b (r c : Int) (A : Option Addr) (n cap : Nat) (w : World) : Calls Try.prog 16 #[.agg #[.int .i64 r, .int .i64 c, .slice A n cap]] w fun e w' => e = .returned (.bool (rightC r c n)) ∧ Below w.heap.size w w' :=
  (right_any r c A n cap w).mono fun _ _ ⟨he, hw⟩ => ⟨he, by rw [← hw]; exact below_al (below_0 _) _⟩
theorem rright_b (r c : Int) (A : Option Addr) (n cap : Nat) (w : World) : Calls Try.prog 17 #[.agg #[.int .i64 r, .int .i64 c, .slice A n cap]] w fun e w' => e = .returned (.bool (rightC r c n)) ∧ Below w.heap.size w w' :=
  (rright_any r c A n cap w).mono fun _ _ ⟨he, hw⟩ => ⟨he, by rw [← hw]; exact below_al (below_0 _) _⟩
set_option maxHeartbeats 4000000 in
theorem makes_walk (w : World) (r c : Int) (nx capx : Nat) (ax : Option Addr) (x0 : List Int) (hU : Us x0) (rows cols h n : Int) (hh : U h) (hn : U n) (hslx : Sl w w.heap.size ax x0)
    (hkx : (if (200 : Int) < (nx : Int) then (200 : Int) else (nx : Int)) = (x0.length : Int)) (hqx : x0.length ≤ capx) (hmx : capx ≤ 9223372036854775807) (hx200 : x0.length ≤ 200) :
    Calls Try.prog 3 #[.agg #[.int .i64 r, .int .i64 c, .slice ax nx capx], .int .i64 rows, .int .i64 cols, .int .u64 h, .int .u64 n] w fun e w' => e = .returned (.bool true) ∧ Below w.heap.size w w' := by
  have T : Below w.heap.size w (w.alloc (.cells #[.int .i64 r, .int .i64 c, .slice ax nx capx] 24)) := below_al (below_0 _) _
  have SX := Lib.hid (hslx.later T)
  have X0 := Lib.hid (Blk.new w 24 #[.int .i64 r, .int .i64 c, .slice ax nx capx])
  have HKX := Lib.hid hkx
  clear hslx hkx
  go_enter Try.func3, Try.ntmps3
  go_wp2_with fail
  refine (shown_any _).mono ?_
  rintro e w90 ⟨rfl, hb90⟩
  replace SX := Lib.hid (SX.out.later hb90)
  replace X0 := Lib.hid (X0.out.later hb90)
  replace T := Below.two T hb90
  clear hb90
  have k0X0 := X0.out.c0
  have k1X0 := X0.out.c1
  have k2X0 := X0.out.c2
  have kzX0 := X0.out.lt
  go_wp2_with fail
  refine (few_any _ r c nx capx ax x0 HKX.out hqx hmx).mono ?_
  rintro e w91 ⟨rfl, hb91⟩
  clear k0X0 k1X0 k2X0 kzX0
  replace SX := Lib.hid (SX.out.later hb91)
  replace X0 := Lib.hid (X0.out.later hb91)
  replace T := Below.two T hb91
  clear hb91
  have k0X0 := X0.out.c0
  have k1X0 := X0.out.c1
  have k2X0 := X0.out.c2
  have kzX0 := X0.out.lt
  have f0 := X0.out.frozen 0
  have f1 := X0.out.frozen 1
  have f2 := X0.out.frozen 2
  go_wp2_with fail
  clear k0X0 k1X0 k2X0 kzX0
  clear f0 f1 f2
  replace SX := Lib.hid (sl_turned SX.out X0.out (no_u64 _ _ _ _ _) (grow_set3 w91 w.heap.size (.int .i64 r) (.int .i64 c) (.slice ax x0.length capx)))
  replace T := below_set3 T (Nat.le_refl _) (.int .i64 r) (.int .i64 c) (.slice ax x0.length capx)
  replace X0 := Lib.hid (X0.out.set3 (x := .int .i64 r) (y := .int .i64 c) (z := .slice ax x0.length capx))
  generalize ((w91.setCell ⟨w.heap.size, 0, none⟩ (.int .i64 r)).setCell ⟨w.heap.size, 1, none⟩ (.int .i64 c)).setCell ⟨w.heap.size, 2, none⟩ (.slice ax x0.length capx) = V0 at *
  refine (new_any rows cols _).mono ?_
  rintro e w1 ⟨hb1, v1, rfl, hh1⟩
  obtain ⟨A1, c1, rfl, hc1, hA1, hS1, hF1⟩ := hh1
  replace SX := Lib.hid (SX.out.later hb1)
  replace X0 := Lib.hid (X0.out.later hb1)
  replace T := Below.two T hb1
  obtain ⟨x1, hx1⟩ : ∃ x, newF rows cols = x := ⟨_, rfl⟩
  rw [hx1] at hS1 hc1 ⊢
  have HX1 := Lib.hid hx1
  clear hx1
  have S1 := Lib.hid hS1
  have F1 := Lib.hid hF1
  clear hS1 hF1 hA1 hb1
  have k0X0 := X0.out.c0
  have k1X0 := X0.out.c1
  have k2X0 := X0.out.c2
  have kzX0 := X0.out.lt
  go_wp2_with fail
  clear k0X0 k1X0 k2X0 kzX0
  have X1 := Lib.hid (Blk.new w1 24 #[.int .i64 x1.1.r, .int .i64 x1.1.c, .slice A1 x1.1.l.length c1])
  replace SX := Lib.hid (SX.out.later (below_al (below_0 _) (.cells #[.int .i64 x1.1.r, .int .i64 x1.1.c, .slice A1 x1.1.l.length c1] 24)))
  replace S1 := Lib.hid (S1.out.later (below_al (below_0 _) (.cells #[.int .i64 x1.1.r, .int .i64 x1.1.c, .slice A1 x1.1.l.length c1] 24)))
  replace X0 := Lib.hid (X0.out.alloc (.cells #[.int .i64 x1.1.r, .int .i64 x1.1.c, .slice A1 x1.1.l.length c1] 24))
  replace T := below_al T (.cells #[.int .i64 x1.1.r, .int .i64 x1.1.c, .slice A1 x1.1.l.length c1] 24)
  generalize w1.alloc (.cells #[.int .i64 x1.1.r, .int .i64 x1.1.c, .slice A1 x1.1.l.length c1] 24) = V1 at *
  refine (rnew_any rows cols _).mono ?_
  rintro e w2 ⟨hb2, v2, rfl, hh2⟩
  obtain ⟨A2, c2, rfl, hc2, hA2, hS2, hF2⟩ := hh2
  replace SX := Lib.hid (SX.out.later hb2)
  replace S1 := Lib.hid (S1.out.later hb2)
  replace X0 := Lib.hid (X0.out.later hb2)
  replace X1 := Lib.hid (X1.out.later hb2)
  replace T := Below.two T hb2
  obtain ⟨x2, hx2⟩ : ∃ x, newF rows cols = x := ⟨_, rfl⟩
  rw [hx2] at hS2 hc2 ⊢
  have HX2 := Lib.hid hx2
  clear hx2
  have S2 := Lib.hid hS2
  have F2 := Lib.hid hF2
  clear hS2 hF2 hA2 hb2
  have k0X0 := X0.out.c0
  have k1X0 := X0.out.c1
  have k2X0 := X0.out.c2
  have kzX0 := X0.out.lt
  have k0X1 := X1.out.c0
  have k1X1 := X1.out.c1
  have k2X1 := X1.out.c2
  have kzX1 := X1.out.lt
  go_wp2_with fail
  clear k0X0 k1X0 k2X0 kzX0 k0X1 k1X1 k2X1 kzX1
  have X2 := Lib.hid (Blk.new w2 24 #[.int .i64 x2.1.r, .int .i64 x2.1.c, .slice A2 x2.1.l.length c2])
  replace SX := Lib.hid (SX.out.later (below_al (below_0 _) (.cells #[.int .i64 x2.1.r, .int .i64 x2.1.c, .slice A2 x2.1.l.length c2] 24)))
  replace S1 := Lib.hid (S1.out.later (below_al (below_0 _) (.cells #[.int .i64 x2.1.r, .int .i64 x2.1.c, .slice A2 x2.1.l.length c2] 24)))
  replace S2 := Lib.hid (S2.out.later (below_al (below_0 _) (.cells #[.int .i64 x2.1.r, .int .i64 x2.1.c, .slice A2 x2.1.l.length c2] 24)))
  replace X0 := Lib.hid (X0.out.alloc (.cells #[.int .i64 x2.1.r, .int .i64 x2.1.c, .slice A2 x2.1.l.length c2] 24))
  replace X1 := Lib.hid (X1.out.alloc (.cells #[.int .i64 x2.1.r, .int .i64 x2.1.c, .slice A2 x2.1.l.length c2] 24))
  replace T := below_al T (.cells #[.int .i64 x2.1.r, .int .i64 x2.1.c, .slice A2 x2.1.l.length c2] 24)
  generalize w2.alloc (.cells #[.int .i64 x2.1.r, .int .i64 x2.1.c, .slice A2 x2.1.l.length c2] 24) = V2 at *
  refine (add_any r c ax x0 capx h n hh hn hU _ SX.out).mono ?_
  rintro e w3 ⟨hb3, v3, rfl, hh3⟩
  obtain ⟨A3, c3, rfl, hc3, hA3, hS3, hF3⟩ := hh3
  replace SX := Lib.hid (SX.out.later hb3)
  replace S1 := Lib.hid (S1.out.later hb3)
  replace S2 := Lib.hid (S2.out.later hb3)
  replace X0 := Lib.hid (X0.out.later hb3)
  replace X1 := Lib.hid (X1.out.later hb3)
  replace X2 := Lib.hid (X2.out.later hb3)
  replace T := Below.two T hb3
  obtain ⟨x3, hx3⟩ : ∃ x, addC ⟨r, c, x0⟩ h n = x := ⟨_, rfl⟩
  rw [hx3] at hS3 hc3 ⊢
  have HX3 := Lib.hid hx3
  clear hx3
  have S3 := Lib.hid hS3
  have F3 := Lib.hid hF3
  clear hS3 hF3 hA3 hb3
  have k0X0 := X0.out.c0
  have k1X0 := X0.out.c1
  have k2X0 := X0.out.c2
  have kzX0 := X0.out.lt
  have k0X1 := X1.out.c0
  have k1X1 := X1.out.c1
  have k2X1 := X1.out.c2
  have kzX1 := X1.out.lt
  have k0X2 := X2.out.c0
  have k1X2 := X2.out.c1
  have k2X2 := X2.out.c2
  have kzX2 := X2.out.lt
  go_wp2_with fail
  clear k0X0 k1X0 k2X0 kzX0 k0X1 k1X1 k2X1 kzX1 k0X2 k1X2 k2X2 kzX2
  have X3 := Lib.hid (Blk.new w3 24 #[.int .i64 x3.1.r, .int .i64 x3.1.c, .slice A3 x3.1.l.length c3])
  replace SX := Lib.hid (SX.out.later (below_al (below_0 _) (.cells #[.int .i64 x3.1.r, .int .i64 x3.1.c, .slice A3 x3.1.l.length c3] 24)))
  replace S1 := Lib.hid (S1.out.later (below_al (below_0 _) (.cells #[.int .i64 x3.1.r, .int .i64 x3.1.c, .slice A3 x3.1.l.length c3] 24)))
  replace S2 := Lib.hid (S2.out.later (below_al (below_0 _) (.cells #[.int .i64 x3.1.r, .int .i64 x3.1.c, .slice A3 x3.1.l.length c3] 24)))
  replace S3 := Lib.hid (S3.out.later (below_al (below_0 _) (.cells #[.int .i64 x3.1.r, .int .i64 x3.1.c, .slice A3 x3.1.l.length c3] 24)))
  replace X0 := Lib.hid (X0.out.alloc (.cells #[.int .i64 x3.1.r, .int .i64 x3.1.c, .slice A3 x3.1.l.length c3] 24))
  replace X1 := Lib.hid (X1.out.alloc (.cells #[.int .i64 x3.1.r, .int .i64 x3.1.c, .slice A3 x3.1.l.length c3] 24))
  replace X2 := Lib.hid (X2.out.alloc (.cells #[.int .i64 x3.1.r, .int .i64 x3.1.c, .slice A3 x3.1.l.length c3] 24))
  replace T := below_al T (.cells #[.int .i64 x3.1.r, .int .i64 x3.1.c, .slice A3 x3.1.l.length c3] 24)
  generalize w3.alloc (.cells #[.int .i64 x3.1.r, .int .i64 x3.1.c, .slice A3 x3.1.l.length c3] 24) = V3 at *
  refine (radd_any r c ax x0 capx h n hh hn hU _ SX.out).mono ?_
  rintro e w4 ⟨hb4, v4, rfl, hh4⟩
  obtain ⟨A4, c4, rfl, hc4, hA4, hS4, hF4⟩ := hh4
  replace SX := Lib.hid (SX.out.later hb4)
  replace S1 := Lib.hid (S1.out.later hb4)
  replace S2 := Lib.hid (S2.out.later hb4)
  replace S3 := Lib.hid (S3.out.later hb4)
  replace X0 := Lib.hid (X0.out.later hb4)
  replace X1 := Lib.hid (X1.out.later hb4)
  replace X2 := Lib.hid (X2.out.later hb4)
  replace X3 := Lib.hid (X3.out.later hb4)
  replace T := Below.two T hb4
  obtain ⟨x4, hx4⟩ : ∃ x, addC ⟨r, c, x0⟩ h n = x := ⟨_, rfl⟩
  rw [hx4] at hS4 hc4 ⊢
  have HX4 := Lib.hid hx4
  clear hx4
  have S4 := Lib.hid hS4
  have F4 := Lib.hid hF4
  clear hS4 hF4 hA4 hb4
  have k0X0 := X0.out.c0
  have k1X0 := X0.out.c1
  have k2X0 := X0.out.c2
  have kzX0 := X0.out.lt
  have k0X1 := X1.out.c0
  have k1X1 := X1.out.c1
  have k2X1 := X1.out.c2
  have kzX1 := X1.out.lt
  have k0X2 := X2.out.c0
  have k1X2 := X2.out.c1
  have k2X2 := X2.out.c2
  have kzX2 := X2.out.lt
  have k0X3 := X3.out.c0
  have k1X3 := X3.out.c1
  have k2X3 := X3.out.c2
  have kzX3 := X3.out.lt
  go_wp2_with fail
  clear k0X0 k1X0 k2X0 kzX0 k0X1 k1X1 k2X1 kzX1 k0X2 k1X2 k2X2 kzX2 k0X3 k1X3 k2X3 kzX3
  have X4 := Lib.hid (Blk.new w4 24 #[.int .i64 x4.1.r, .int .i64 x4.1.c, .slice A4 x4.1.l.length c4])
  replace SX := Lib.hid (SX.out.later (below_al (below_0 _) (.cells #[.int .i64 x4.1.r, .int .i64 x4.1.c, .slice A4 x4.1.l.length c4] 24)))
  replace S1 := Lib.hid (S1.out.later (below_al (below_0 _) (.cells #[.int .i64 x4.1.r, .int .i64 x4.1.c, .slice A4 x4.1.l.length c4] 24)))
  replace S2 := Lib.hid (S2.out.later (below_al (below_0 _) (.cells #[.int .i64 x4.1.r, .int .i64 x4.1.c, .slice A4 x4.1.l.length c4] 24)))
  replace S3 := Lib.hid (S3.out.later (below_al (below_0 _) (.cells #[.int .i64 x4.1.r, .int .i64 x4.1.c, .slice A4 x4.1.l.length c4] 24)))
  replace S4 := Lib.hid (S4.out.later (below_al (below_0 _) (.cells #[.int .i64 x4.1.r, .int .i64 x4.1.c, .slice A4 x4.1.l.length c4] 24)))
  replace X0 := Lib.hid (X0.out.alloc (.cells #[.int .i64 x4.1.r, .int .i64 x4.1.c, .slice A4 x4.1.l.length c4] 24))
  replace X1 := Lib.hid (X1.out.alloc (.cells #[.int .i64 x4.1.r, .int .i64 x4.1.c, .slice A4 x4.1.l.length c4] 24))
  replace X2 := Lib.hid (X2.out.alloc (.cells #[.int .i64 x4.1.r, .int .i64 x4.1.c, .slice A4 x4.1.l.length c4] 24))
  replace X3 := Lib.hid (X3.out.alloc (.cells #[.int .i64 x4.1.r, .int .i64 x4.1.c, .slice A4 x4.1.l.length c4] 24))
  replace T := below_al T (.cells #[.int .i64 x4.1.r, .int .i64 x4.1.c, .slice A4 x4.1.l.length c4] 24)
  generalize w4.alloc (.cells #[.int .i64 x4.1.r, .int .i64 x4.1.c, .slice A4 x4.1.l.length c4] 24) = V4 at *
  have e12 : x2 = x1 := HX2.out.symm.trans HX1.out
  have e34 : x4 = x3 := HX4.out.symm.trans HX3.out
  subst e12 e34
  have L1 : x2.1.l.length ≤ 128 := by rw [← HX1.out]; exact newF_len _ _
  have L3 : x4.1.l.length ≤ 200 := by rw [← HX3.out]; exact Nat.le_trans (addC_len _ _ _) hx200
  have F0X0 := After.cell X0.out.c0 X0.out.lt
  have F1X0 := After.cell X0.out.c1 X0.out.lt
  have F2X0 := After.cell X0.out.c2 X0.out.lt
  have F0X1 := After.cell X1.out.c0 X1.out.lt
  have F1X1 := After.cell X1.out.c1 X1.out.lt
  have F2X1 := After.cell X1.out.c2 X1.out.lt
  have F0X2 := After.cell X2.out.c0 X2.out.lt
  have F1X2 := After.cell X2.out.c1 X2.out.lt
  have F2X2 := After.cell X2.out.c2 X2.out.lt
  have F0X3 := After.cell X3.out.c0 X3.out.lt
  have F1X3 := After.cell X3.out.c1 X3.out.lt
  have F2X3 := After.cell X3.out.c2 X3.out.lt
  have F0X4 := After.cell X4.out.c0 X4.out.lt
  have F1X4 := After.cell X4.out.c1 X4.out.lt
  have F2X4 := After.cell X4.out.c2 X4.out.lt
  haveI := After.some V4
  have C1 : Hid (∀ x : After V4, Calls Try.prog 16 #[.agg #[.int .i64 r, .int .i64 c, .slice ax x0.length capx]] x.at_ fun e w' => e = .returned (.bool (rightC r c x0.length)) ∧ Below x.at_.heap.size x.at_ w') := fun x => right_b r c ax x0.length capx x.at_
  have C2 : Hid (∀ x : After V4, Calls Try.prog 17 #[.agg #[.int .i64 r, .int .i64 c, .slice ax x0.length capx]] x.at_ fun e w' => e = .returned (.bool (rightC r c x0.length)) ∧ Below x.at_.heap.size x.at_ w') := fun x => rright_b r c ax x0.length capx x.at_
  have C3 : Hid (∀ x : After V4, Calls Try.prog 18 #[.agg #[.int .i64 x2.1.r, .int .i64 x2.1.c, .slice A1 x2.1.l.length c1], .agg #[.int .i64 x2.1.r, .int .i64 x2.1.c, .slice A2 x2.1.l.length c2]] x.at_ fun e w' => e = .returned (.bool true) ∧ Below x.at_.heap.size x.at_ w') := fun x => by have h := rsame_any x2.1.r x2.1.c x2.1.r x2.1.c A1 A2 x2.1.l x2.1.l c1 c2 x.at_ (S1.out.later x.is) (S2.out.later x.is) (by omega) (by omega); rw [sameB_self] at h; exact h
  have C4 : Hid (∀ x : After V4, Calls Try.prog 18 #[.agg #[.int .i64 x4.1.r, .int .i64 x4.1.c, .slice A3 x4.1.l.length c3], .agg #[.int .i64 x4.1.r, .int .i64 x4.1.c, .slice A4 x4.1.l.length c4]] x.at_ fun e w' => e = .returned (.bool true) ∧ Below x.at_.heap.size x.at_ w') := fun x => by have h := rsame_any x4.1.r x4.1.c x4.1.r x4.1.c A3 A4 x4.1.l x4.1.l c3 c4 x.at_ (S3.out.later x.is) (S4.out.later x.is) (by omega) (by omega); rw [sameB_self] at h; exact h
  have C5 : Hid (∀ x : After V4, Calls Try.prog 19 #[.agg #[.int .i64 r, .int .i64 c, .slice ax x0.length capx], .int .i64 rows, .int .u64 h] x.at_ fun e w' => e = .returned (.int .i64 (ColF r c x0.length rows h)) ∧ Below x.at_.heap.size x.at_ w') := fun x => Col_any r c ax x0.length capx rows h hh x.at_
  have C6 : Hid (∀ x : After V4, Calls Try.prog 20 #[.agg #[.int .i64 r, .int .i64 c, .slice ax x0.length capx], .int .i64 rows, .int .u64 h] x.at_ fun e w' => e = .returned (.int .i64 (ColF r c x0.length rows h)) ∧ Below x.at_.heap.size x.at_ w') := fun x => rCol_any r c ax x0.length capx rows h hh x.at_
  have C7 : Hid (∀ x : After V4, Calls Try.prog 21 #[.agg #[.int .i64 r, .int .i64 c, .slice ax x0.length capx], .int .u64 h] x.at_ fun e w' => e = .returned (.int .u64 (countC ⟨r, c, x0⟩ h)) ∧ Below x.at_.heap.size x.at_ w') := fun x => count_any r c ax x0 capx h hh hU x.at_ (SX.out.later x.is)
  have C8 : Hid (∀ x : After V4, Calls Try.prog 22 #[.agg #[.int .i64 r, .int .i64 c, .slice ax x0.length capx], .int .u64 h] x.at_ fun e w' => e = .returned (.int .u64 (countC ⟨r, c, x0⟩ h)) ∧ Below x.at_.heap.size x.at_ w') := fun x => rcount_any r c ax x0 capx h hh hU x.at_ (SX.out.later x.is)
  refine wp_region_below (by kernel_rfl) (by kernel_rfl) ?_
  repeat (go_big_quiet_step (first | with_reducible exact after_calls (C1.out _) | with_reducible exact after_calls (C2.out _) | with_reducible exact after_calls (C3.out _) | with_reducible exact after_calls (C4.out _) | with_reducible exact after_calls (C5.out _) | with_reducible exact after_calls (C6.out _) | with_reducible exact after_calls (C7.out _) | with_reducible exact after_calls (C8.out _)))
  refine wpQuiet_nil ?_
  rintro _ ⟨⟨w9, hb9⟩, rfl⟩
  go_wp2_with fail
  go_ret
  exact ⟨rfl, Below.two T hb9⟩
end Go.Proofs.Ythjdonhabenmcaa

/-
  The walk of the law aviarylaw08.CmsTwice: call by call, each callee by its contract.
-/
import Derived.Test.YthjdonhabenmcaaCmsShown
import Derived.Test.YthjdonhabenmcaaCmsLaws2
namespace Go.Proofs.Ythjdonhabenmcaa
open Go.RowKit
set_option linter.unusedVariables false
theorem right_t (r c : Int) (A : Option Addr) (n cap : Nat) (w : World) : Calls Try.prog 16 #[.agg #[.int .i64 r, .int .i64 c, .slice A n cap]] w fun e w' => e = .returned (.bool (rightC r c n)) ∧ Below w.heap.size w w' :=
  (right_any r c A n cap w).mono fun _ _ ⟨he, hw⟩ => ⟨he, by rw [← hw]; exact below_al (below_0 _) _⟩
set_option maxHeartbeats 4000000 in
theorem twice_walk (w : World) (rows cols h : Int) (nl capl : Nat) (al : Option Addr) (l : List (Int × Int)) (hU : UI l) (hh : U h) (hsl : Si w w.heap.size al l)
    (hk : (if (100 : Int) < (nl : Int) then (100 : Int) else (nl : Int)) = (l.length : Int)) (hq : l.length ≤ capl) (hm : capl ≤ 9223372036854775807) (h100 : l.length ≤ 100) :
    Calls Try.prog 7 #[.int .i64 rows, .int .i64 cols, .slice al nl capl, .int .u64 h] w fun e w' => e = .returned (.bool true) ∧ Below w.heap.size w w' := by
  have T := below_0 w
  have SL := Lib.hid hsl
  clear hsl
  go_enter Try.func7, Try.ntmps7
  go_wp2_with fail
  refine (shown_any _).mono ?_
  rintro e w90 ⟨rfl, hb90⟩
  replace SL := Lib.hid (SL.out.later hb90)
  replace T := Below.two T hb90
  clear hb90
  go_wp2_with fail
  clear hk
  refine (of_any rows cols al l capl hU (by omega) _ SL.out).mono ?_
  rintro e w1 ⟨hb1, v1, rfl, hh1⟩
  obtain ⟨A1, c1, rfl, hc1, hA1, hS1, hF1⟩ := hh1
  replace SL := Lib.hid (SL.out.later hb1)
  replace T := Below.two T hb1
  obtain ⟨x1, hx1⟩ : ∃ x, ofC rows cols l = x := ⟨_, rfl⟩
  rw [hx1] at hS1 hc1 ⊢
  have HX1 := Lib.hid hx1
  clear hx1
  have S1 := Lib.hid hS1
  have F1 := Lib.hid hF1
  clear hS1 hF1 hA1 hb1
  by_cases he1 : ¬ x1.2 = 0
  · have d1 : (x1.2 != 0) = true := by simp [he1]
    clear he1
    go_wp2_with fail
    go_ret
    exact ⟨rfl, below_al T _⟩
  replace he1 := Classical.not_not.1 he1
  have d1 : (x1.2 != 0) = false := by simp [he1]
  have HE1 := Lib.hid he1
  clear he1
  go_wp2_with fail
  clear d1
  have X1 := Lib.hid (Blk.new w1 24 #[.int .i64 x1.1.r, .int .i64 x1.1.c, .slice A1 x1.1.l.length c1])
  replace SL := Lib.hid (SL.out.later (below_al (below_0 _) (.cells #[.int .i64 x1.1.r, .int .i64 x1.1.c, .slice A1 x1.1.l.length c1] 24)))
  replace S1 := Lib.hid (S1.out.later (below_al (below_0 _) (.cells #[.int .i64 x1.1.r, .int .i64 x1.1.c, .slice A1 x1.1.l.length c1] 24)))
  replace T := below_al T (.cells #[.int .i64 x1.1.r, .int .i64 x1.1.c, .slice A1 x1.1.l.length c1] 24)
  generalize w1.alloc (.cells #[.int .i64 x1.1.r, .int .i64 x1.1.c, .slice A1 x1.1.l.length c1] 24) = V1 at *
  obtain ⟨p1, p2, p3, p4, p5⟩ := twice_law hU (by rw [HX1.out]; exact HE1.out) h
  rw [HX1.out] at p2 p3 p4 p5
  have U1 : Us x1.1.l := by rw [← HX1.out]; exact ofC_us _ _ hU
  have L1 : x1.1.l.length ≤ 128 := by rw [← HX1.out]; exact ofC_len _ _ _
  have P1 := Lib.hid p1
  have P2 := Lib.hid p2
  have P3 := Lib.hid p3
  have P4 := Lib.hid p4
  have P5 := Lib.hid p5
  clear p1 p2 p3 p4 p5
  refine (new_any rows cols _).mono ?_
  rintro e w2 ⟨hb2, v2, rfl, hh2⟩
  obtain ⟨A2, c2, rfl, hc2, hA2, hS2, hF2⟩ := hh2
  replace SL := Lib.hid (SL.out.later hb2)
  replace S1 := Lib.hid (S1.out.later hb2)
  replace X1 := Lib.hid (X1.out.later hb2)
  replace T := Below.two T hb2
  obtain ⟨x2, hx2⟩ : ∃ x, newF rows cols = x := ⟨_, rfl⟩
  rw [hx2] at hS2 hc2 ⊢
  have HX2 := Lib.hid hx2
  clear hx2
  have S2 := Lib.hid hS2
  have F2 := Lib.hid hF2
  clear hS2 hF2 hA2 hb2
  have k0X1 := X1.out.c0
  have k1X1 := X1.out.c1
  have k2X1 := X1.out.c2
  have kzX1 := X1.out.lt
  go_wp2_with fail
  clear k0X1 k1X1 k2X1 kzX1
  have X2 := Lib.hid (Blk.new w2 24 #[.int .i64 x2.1.r, .int .i64 x2.1.c, .slice A2 x2.1.l.length c2])
  replace SL := Lib.hid (SL.out.later (below_al (below_0 _) (.cells #[.int .i64 x2.1.r, .int .i64 x2.1.c, .slice A2 x2.1.l.length c2] 24)))
  replace S1 := Lib.hid (S1.out.later (below_al (below_0 _) (.cells #[.int .i64 x2.1.r, .int .i64 x2.1.c, .slice A2 x2.1.l.length c2] 24)))
  replace S2 := Lib.hid (S2.out.later (below_al (below_0 _) (.cells #[.int .i64 x2.1.r, .int .i64 x2.1.c, .slice A2 x2.1.l.length c2] 24)))
  replace X1 := Lib.hid (X1.out.alloc (.cells #[.int .i64 x2.1.r, .int .i64 x2.1.c, .slice A2 x2.1.l.length c2] 24))
  replace T := below_al T (.cells #[.int .i64 x2.1.r, .int .i64 x2.1.c, .slice A2 x2.1.l.length c2] 24)
  generalize w2.alloc (.cells #[.int .i64 x2.1.r, .int .i64 x2.1.c, .slice A2 x2.1.l.length c2] 24) = V2 at *
  refine (merge_any x1.1.r x1.1.c x1.1.r x1.1.c A1 A1 x1.1.l x1.1.l c1 c1 _ S1.out S1.out U1 U1).mono ?_
  rintro e w3 ⟨hb3, v3, rfl, hh3⟩
  obtain ⟨A3, c3, rfl, hc3, hA3, hS3, hF3⟩ := hh3
  replace SL := Lib.hid (SL.out.later hb3)
  replace S1 := Lib.hid (S1.out.later hb3)
  replace S2 := Lib.hid (S2.out.later hb3)
  replace X1 := Lib.hid (X1.out.later hb3)
  replace X2 := Lib.hid (X2.out.later hb3)
  replace T := Below.two T hb3
  obtain ⟨x3, hx3⟩ : ∃ x, mergeC x1.1 x1.1 = x := ⟨_, rfl⟩
  rw [hx3] at hS3 hc3 ⊢
  have HX3 := Lib.hid hx3
  clear hx3
  have S3 := Lib.hid hS3
  have F3 := Lib.hid hF3
  clear hS3 hF3 hA3 hb3
  have k0X1 := X1.out.c0
  have k1X1 := X1.out.c1
  have k2X1 := X1.out.c2
  have kzX1 := X1.out.lt
  have k0X2 := X2.out.c0
  have k1X2 := X2.out.c1
  have k2X2 := X2.out.c2
  have kzX2 := X2.out.lt
  go_wp2_with fail
  clear k0X1 k1X1 k2X1 kzX1 k0X2 k1X2 k2X2 kzX2
  have X3 := Lib.hid (Blk.new w3 24 #[.int .i64 x3.1.r, .int .i64 x3.1.c, .slice A3 x3.1.l.length c3])
  replace SL := Lib.hid (SL.out.later (below_al (below_0 _) (.cells #[.int .i64 x3.1.r, .int .i64 x3.1.c, .slice A3 x3.1.l.length c3] 24)))
  replace S1 := Lib.hid (S1.out.later (below_al (below_0 _) (.cells #[.int .i64 x3.1.r, .int .i64 x3.1.c, .slice A3 x3.1.l.length c3] 24)))
  replace S2 := Lib.hid (S2.out.later (below_al (below_0 _) (.cells #[.int .i64 x3.1.r, .int .i64 x3.1.c, .slice A3 x3.1.l.length c3] 24)))
  replace S3 := Lib.hid (S3.out.later (below_al (below_0 _) (.cells #[.int .i64 x3.1.r, .int .i64 x3.1.c, .slice A3 x3.1.l.length c3] 24)))
  replace X1 := Lib.hid (X1.out.alloc (.cells #[.int .i64 x3.1.r, .int .i64 x3.1.c, .slice A3 x3.1.l.length c3] 24))
  replace X2 := Lib.hid (X2.out.alloc (.cells #[.int .i64 x3.1.r, .int .i64 x3.1.c, .slice A3 x3.1.l.length c3] 24))
  replace T := below_al T (.cells #[.int .i64 x3.1.r, .int .i64 x3.1.c, .slice A3 x3.1.l.length c3] 24)
  generalize w3.alloc (.cells #[.int .i64 x3.1.r, .int .i64 x3.1.c, .slice A3 x3.1.l.length c3] 24) = V3 at *
  have U2 : Us x2.1.l := by rw [← HX2.out]; exact newF_us _ _
  refine (merge_any x2.1.r x2.1.c x1.1.r x1.1.c A2 A1 x2.1.l x1.1.l c2 c1 _ S2.out S1.out U2 U1).mono ?_
  rintro e w4 ⟨hb4, v4, rfl, hh4⟩
  obtain ⟨A4, c4, rfl, hc4, hA4, hS4, hF4⟩ := hh4
  replace SL := Lib.hid (SL.out.later hb4)
  replace S1 := Lib.hid (S1.out.later hb4)
  replace S2 := Lib.hid (S2.out.later hb4)
  replace S3 := Lib.hid (S3.out.later hb4)
  replace X1 := Lib.hid (X1.out.later hb4)
  replace X2 := Lib.hid (X2.out.later hb4)
  replace X3 := Lib.hid (X3.out.later hb4)
  replace T := Below.two T hb4
  obtain ⟨x4, hx4⟩ : ∃ x, mergeC x2.1 x1.1 = x := ⟨_, rfl⟩
  rw [hx4] at hS4 hc4 ⊢
  have HX4 := Lib.hid hx4
  clear hx4
  have S4 := Lib.hid hS4
  have F4 := Lib.hid hF4
  clear hS4 hF4 hA4 hb4
  have k0X1 := X1.out.c0
  have k1X1 := X1.out.c1
  have k2X1 := X1.out.c2
  have kzX1 := X1.out.lt
  have k0X2 := X2.out.c0
  have k1X2 := X2.out.c1
  have k2X2 := X2.out.c2
  have kzX2 := X2.out.lt
  have k0X3 := X3.out.c0
  have k1X3 := X3.out.c1
  have k2X3 := X3.out.c2
  have kzX3 := X3.out.lt
  go_wp2_with fail
  clear k0X1 k1X1 k2X1 kzX1 k0X2 k1X2 k2X2 kzX2 k0X3 k1X3 k2X3 kzX3
  have X4 := Lib.hid (Blk.new w4 24 #[.int .i64 x4.1.r, .int .i64 x4.1.c, .slice A4 x4.1.l.length c4])
  replace SL := Lib.hid (SL.out.later (below_al (below_0 _) (.cells #[.int .i64 x4.1.r, .int .i64 x4.1.c, .slice A4 x4.1.l.length c4] 24)))
  replace S1 := Lib.hid (S1.out.later (below_al (below_0 _) (.cells #[.int .i64 x4.1.r, .int .i64 x4.1.c, .slice A4 x4.1.l.length c4] 24)))
  replace S2 := Lib.hid (S2.out.later (below_al (below_0 _) (.cells #[.int .i64 x4.1.r, .int .i64 x4.1.c, .slice A4 x4.1.l.length c4] 24)))
  replace S3 := Lib.hid (S3.out.later (below_al (below_0 _) (.cells #[.int .i64 x4.1.r, .int .i64 x4.1.c, .slice A4 x4.1.l.length c4] 24)))
  replace S4 := Lib.hid (S4.out.later (below_al (below_0 _) (.cells #[.int .i64 x4.1.r, .int .i64 x4.1.c, .slice A4 x4.1.l.length c4] 24)))
  replace X1 := Lib.hid (X1.out.alloc (.cells #[.int .i64 x4.1.r, .int .i64 x4.1.c, .slice A4 x4.1.l.length c4] 24))
  replace X2 := Lib.hid (X2.out.alloc (.cells #[.int .i64 x4.1.r, .int .i64 x4.1.c, .slice A4 x4.1.l.length c4] 24))
  replace X3 := Lib.hid (X3.out.alloc (.cells #[.int .i64 x4.1.r, .int .i64 x4.1.c, .slice A4 x4.1.l.length c4] 24))
  replace T := below_al T (.cells #[.int .i64 x4.1.r, .int .i64 x4.1.c, .slice A4 x4.1.l.length c4] 24)
  generalize w4.alloc (.cells #[.int .i64 x4.1.r, .int .i64 x4.1.c, .slice A4 x4.1.l.length c4] 24) = V4 at *
  obtain ⟨n5, hn5⟩ : ∃ n, countC x1.1 h = n := ⟨_, rfl⟩
  have hU5 : U n5 := by rw [← hn5]; exact countC_U U1 h
  refine (count_any x1.1.r x1.1.c A1 x1.1.l c1 h hh U1 _ S1.out).mono ?_
  rintro e w5 ⟨rfl, hb5⟩
  rw [show countC ⟨x1.1.r, x1.1.c, x1.1.l⟩ h = n5 from hn5]
  replace SL := Lib.hid (SL.out.later hb5)
  replace S1 := Lib.hid (S1.out.later hb5)
  replace S2 := Lib.hid (S2.out.later hb5)
  replace S3 := Lib.hid (S3.out.later hb5)
  replace S4 := Lib.hid (S4.out.later hb5)
  replace X1 := Lib.hid (X1.out.later hb5)
  replace X2 := Lib.hid (X2.out.later hb5)
  replace X3 := Lib.hid (X3.out.later hb5)
  replace X4 := Lib.hid (X4.out.later hb5)
  replace T := Below.two T hb5
  clear hb5
  have k0X1 := X1.out.c0
  have k1X1 := X1.out.c1
  have k2X1 := X1.out.c2
  have kzX1 := X1.out.lt
  have k0X2 := X2.out.c0
  have k1X2 := X2.out.c1
  have k2X2 := X2.out.c2
  have kzX2 := X2.out.lt
  have k0X3 := X3.out.c0
  have k1X3 := X3.out.c1
  have k2X3 := X3.out.c2
  have kzX3 := X3.out.lt
  have k0X4 := X4.out.c0
  have k1X4 := X4.out.c1
  have k2X4 := X4.out.c2
  have kzX4 := X4.out.lt
  rw [HX2.out] at P1 P3
  rw [HX3.out] at P2 P4 P5
  rw [HX4.out] at P3
  rw [hn5] at P4
  clear hn5
  have U3 : Us x3.1.l := by rw [← HX3.out]; exact mergeC_us U1 U1
  have L3 : x3.1.l.length ≤ 128 := by rw [← HX3.out]; exact Nat.le_trans (mergeC_len _ _) L1
  have e4 : x4 = (x1.1, 0) := P3.out
  subst e4
  have a1 := P1.out
  have a2 := P2.out
  go_wp2_with fail
  refine (count_any x3.1.r x3.1.c A3 x3.1.l c3 h hh U3 _ S3.out).mono ?_
  rintro e w6 ⟨rfl, hb6⟩
  rw [show countC ⟨x3.1.r, x3.1.c, x3.1.l⟩ h = sat n5 n5 from P4.out]
  clear k0X1 k1X1 k2X1 kzX1 k0X2 k1X2 k2X2 kzX2 k0X3 k1X3 k2X3 kzX3 k0X4 k1X4 k2X4 kzX4
  replace SL := Lib.hid (SL.out.later hb6)
  replace S1 := Lib.hid (S1.out.later hb6)
  replace S2 := Lib.hid (S2.out.later hb6)
  replace S3 := Lib.hid (S3.out.later hb6)
  replace S4 := Lib.hid (S4.out.later hb6)
  replace X1 := Lib.hid (X1.out.later hb6)
  replace X2 := Lib.hid (X2.out.later hb6)
  replace X3 := Lib.hid (X3.out.later hb6)
  replace X4 := Lib.hid (X4.out.later hb6)
  replace T := Below.two T hb6
  clear hb6
  have k0X1 := X1.out.c0
  have k1X1 := X1.out.c1
  have k2X1 := X1.out.c2
  have kzX1 := X1.out.lt
  have k0X2 := X2.out.c0
  have k1X2 := X2.out.c1
  have k2X2 := X2.out.c2
  have kzX2 := X2.out.lt
  have k0X3 := X3.out.c0
  have k1X3 := X3.out.c1
  have k2X3 := X3.out.c2
  have kzX3 := X3.out.lt
  have k0X4 := X4.out.c0
  have k1X4 := X4.out.c1
  have k2X4 := X4.out.c2
  have kzX4 := X4.out.lt
  go_wp2_with fail
  refine (plus_any n5 n5 hU5 hU5 _).mono ?_
  rintro e w' ⟨rfl, rfl⟩
  go_wp2_with fail
  refine (same_any x1.1.r x1.1.c x1.1.r x1.1.c A4 A1 x1.1.l x1.1.l c4 c1 _ S4.out S1.out (by omega) (by omega)).mono ?_
  rintro e w8 ⟨rfl, hb8⟩
  rw [sameB_self]
  clear k0X1 k1X1 k2X1 kzX1 k0X2 k1X2 k2X2 kzX2 k0X3 k1X3 k2X3 kzX3 k0X4 k1X4 k2X4 kzX4
  replace SL := Lib.hid (SL.out.later hb8)
  replace S1 := Lib.hid (S1.out.later hb8)
  replace S2 := Lib.hid (S2.out.later hb8)
  replace S3 := Lib.hid (S3.out.later hb8)
  replace S4 := Lib.hid (S4.out.later hb8)
  replace X1 := Lib.hid (X1.out.later hb8)
  replace X2 := Lib.hid (X2.out.later hb8)
  replace X3 := Lib.hid (X3.out.later hb8)
  replace X4 := Lib.hid (X4.out.later hb8)
  replace T := Below.two T hb8
  clear hb8
  have k0X1 := X1.out.c0
  have k1X1 := X1.out.c1
  have k2X1 := X1.out.c2
  have kzX1 := X1.out.lt
  have k0X2 := X2.out.c0
  have k1X2 := X2.out.c1
  have k2X2 := X2.out.c2
  have kzX2 := X2.out.lt
  have k0X3 := X3.out.c0
  have k1X3 := X3.out.c1
  have k2X3 := X3.out.c2
  have kzX3 := X3.out.lt
  have k0X4 := X4.out.c0
  have k1X4 := X4.out.c1
  have k2X4 := X4.out.c2
  have kzX4 := X4.out.lt
  go_wp2_with fail
  refine (right_t x3.1.r x3.1.c A3 x3.1.l.length c3 _).mono ?_
  rintro e w9 ⟨rfl, hb9⟩
  rw [P5.out]
  clear k0X1 k1X1 k2X1 kzX1 k0X2 k1X2 k2X2 kzX2 k0X3 k1X3 k2X3 kzX3 k0X4 k1X4 k2X4 kzX4
  replace SL := Lib.hid (SL.out.later hb9)
  replace S1 := Lib.hid (S1.out.later hb9)
  replace S2 := Lib.hid (S2.out.later hb9)
  replace S3 := Lib.hid (S3.out.later hb9)
  replace S4 := Lib.hid (S4.out.later hb9)
  replace X1 := Lib.hid (X1.out.later hb9)
  replace X2 := Lib.hid (X2.out.later hb9)
  replace X3 := Lib.hid (X3.out.later hb9)
  replace X4 := Lib.hid (X4.out.later hb9)
  replace T := Below.two T hb9
  clear hb9
  have k0X1 := X1.out.c0
  have k1X1 := X1.out.c1
  have k2X1 := X1.out.c2
  have kzX1 := X1.out.lt
  have k0X2 := X2.out.c0
  have k1X2 := X2.out.c1
  have k2X2 := X2.out.c2
  have kzX2 := X2.out.lt
  have k0X3 := X3.out.c0
  have k1X3 := X3.out.c1
  have k2X3 := X3.out.c2
  have kzX3 := X3.out.lt
  have k0X4 := X4.out.c0
  have k1X4 := X4.out.c1
  have k2X4 := X4.out.c2
  have kzX4 := X4.out.lt
  go_wp2_with fail
  go_ret
  exact ⟨rfl, T⟩
end Go.Proofs.Ythjdonhabenmcaa

/-
  The walk of the law aviarylaw08.CmsLowers: call by call, each callee by its contract.
-/
import Derived.Test.YthjdonhabenmcaaCmsShown
import Derived.Test.YthjdonhabenmcaaCmsLaws2
namespace Go.Proofs.Ythjdonhabenmcaa
open Go.RowKit
set_option linter.unusedVariables false
set_option maxHeartbeats 4000000 in
theorem lowers_8 (w : World) (rows : Int) (nl capl nm capm : Nat) (al am : Option Addr) (l m : List (Int × Int)) (hU : UI l) (hV : UI m) (hsl : Si w w.heap.size al l) (hsm : Si w w.heap.size am m)
    (hk : (if (100 : Int) < (nl : Int) then (100 : Int) else (nl : Int)) = (l.length : Int)) (hq : l.length ≤ capl) (hm : capl ≤ 9223372036854775807) (h100 : l.length ≤ 100)
    (hk2 : (if (100 : Int) < (nm : Int) then (100 : Int) else (nm : Int)) = (m.length : Int)) (hq2 : m.length ≤ capm) (hm2 : capm ≤ 9223372036854775807) (h200 : m.length ≤ 100) (r1 : 1 ≤ rows) (r2 : rows ≤ 4) :
    Calls Try.prog 9 #[.int .i64 rows, .int .i64 8, .slice al nl capl, .slice am nm capm] w fun e w' => e = .returned (.bool true) ∧ Below w.heap.size w w' := by
  have T := below_0 w
  have SL := Lib.hid hsl
  have SM := Lib.hid hsm
  clear hsl hsm
  obtain ⟨p1, p2, p3, p4, p5, p6, p7, p8⟩ := lowers_law r1 r2 (show (8 : Int) = 8 ∨ (8 : Int) = 16 ∨ (8 : Int) = 32 by omega) hU hV
  rw [show (8 : Int) / 2 = 4 by decide] at p3 p4
  have P3 := Lib.hid p3
  have P8 := Lib.hid p8
  have Q1 := Lib.hid p1
  have Q2 := Lib.hid p2
  have Q4 := Lib.hid p4
  have Q5 := Lib.hid p5
  have Q6 := Lib.hid p6
  have Q7 := Lib.hid p7
  clear p1 p2 p3 p4 p5 p6 p7 p8
  go_enter Try.func9, Try.ntmps9
  go_wp2_with fail
  refine (shown_any _).mono ?_
  rintro e w90 ⟨rfl, hb90⟩
  replace SL := Lib.hid (SL.out.later hb90)
  replace SM := Lib.hid (SM.out.later hb90)
  replace T := Below.two T hb90
  clear hb90
  go_wp2_with fail
  clear hk hk2
  refine (of_any rows 8 al l capl hU (by omega) _ SL.out).mono ?_
  rintro e w1 ⟨hb1, v1, rfl, hh1⟩
  obtain ⟨A1, c1, rfl, hc1, hA1, hS1, hF1⟩ := hh1
  replace SL := Lib.hid (SL.out.later hb1)
  replace SM := Lib.hid (SM.out.later hb1)
  replace T := Below.two T hb1
  obtain ⟨x1, hx1⟩ : ∃ x, ofC rows 8 l = x := ⟨_, rfl⟩
  rw [hx1] at hS1 hc1 ⊢
  have HX1 := Lib.hid hx1
  clear hx1
  have S1 := Lib.hid hS1
  have F1 := Lib.hid hF1
  clear hS1 hF1 hA1 hb1
  go_wp2_with fail
  have X1 := Lib.hid (Blk.new w1 24 #[.int .i64 x1.1.r, .int .i64 x1.1.c, .slice A1 x1.1.l.length c1])
  replace SL := Lib.hid (SL.out.later (below_al (below_0 _) (.cells #[.int .i64 x1.1.r, .int .i64 x1.1.c, .slice A1 x1.1.l.length c1] 24)))
  replace SM := Lib.hid (SM.out.later (below_al (below_0 _) (.cells #[.int .i64 x1.1.r, .int .i64 x1.1.c, .slice A1 x1.1.l.length c1] 24)))
  replace S1 := Lib.hid (S1.out.later (below_al (below_0 _) (.cells #[.int .i64 x1.1.r, .int .i64 x1.1.c, .slice A1 x1.1.l.length c1] 24)))
  replace T := below_al T (.cells #[.int .i64 x1.1.r, .int .i64 x1.1.c, .slice A1 x1.1.l.length c1] 24)
  generalize w1.alloc (.cells #[.int .i64 x1.1.r, .int .i64 x1.1.c, .slice A1 x1.1.l.length c1] 24) = V1 at *
  rw [HX1.out] at P3 P8 Q1 Q6 Q7
  have U1 : Us x1.1.l := by rw [← HX1.out]; exact ofC_us _ _ hU
  refine (of_any rows 8 am m capm hV (by omega) _ SM.out).mono ?_
  rintro e w2 ⟨hb2, v2, rfl, hh2⟩
  obtain ⟨A2, c2, rfl, hc2, hA2, hS2, hF2⟩ := hh2
  replace SL := Lib.hid (SL.out.later hb2)
  replace SM := Lib.hid (SM.out.later hb2)
  replace S1 := Lib.hid (S1.out.later hb2)
  replace X1 := Lib.hid (X1.out.later hb2)
  replace T := Below.two T hb2
  obtain ⟨x2, hx2⟩ : ∃ x, ofC rows 8 m = x := ⟨_, rfl⟩
  rw [hx2] at hS2 hc2 ⊢
  have HX2 := Lib.hid hx2
  clear hx2
  have S2 := Lib.hid hS2
  have F2 := Lib.hid hF2
  clear hS2 hF2 hA2 hb2
  have k0X1 := X1.out.c0
  have k1X1 := X1.out.c1
  have k2X1 := X1.out.c2
  have kzX1 := X1.out.lt
  go_wp2_with fail
  clear k0X1 k1X1 k2X1 kzX1
  have X2 := Lib.hid (Blk.new w2 24 #[.int .i64 x2.1.r, .int .i64 x2.1.c, .slice A2 x2.1.l.length c2])
  replace SL := Lib.hid (SL.out.later (below_al (below_0 _) (.cells #[.int .i64 x2.1.r, .int .i64 x2.1.c, .slice A2 x2.1.l.length c2] 24)))
  replace SM := Lib.hid (SM.out.later (below_al (below_0 _) (.cells #[.int .i64 x2.1.r, .int .i64 x2.1.c, .slice A2 x2.1.l.length c2] 24)))
  replace S1 := Lib.hid (S1.out.later (below_al (below_0 _) (.cells #[.int .i64 x2.1.r, .int .i64 x2.1.c, .slice A2 x2.1.l.length c2] 24)))
  replace S2 := Lib.hid (S2.out.later (below_al (below_0 _) (.cells #[.int .i64 x2.1.r, .int .i64 x2.1.c, .slice A2 x2.1.l.length c2] 24)))
  replace X1 := Lib.hid (X1.out.alloc (.cells #[.int .i64 x2.1.r, .int .i64 x2.1.c, .slice A2 x2.1.l.length c2] 24))
  replace T := below_al T (.cells #[.int .i64 x2.1.r, .int .i64 x2.1.c, .slice A2 x2.1.l.length c2] 24)
  generalize w2.alloc (.cells #[.int .i64 x2.1.r, .int .i64 x2.1.c, .slice A2 x2.1.l.length c2] 24) = V2 at *
  rw [HX2.out] at P8 Q2 Q5 Q6 Q7
  have U2 : Us x2.1.l := by rw [← HX2.out]; exact ofC_us _ _ hV
  refine (lower_any x1.1.r x1.1.c A1 x1.1.l c1 U1 _ S1.out).mono ?_
  rintro e w3 ⟨hb3, v3, rfl, hh3⟩
  obtain ⟨A3, c3, rfl, hc3, hA3, hS3, hF3⟩ := hh3
  replace SL := Lib.hid (SL.out.later hb3)
  replace SM := Lib.hid (SM.out.later hb3)
  replace S1 := Lib.hid (S1.out.later hb3)
  replace S2 := Lib.hid (S2.out.later hb3)
  replace X1 := Lib.hid (X1.out.later hb3)
  replace X2 := Lib.hid (X2.out.later hb3)
  replace T := Below.two T hb3
  obtain ⟨x3, hx3⟩ : ∃ x, lowerC x1.1 = x := ⟨_, rfl⟩
  rw [hx3] at hS3 hc3 ⊢
  have HX3 := Lib.hid hx3
  clear hx3
  have S3 := Lib.hid hS3
  have F3 := Lib.hid hF3
  clear hS3 hF3 hA3 hb3
  have k0X1 := X1.out.c0
  have k1X1 := X1.out.c1
  have k2X1 := X1.out.c2
  have kzX1 := X1.out.lt
  have k0X2 := X2.out.c0
  have k1X2 := X2.out.c1
  have k2X2 := X2.out.c2
  have kzX2 := X2.out.lt
  go_wp2_with fail
  clear k0X1 k1X1 k2X1 kzX1 k0X2 k1X2 k2X2 kzX2
  have X3 := Lib.hid (Blk.new w3 24 #[.int .i64 x3.1.r, .int .i64 x3.1.c, .slice A3 x3.1.l.length c3])
  replace SL := Lib.hid (SL.out.later (below_al (below_0 _) (.cells #[.int .i64 x3.1.r, .int .i64 x3.1.c, .slice A3 x3.1.l.length c3] 24)))
  replace SM := Lib.hid (SM.out.later (below_al (below_0 _) (.cells #[.int .i64 x3.1.r, .int .i64 x3.1.c, .slice A3 x3.1.l.length c3] 24)))
  replace S1 := Lib.hid (S1.out.later (below_al (below_0 _) (.cells #[.int .i64 x3.1.r, .int .i64 x3.1.c, .slice A3 x3.1.l.length c3] 24)))
  replace S2 := Lib.hid (S2.out.later (below_al (below_0 _) (.cells #[.int .i64 x3.1.r, .int .i64 x3.1.c, .slice A3 x3.1.l.length c3] 24)))
  replace S3 := Lib.hid (S3.out.later (below_al (below_0 _) (.cells #[.int .i64 x3.1.r, .int .i64 x3.1.c, .slice A3 x3.1.l.length c3] 24)))
  replace X1 := Lib.hid (X1.out.alloc (.cells #[.int .i64 x3.1.r, .int .i64 x3.1.c, .slice A3 x3.1.l.length c3] 24))
  replace X2 := Lib.hid (X2.out.alloc (.cells #[.int .i64 x3.1.r, .int .i64 x3.1.c, .slice A3 x3.1.l.length c3] 24))
  replace T := below_al T (.cells #[.int .i64 x3.1.r, .int .i64 x3.1.c, .slice A3 x3.1.l.length c3] 24)
  generalize w3.alloc (.cells #[.int .i64 x3.1.r, .int .i64 x3.1.c, .slice A3 x3.1.l.length c3] 24) = V3 at *
  rw [HX3.out] at P3 P8
  have U3 : Us x3.1.l := by rw [← HX3.out]; exact lowerC_us U1
  have L3 : x3.1.l.length ≤ 128 := by rw [← HX3.out]; exact lowerC_len _
  refine (of_any rows 4 al l capl hU (by omega) _ SL.out).mono ?_
  rintro e w4 ⟨hb4, v4, rfl, hh4⟩
  obtain ⟨A4, c4, rfl, hc4, hA4, hS4, hF4⟩ := hh4
  replace SL := Lib.hid (SL.out.later hb4)
  replace SM := Lib.hid (SM.out.later hb4)
  replace S1 := Lib.hid (S1.out.later hb4)
  replace S2 := Lib.hid (S2.out.later hb4)
  replace S3 := Lib.hid (S3.out.later hb4)
  replace X1 := Lib.hid (X1.out.later hb4)
  replace X2 := Lib.hid (X2.out.later hb4)
  replace X3 := Lib.hid (X3.out.later hb4)
  replace T := Below.two T hb4
  obtain ⟨x4, hx4⟩ : ∃ x, ofC rows 4 l = x := ⟨_, rfl⟩
  rw [hx4] at hS4 hc4 ⊢
  have HX4 := Lib.hid hx4
  clear hx4
  have S4 := Lib.hid hS4
  have F4 := Lib.hid hF4
  clear hS4 hF4 hA4 hb4
  have k0X1 := X1.out.c0
  have k1X1 := X1.out.c1
  have k2X1 := X1.out.c2
  have kzX1 := X1.out.lt
  have k0X2 := X2.out.c0
  have k1X2 := X2.out.c1
  have k2X2 := X2.out.c2
  have kzX2 := X2.out.lt
  have k0X3 := X3.out.c0
  have k1X3 := X3.out.c1
  have k2X3 := X3.out.c2
  have kzX3 := X3.out.lt
  go_wp2_with fail
  clear k0X1 k1X1 k2X1 kzX1 k0X2 k1X2 k2X2 kzX2 k0X3 k1X3 k2X3 kzX3
  have X4 := Lib.hid (Blk.new w4 24 #[.int .i64 x4.1.r, .int .i64 x4.1.c, .slice A4 x4.1.l.length c4])
  replace SL := Lib.hid (SL.out.later (below_al (below_0 _) (.cells #[.int .i64 x4.1.r, .int .i64 x4.1.c, .slice A4 x4.1.l.length c4] 24)))
  replace SM := Lib.hid (SM.out.later (below_al (below_0 _) (.cells #[.int .i64 x4.1.r, .int .i64 x4.1.c, .slice A4 x4.1.l.length c4] 24)))
  replace S1 := Lib.hid (S1.out.later (below_al (below_0 _) (.cells #[.int .i64 x4.1.r, .int .i64 x4.1.c, .slice A4 x4.1.l.length c4] 24)))
  replace S2 := Lib.hid (S2.out.later (below_al (below_0 _) (.cells #[.int .i64 x4.1.r, .int .i64 x4.1.c, .slice A4 x4.1.l.length c4] 24)))
  replace S3 := Lib.hid (S3.out.later (below_al (below_0 _) (.cells #[.int .i64 x4.1.r, .int .i64 x4.1.c, .slice A4 x4.1.l.length c4] 24)))
  replace S4 := Lib.hid (S4.out.later (below_al (below_0 _) (.cells #[.int .i64 x4.1.r, .int .i64 x4.1.c, .slice A4 x4.1.l.length c4] 24)))
  replace X1 := Lib.hid (X1.out.alloc (.cells #[.int .i64 x4.1.r, .int .i64 x4.1.c, .slice A4 x4.1.l.length c4] 24))
  replace X2 := Lib.hid (X2.out.alloc (.cells #[.int .i64 x4.1.r, .int .i64 x4.1.c, .slice A4 x4.1.l.length c4] 24))
  replace X3 := Lib.hid (X3.out.alloc (.cells #[.int .i64 x4.1.r, .int .i64 x4.1.c, .slice A4 x4.1.l.length c4] 24))
  replace T := below_al T (.cells #[.int .i64 x4.1.r, .int .i64 x4.1.c, .slice A4 x4.1.l.length c4] 24)
  generalize w4.alloc (.cells #[.int .i64 x4.1.r, .int .i64 x4.1.c, .slice A4 x4.1.l.length c4] 24) = V4 at *
  rw [HX4.out] at P3 Q4
  refine (lower_any x2.1.r x2.1.c A2 x2.1.l c2 U2 _ S2.out).mono ?_
  rintro e w5 ⟨hb5, v5, rfl, hh5⟩
  obtain ⟨A5, c5, rfl, hc5, hA5, hS5, hF5⟩ := hh5
  replace SL := Lib.hid (SL.out.later hb5)
  replace SM := Lib.hid (SM.out.later hb5)
  replace S1 := Lib.hid (S1.out.later hb5)
  replace S2 := Lib.hid (S2.out.later hb5)
  replace S3 := Lib.hid (S3.out.later hb5)
  replace S4 := Lib.hid (S4.out.later hb5)
  replace X1 := Lib.hid (X1.out.later hb5)
  replace X2 := Lib.hid (X2.out.later hb5)
  replace X3 := Lib.hid (X3.out.later hb5)
  replace X4 := Lib.hid (X4.out.later hb5)
  replace T := Below.two T hb5
  obtain ⟨x5, hx5⟩ : ∃ x, lowerC x2.1 = x := ⟨_, rfl⟩
  rw [hx5] at hS5 hc5 ⊢
  have HX5 := Lib.hid hx5
  clear hx5
  have S5 := Lib.hid hS5
  have F5 := Lib.hid hF5
  clear hS5 hF5 hA5 hb5
  have k0X1 := X1.out.c0
  have k1X1 := X1.out.c1
  have k2X1 := X1.out.c2
  have kzX1 := X1.out.lt
  have k0X2 := X2.out.c0
  have k1X2 := X2.out.c1
  have k2X2 := X2.out.c2
  have kzX2 := X2.out.lt
  have k0X3 := X3.out.c0
  have k1X3 := X3.out.c1
  have k2X3 := X3.out.c2
  have kzX3 := X3.out.lt
  have k0X4 := X4.out.c0
  have k1X4 := X4.out.c1
  have k2X4 := X4.out.c2
  have kzX4 := X4.out.lt
  go_wp2_with fail
  clear k0X1 k1X1 k2X1 kzX1 k0X2 k1X2 k2X2 kzX2 k0X3 k1X3 k2X3 kzX3 k0X4 k1X4 k2X4 kzX4
  have X5 := Lib.hid (Blk.new w5 24 #[.int .i64 x5.1.r, .int .i64 x5.1.c, .slice A5 x5.1.l.length c5])
  replace SL := Lib.hid (SL.out.later (below_al (below_0 _) (.cells #[.int .i64 x5.1.r, .int .i64 x5.1.c, .slice A5 x5.1.l.length c5] 24)))
  replace SM := Lib.hid (SM.out.later (below_al (below_0 _) (.cells #[.int .i64 x5.1.r, .int .i64 x5.1.c, .slice A5 x5.1.l.length c5] 24)))
  replace S1 := Lib.hid (S1.out.later (below_al (below_0 _) (.cells #[.int .i64 x5.1.r, .int .i64 x5.1.c, .slice A5 x5.1.l.length c5] 24)))
  replace S2 := Lib.hid (S2.out.later (below_al (below_0 _) (.cells #[.int .i64 x5.1.r, .int .i64 x5.1.c, .slice A5 x5.1.l.length c5] 24)))
  replace S3 := Lib.hid (S3.out.later (below_al (below_0 _) (.cells #[.int .i64 x5.1.r, .int .i64 x5.1.c, .slice A5 x5.1.l.length c5] 24)))
  replace S4 := Lib.hid (S4.out.later (below_al (below_0 _) (.cells #[.int .i64 x5.1.r, .int .i64 x5.1.c, .slice A5 x5.1.l.length c5] 24)))
  replace S5 := Lib.hid (S5.out.later (below_al (below_0 _) (.cells #[.int .i64 x5.1.r, .int .i64 x5.1.c, .slice A5 x5.1.l.length c5] 24)))
  replace X1 := Lib.hid (X1.out.alloc (.cells #[.int .i64 x5.1.r, .int .i64 x5.1.c, .slice A5 x5.1.l.length c5] 24))
  replace X2 := Lib.hid (X2.out.alloc (.cells #[.int .i64 x5.1.r, .int .i64 x5.1.c, .slice A5 x5.1.l.length c5] 24))
  replace X3 := Lib.hid (X3.out.alloc (.cells #[.int .i64 x5.1.r, .int .i64 x5.1.c, .slice A5 x5.1.l.length c5] 24))
  replace X4 := Lib.hid (X4.out.alloc (.cells #[.int .i64 x5.1.r, .int .i64 x5.1.c, .slice A5 x5.1.l.length c5] 24))
  replace T := below_al T (.cells #[.int .i64 x5.1.r, .int .i64 x5.1.c, .slice A5 x5.1.l.length c5] 24)
  generalize w5.alloc (.cells #[.int .i64 x5.1.r, .int .i64 x5.1.c, .slice A5 x5.1.l.length c5] 24) = V5 at *
  rw [HX5.out] at P8 Q5
  have U5 : Us x5.1.l := by rw [← HX5.out]; exact lowerC_us U2
  refine (merge_any x1.1.r x1.1.c x2.1.r x2.1.c A1 A2 x1.1.l x2.1.l c1 c2 _ S1.out S2.out U1 U2).mono ?_
  rintro e w6 ⟨hb6, v6, rfl, hh6⟩
  obtain ⟨A6, c6, rfl, hc6, hA6, hS6, hF6⟩ := hh6
  replace SL := Lib.hid (SL.out.later hb6)
  replace SM := Lib.hid (SM.out.later hb6)
  replace S1 := Lib.hid (S1.out.later hb6)
  replace S2 := Lib.hid (S2.out.later hb6)
  replace S3 := Lib.hid (S3.out.later hb6)
  replace S4 := Lib.hid (S4.out.later hb6)
  replace S5 := Lib.hid (S5.out.later hb6)
  replace X1 := Lib.hid (X1.out.later hb6)
  replace X2 := Lib.hid (X2.out.later hb6)
  replace X3 := Lib.hid (X3.out.later hb6)
  replace X4 := Lib.hid (X4.out.later hb6)
  replace X5 := Lib.hid (X5.out.later hb6)
  replace T := Below.two T hb6
  obtain ⟨x6, hx6⟩ : ∃ x, mergeC x1.1 x2.1 = x := ⟨_, rfl⟩
  rw [hx6] at hS6 hc6 ⊢
  have HX6 := Lib.hid hx6
  clear hx6
  have S6 := Lib.hid hS6
  have F6 := Lib.hid hF6
  clear hS6 hF6 hA6 hb6
  have k0X1 := X1.out.c0
  have k1X1 := X1.out.c1
  have k2X1 := X1.out.c2
  have kzX1 := X1.out.lt
  have k0X2 := X2.out.c0
  have k1X2 := X2.out.c1
  have k2X2 := X2.out.c2
  have kzX2 := X2.out.lt
  have k0X3 := X3.out.c0
  have k1X3 := X3.out.c1
  have k2X3 := X3.out.c2
  have kzX3 := X3.out.lt
  have k0X4 := X4.out.c0
  have k1X4 := X4.out.c1
  have k2X4 := X4.out.c2
  have kzX4 := X4.out.lt
  have k0X5 := X5.out.c0
  have k1X5 := X5.out.c1
  have k2X5 := X5.out.c2
  have kzX5 := X5.out.lt
  go_wp2_with fail
  clear k0X1 k1X1 k2X1 kzX1 k0X2 k1X2 k2X2 kzX2 k0X3 k1X3 k2X3 kzX3 k0X4 k1X4 k2X4 kzX4 k0X5 k1X5 k2X5 kzX5
  have X6 := Lib.hid (Blk.new w6 24 #[.int .i64 x6.1.r, .int .i64 x6.1.c, .slice A6 x6.1.l.length c6])
  replace SL := Lib.hid (SL.out.later (below_al (below_0 _) (.cells #[.int .i64 x6.1.r, .int .i64 x6.1.c, .slice A6 x6.1.l.length c6] 24)))
  replace SM := Lib.hid (SM.out.later (below_al (below_0 _) (.cells #[.int .i64 x6.1.r, .int .i64 x6.1.c, .slice A6 x6.1.l.length c6] 24)))
  replace S1 := Lib.hid (S1.out.later (below_al (below_0 _) (.cells #[.int .i64 x6.1.r, .int .i64 x6.1.c, .slice A6 x6.1.l.length c6] 24)))
  replace S2 := Lib.hid (S2.out.later (below_al (below_0 _) (.cells #[.int .i64 x6.1.r, .int .i64 x6.1.c, .slice A6 x6.1.l.length c6] 24)))
  replace S3 := Lib.hid (S3.out.later (below_al (below_0 _) (.cells #[.int .i64 x6.1.r, .int .i64 x6.1.c, .slice A6 x6.1.l.length c6] 24)))
  replace S4 := Lib.hid (S4.out.later (below_al (below_0 _) (.cells #[.int .i64 x6.1.r, .int .i64 x6.1.c, .slice A6 x6.1.l.length c6] 24)))
  replace S5 := Lib.hid (S5.out.later (below_al (below_0 _) (.cells #[.int .i64 x6.1.r, .int .i64 x6.1.c, .slice A6 x6.1.l.length c6] 24)))
  replace S6 := Lib.hid (S6.out.later (below_al (below_0 _) (.cells #[.int .i64 x6.1.r, .int .i64 x6.1.c, .slice A6 x6.1.l.length c6] 24)))
  replace X1 := Lib.hid (X1.out.alloc (.cells #[.int .i64 x6.1.r, .int .i64 x6.1.c, .slice A6 x6.1.l.length c6] 24))
  replace X2 := Lib.hid (X2.out.alloc (.cells #[.int .i64 x6.1.r, .int .i64 x6.1.c, .slice A6 x6.1.l.length c6] 24))
  replace X3 := Lib.hid (X3.out.alloc (.cells #[.int .i64 x6.1.r, .int .i64 x6.1.c, .slice A6 x6.1.l.length c6] 24))
  replace X4 := Lib.hid (X4.out.alloc (.cells #[.int .i64 x6.1.r, .int .i64 x6.1.c, .slice A6 x6.1.l.length c6] 24))
  replace X5 := Lib.hid (X5.out.alloc (.cells #[.int .i64 x6.1.r, .int .i64 x6.1.c, .slice A6 x6.1.l.length c6] 24))
  replace T := below_al T (.cells #[.int .i64 x6.1.r, .int .i64 x6.1.c, .slice A6 x6.1.l.length c6] 24)
  generalize w6.alloc (.cells #[.int .i64 x6.1.r, .int .i64 x6.1.c, .slice A6 x6.1.l.length c6] 24) = V6 at *
  rw [HX6.out] at P8 Q6 Q7
  have U6 : Us x6.1.l := by rw [← HX6.out]; exact mergeC_us U1 U2
  refine (lower_any x6.1.r x6.1.c A6 x6.1.l c6 U6 _ S6.out).mono ?_
  rintro e w7 ⟨hb7, v7, rfl, hh7⟩
  obtain ⟨A7, c7, rfl, hc7, hA7, hS7, hF7⟩ := hh7
  replace SL := Lib.hid (SL.out.later hb7)
  replace SM := Lib.hid (SM.out.later hb7)
  replace S1 := Lib.hid (S1.out.later hb7)
  replace S2 := Lib.hid (S2.out.later hb7)
  replace S3 := Lib.hid (S3.out.later hb7)
  replace S4 := Lib.hid (S4.out.later hb7)
  replace S5 := Lib.hid (S5.out.later hb7)
  replace S6 := Lib.hid (S6.out.later hb7)
  replace X1 := Lib.hid (X1.out.later hb7)
  replace X2 := Lib.hid (X2.out.later hb7)
  replace X3 := Lib.hid (X3.out.later hb7)
  replace X4 := Lib.hid (X4.out.later hb7)
  replace X5 := Lib.hid (X5.out.later hb7)
  replace X6 := Lib.hid (X6.out.later hb7)
  replace T := Below.two T hb7
  obtain ⟨x7, hx7⟩ : ∃ x, lowerC x6.1 = x := ⟨_, rfl⟩
  rw [hx7] at hS7 hc7 ⊢
  have HX7 := Lib.hid hx7
  clear hx7
  have S7 := Lib.hid hS7
  have F7 := Lib.hid hF7
  clear hS7 hF7 hA7 hb7
  have k0X1 := X1.out.c0
  have k1X1 := X1.out.c1
  have k2X1 := X1.out.c2
  have kzX1 := X1.out.lt
  have k0X2 := X2.out.c0
  have k1X2 := X2.out.c1
  have k2X2 := X2.out.c2
  have kzX2 := X2.out.lt
  have k0X3 := X3.out.c0
  have k1X3 := X3.out.c1
  have k2X3 := X3.out.c2
  have kzX3 := X3.out.lt
  have k0X4 := X4.out.c0
  have k1X4 := X4.out.c1
  have k2X4 := X4.out.c2
  have kzX4 := X4.out.lt
  have k0X5 := X5.out.c0
  have k1X5 := X5.out.c1
  have k2X5 := X5.out.c2
  have kzX5 := X5.out.lt
  have k0X6 := X6.out.c0
  have k1X6 := X6.out.c1
  have k2X6 := X6.out.c2
  have kzX6 := X6.out.lt
  go_wp2_with fail
  clear k0X1 k1X1 k2X1 kzX1 k0X2 k1X2 k2X2 kzX2 k0X3 k1X3 k2X3 kzX3 k0X4 k1X4 k2X4 kzX4 k0X5 k1X5 k2X5 kzX5 k0X6 k1X6 k2X6 kzX6
  have X7 := Lib.hid (Blk.new w7 24 #[.int .i64 x7.1.r, .int .i64 x7.1.c, .slice A7 x7.1.l.length c7])
  replace SL := Lib.hid (SL.out.later (below_al (below_0 _) (.cells #[.int .i64 x7.1.r, .int .i64 x7.1.c, .slice A7 x7.1.l.length c7] 24)))
  replace SM := Lib.hid (SM.out.later (below_al (below_0 _) (.cells #[.int .i64 x7.1.r, .int .i64 x7.1.c, .slice A7 x7.1.l.length c7] 24)))
  replace S1 := Lib.hid (S1.out.later (below_al (below_0 _) (.cells #[.int .i64 x7.1.r, .int .i64 x7.1.c, .slice A7 x7.1.l.length c7] 24)))
  replace S2 := Lib.hid (S2.out.later (below_al (below_0 _) (.cells #[.int .i64 x7.1.r, .int .i64 x7.1.c, .slice A7 x7.1.l.length c7] 24)))
  replace S3 := Lib.hid (S3.out.later (below_al (below_0 _) (.cells #[.int .i64 x7.1.r, .int .i64 x7.1.c, .slice A7 x7.1.l.length c7] 24)))
  replace S4 := Lib.hid (S4.out.later (below_al (below_0 _) (.cells #[.int .i64 x7.1.r, .int .i64 x7.1.c, .slice A7 x7.1.l.length c7] 24)))
  replace S5 := Lib.hid (S5.out.later (below_al (below_0 _) (.cells #[.int .i64 x7.1.r, .int .i64 x7.1.c, .slice A7 x7.1.l.length c7] 24)))
  replace S6 := Lib.hid (S6.out.later (below_al (below_0 _) (.cells #[.int .i64 x7.1.r, .int .i64 x7.1.c, .slice A7 x7.1.l.length c7] 24)))
  replace S7 := Lib.hid (S7.out.later (below_al (below_0 _) (.cells #[.int .i64 x7.1.r, .int .i64 x7.1.c, .slice A7 x7.1.l.length c7] 24)))
  replace X1 := Lib.hid (X1.out.alloc (.cells #[.int .i64 x7.1.r, .int .i64 x7.1.c, .slice A7 x7.1.l.length c7] 24))
  replace X2 := Lib.hid (X2.out.alloc (.cells #[.int .i64 x7.1.r, .int .i64 x7.1.c, .slice A7 x7.1.l.length c7] 24))
  replace X3 := Lib.hid (X3.out.alloc (.cells #[.int .i64 x7.1.r, .int .i64 x7.1.c, .slice A7 x7.1.l.length c7] 24))
  replace X4 := Lib.hid (X4.out.alloc (.cells #[.int .i64 x7.1.r, .int .i64 x7.1.c, .slice A7 x7.1.l.length c7] 24))
  replace X5 := Lib.hid (X5.out.alloc (.cells #[.int .i64 x7.1.r, .int .i64 x7.1.c, .slice A7 x7.1.l.length c7] 24))
  replace X6 := Lib.hid (X6.out.alloc (.cells #[.int .i64 x7.1.r, .int .i64 x7.1.c, .slice A7 x7.1.l.length c7] 24))
  replace T := below_al T (.cells #[.int .i64 x7.1.r, .int .i64 x7.1.c, .slice A7 x7.1.l.length c7] 24)
  generalize w7.alloc (.cells #[.int .i64 x7.1.r, .int .i64 x7.1.c, .slice A7 x7.1.l.length c7] 24) = V7 at *
  rw [HX7.out] at P8 Q7
  have L7 : x7.1.l.length ≤ 128 := by rw [← HX7.out]; exact lowerC_len _
  refine (merge_any x3.1.r x3.1.c x5.1.r x5.1.c A3 A5 x3.1.l x5.1.l c3 c5 _ S3.out S5.out U3 U5).mono ?_
  rintro e w8 ⟨hb8, v8, rfl, hh8⟩
  obtain ⟨A8, c8, rfl, hc8, hA8, hS8, hF8⟩ := hh8
  replace SL := Lib.hid (SL.out.later hb8)
  replace SM := Lib.hid (SM.out.later hb8)
  replace S1 := Lib.hid (S1.out.later hb8)
  replace S2 := Lib.hid (S2.out.later hb8)
  replace S3 := Lib.hid (S3.out.later hb8)
  replace S4 := Lib.hid (S4.out.later hb8)
  replace S5 := Lib.hid (S5.out.later hb8)
  replace S6 := Lib.hid (S6.out.later hb8)
  replace S7 := Lib.hid (S7.out.later hb8)
  replace X1 := Lib.hid (X1.out.later hb8)
  replace X2 := Lib.hid (X2.out.later hb8)
  replace X3 := Lib.hid (X3.out.later hb8)
  replace X4 := Lib.hid (X4.out.later hb8)
  replace X5 := Lib.hid (X5.out.later hb8)
  replace X6 := Lib.hid (X6.out.later hb8)
  replace X7 := Lib.hid (X7.out.later hb8)
  replace T := Below.two T hb8
  obtain ⟨x8, hx8⟩ : ∃ x, mergeC x3.1 x5.1 = x := ⟨_, rfl⟩
  rw [hx8] at hS8 hc8 ⊢
  have HX8 := Lib.hid hx8
  clear hx8
  have S8 := Lib.hid hS8
  have F8 := Lib.hid hF8
  clear hS8 hF8 hA8 hb8
  have k0X1 := X1.out.c0
  have k1X1 := X1.out.c1
  have k2X1 := X1.out.c2
  have kzX1 := X1.out.lt
  have k0X2 := X2.out.c0
  have k1X2 := X2.out.c1
  have k2X2 := X2.out.c2
  have kzX2 := X2.out.lt
  have k0X3 := X3.out.c0
  have k1X3 := X3.out.c1
  have k2X3 := X3.out.c2
  have kzX3 := X3.out.lt
  have k0X4 := X4.out.c0
  have k1X4 := X4.out.c1
  have k2X4 := X4.out.c2
  have kzX4 := X4.out.lt
  have k0X5 := X5.out.c0
  have k1X5 := X5.out.c1
  have k2X5 := X5.out.c2
  have kzX5 := X5.out.lt
  have k0X6 := X6.out.c0
  have k1X6 := X6.out.c1
  have k2X6 := X6.out.c2
  have kzX6 := X6.out.lt
  have k0X7 := X7.out.c0
  have k1X7 := X7.out.c1
  have k2X7 := X7.out.c2
  have kzX7 := X7.out.lt
  rw [HX8.out] at P8
  have e4 : x4 = x3 := P3.out.symm
  have e8 : x8 = x7 := P8.out.symm
  subst e4 e8
  have a1 := Q1.out
  have a2 := Q2.out
  have a4 := Q4.out
  have a5 := Q5.out
  have a6 := Q6.out
  have a7 := Q7.out
  go_wp2_with fail
  clear k0X1 k1X1 k2X1 kzX1 k0X2 k1X2 k2X2 kzX2 k0X3 k1X3 k2X3 kzX3 k0X4 k1X4 k2X4 kzX4 k0X5 k1X5 k2X5 kzX5 k0X6 k1X6 k2X6 kzX6 k0X7 k1X7 k2X7 kzX7
  have X8 := Lib.hid (Blk.new w8 24 #[.int .i64 x8.1.r, .int .i64 x8.1.c, .slice A8 x8.1.l.length c8])
  replace SL := Lib.hid (SL.out.later (below_al (below_0 _) (.cells #[.int .i64 x8.1.r, .int .i64 x8.1.c, .slice A8 x8.1.l.length c8] 24)))
  replace SM := Lib.hid (SM.out.later (below_al (below_0 _) (.cells #[.int .i64 x8.1.r, .int .i64 x8.1.c, .slice A8 x8.1.l.length c8] 24)))
  replace S1 := Lib.hid (S1.out.later (below_al (below_0 _) (.cells #[.int .i64 x8.1.r, .int .i64 x8.1.c, .slice A8 x8.1.l.length c8] 24)))
  replace S2 := Lib.hid (S2.out.later (below_al (below_0 _) (.cells #[.int .i64 x8.1.r, .int .i64 x8.1.c, .slice A8 x8.1.l.length c8] 24)))
  replace S3 := Lib.hid (S3.out.later (below_al (below_0 _) (.cells #[.int .i64 x8.1.r, .int .i64 x8.1.c, .slice A8 x8.1.l.length c8] 24)))
  replace S4 := Lib.hid (S4.out.later (below_al (below_0 _) (.cells #[.int .i64 x8.1.r, .int .i64 x8.1.c, .slice A8 x8.1.l.length c8] 24)))
  replace S5 := Lib.hid (S5.out.later (below_al (below_0 _) (.cells #[.int .i64 x8.1.r, .int .i64 x8.1.c, .slice A8 x8.1.l.length c8] 24)))
  replace S6 := Lib.hid (S6.out.later (below_al (below_0 _) (.cells #[.int .i64 x8.1.r, .int .i64 x8.1.c, .slice A8 x8.1.l.length c8] 24)))
  replace S7 := Lib.hid (S7.out.later (below_al (below_0 _) (.cells #[.int .i64 x8.1.r, .int .i64 x8.1.c, .slice A8 x8.1.l.length c8] 24)))
  replace S8 := Lib.hid (S8.out.later (below_al (below_0 _) (.cells #[.int .i64 x8.1.r, .int .i64 x8.1.c, .slice A8 x8.1.l.length c8] 24)))
  replace X1 := Lib.hid (X1.out.alloc (.cells #[.int .i64 x8.1.r, .int .i64 x8.1.c, .slice A8 x8.1.l.length c8] 24))
  replace X2 := Lib.hid (X2.out.alloc (.cells #[.int .i64 x8.1.r, .int .i64 x8.1.c, .slice A8 x8.1.l.length c8] 24))
  replace X3 := Lib.hid (X3.out.alloc (.cells #[.int .i64 x8.1.r, .int .i64 x8.1.c, .slice A8 x8.1.l.length c8] 24))
  replace X4 := Lib.hid (X4.out.alloc (.cells #[.int .i64 x8.1.r, .int .i64 x8.1.c, .slice A8 x8.1.l.length c8] 24))
  replace X5 := Lib.hid (X5.out.alloc (.cells #[.int .i64 x8.1.r, .int .i64 x8.1.c, .slice A8 x8.1.l.length c8] 24))
  replace X6 := Lib.hid (X6.out.alloc (.cells #[.int .i64 x8.1.r, .int .i64 x8.1.c, .slice A8 x8.1.l.length c8] 24))
  replace X7 := Lib.hid (X7.out.alloc (.cells #[.int .i64 x8.1.r, .int .i64 x8.1.c, .slice A8 x8.1.l.length c8] 24))
  replace T := below_al T (.cells #[.int .i64 x8.1.r, .int .i64 x8.1.c, .slice A8 x8.1.l.length c8] 24)
  generalize w8.alloc (.cells #[.int .i64 x8.1.r, .int .i64 x8.1.c, .slice A8 x8.1.l.length c8] 24) = V8 at *
  refine (same_any x4.1.r x4.1.c x4.1.r x4.1.c A3 A4 x4.1.l x4.1.l c3 c4 _ S3.out S4.out (by omega) (by omega)).mono ?_
  rintro e w9 ⟨rfl, hb9⟩
  rw [sameB_self]
  replace SL := Lib.hid (SL.out.later hb9)
  replace SM := Lib.hid (SM.out.later hb9)
  replace S1 := Lib.hid (S1.out.later hb9)
  replace S2 := Lib.hid (S2.out.later hb9)
  replace S3 := Lib.hid (S3.out.later hb9)
  replace S4 := Lib.hid (S4.out.later hb9)
  replace S5 := Lib.hid (S5.out.later hb9)
  replace S6 := Lib.hid (S6.out.later hb9)
  replace S7 := Lib.hid (S7.out.later hb9)
  replace S8 := Lib.hid (S8.out.later hb9)
  replace X1 := Lib.hid (X1.out.later hb9)
  replace X2 := Lib.hid (X2.out.later hb9)
  replace X3 := Lib.hid (X3.out.later hb9)
  replace X4 := Lib.hid (X4.out.later hb9)
  replace X5 := Lib.hid (X5.out.later hb9)
  replace X6 := Lib.hid (X6.out.later hb9)
  replace X7 := Lib.hid (X7.out.later hb9)
  replace X8 := Lib.hid (X8.out.later hb9)
  replace T := Below.two T hb9
  clear hb9
  have k0X1 := X1.out.c0
  have k1X1 := X1.out.c1
  have k2X1 := X1.out.c2
  have kzX1 := X1.out.lt
  have k0X2 := X2.out.c0
  have k1X2 := X2.out.c1
  have k2X2 := X2.out.c2
  have kzX2 := X2.out.lt
  have k0X3 := X3.out.c0
  have k1X3 := X3.out.c1
  have k2X3 := X3.out.c2
  have kzX3 := X3.out.lt
  have k0X4 := X4.out.c0
  have k1X4 := X4.out.c1
  have k2X4 := X4.out.c2
  have kzX4 := X4.out.lt
  have k0X5 := X5.out.c0
  have k1X5 := X5.out.c1
  have k2X5 := X5.out.c2
  have kzX5 := X5.out.lt
  have k0X6 := X6.out.c0
  have k1X6 := X6.out.c1
  have k2X6 := X6.out.c2
  have kzX6 := X6.out.lt
  have k0X7 := X7.out.c0
  have k1X7 := X7.out.c1
  have k2X7 := X7.out.c2
  have kzX7 := X7.out.lt
  have k0X8 := X8.out.c0
  have k1X8 := X8.out.c1
  have k2X8 := X8.out.c2
  have kzX8 := X8.out.lt
  go_wp2_with fail
  refine (same_any x8.1.r x8.1.c x8.1.r x8.1.c A7 A8 x8.1.l x8.1.l c7 c8 _ S7.out S8.out (by omega) (by omega)).mono ?_
  rintro e w10 ⟨rfl, hb10⟩
  rw [sameB_self]
  clear k0X1 k1X1 k2X1 kzX1 k0X2 k1X2 k2X2 kzX2 k0X3 k1X3 k2X3 kzX3 k0X4 k1X4 k2X4 kzX4 k0X5 k1X5 k2X5 kzX5 k0X6 k1X6 k2X6 kzX6 k0X7 k1X7 k2X7 kzX7 k0X8 k1X8 k2X8 kzX8
  replace SL := Lib.hid (SL.out.later hb10)
  replace SM := Lib.hid (SM.out.later hb10)
  replace S1 := Lib.hid (S1.out.later hb10)
  replace S2 := Lib.hid (S2.out.later hb10)
  replace S3 := Lib.hid (S3.out.later hb10)
  replace S4 := Lib.hid (S4.out.later hb10)
  replace S5 := Lib.hid (S5.out.later hb10)
  replace S6 := Lib.hid (S6.out.later hb10)
  replace S7 := Lib.hid (S7.out.later hb10)
  replace S8 := Lib.hid (S8.out.later hb10)
  replace X1 := Lib.hid (X1.out.later hb10)
  replace X2 := Lib.hid (X2.out.later hb10)
  replace X3 := Lib.hid (X3.out.later hb10)
  replace X4 := Lib.hid (X4.out.later hb10)
  replace X5 := Lib.hid (X5.out.later hb10)
  replace X6 := Lib.hid (X6.out.later hb10)
  replace X7 := Lib.hid (X7.out.later hb10)
  replace X8 := Lib.hid (X8.out.later hb10)
  replace T := Below.two T hb10
  clear hb10
  have k0X1 := X1.out.c0
  have k1X1 := X1.out.c1
  have k2X1 := X1.out.c2
  have kzX1 := X1.out.lt
  have k0X2 := X2.out.c0
  have k1X2 := X2.out.c1
  have k2X2 := X2.out.c2
  have kzX2 := X2.out.lt
  have k0X3 := X3.out.c0
  have k1X3 := X3.out.c1
  have k2X3 := X3.out.c2
  have kzX3 := X3.out.lt
  have k0X4 := X4.out.c0
  have k1X4 := X4.out.c1
  have k2X4 := X4.out.c2
  have kzX4 := X4.out.lt
  have k0X5 := X5.out.c0
  have k1X5 := X5.out.c1
  have k2X5 := X5.out.c2
  have kzX5 := X5.out.lt
  have k0X6 := X6.out.c0
  have k1X6 := X6.out.c1
  have k2X6 := X6.out.c2
  have kzX6 := X6.out.lt
  have k0X7 := X7.out.c0
  have k1X7 := X7.out.c1
  have k2X7 := X7.out.c2
  have kzX7 := X7.out.lt
  have k0X8 := X8.out.c0
  have k1X8 := X8.out.c1
  have k2X8 := X8.out.c2
  have kzX8 := X8.out.lt
  go_wp2_with fail
  go_ret
  exact ⟨rfl, T⟩
set_option maxHeartbeats 4000000 in
theorem lowers_16 (w : World) (rows : Int) (nl capl nm capm : Nat) (al am : Option Addr) (l m : List (Int × Int)) (hU : UI l) (hV : UI m) (hsl : Si w w.heap.size al l) (hsm : Si w w.heap.size am m)
    (hk : (if (100 : Int) < (nl : Int) then (100 : Int) else (nl : Int)) = (l.length : Int)) (hq : l.length ≤ capl) (hm : capl ≤ 9223372036854775807) (h100 : l.length ≤ 100)
    (hk2 : (if (100 : Int) < (nm : Int) then (100 : Int) else (nm : Int)) = (m.length : Int)) (hq2 : m.length ≤ capm) (hm2 : capm ≤ 9223372036854775807) (h200 : m.length ≤ 100) (r1 : 1 ≤ rows) (r2 : rows ≤ 4) :
    Calls Try.prog 9 #[.int .i64 rows, .int .i64 16, .slice al nl capl, .slice am nm capm] w fun e w' => e = .returned (.bool true) ∧ Below w.heap.size w w' := by
  have T := below_0 w
  have SL := Lib.hid hsl
  have SM := Lib.hid hsm
  clear hsl hsm
  obtain ⟨p1, p2, p3, p4, p5, p6, p7, p8⟩ := lowers_law r1 r2 (show (16 : Int) = 8 ∨ (16 : Int) = 16 ∨ (16 : Int) = 32 by omega) hU hV
  rw [show (16 : Int) / 2 = 8 by decide] at p3 p4
  have P3 := Lib.hid p3
  have P8 := Lib.hid p8
  have Q1 := Lib.hid p1
  have Q2 := Lib.hid p2
  have Q4 := Lib.hid p4
  have Q5 := Lib.hid p5
  have Q6 := Lib.hid p6
  have Q7 := Lib.hid p7
  clear p1 p2 p3 p4 p5 p6 p7 p8
  go_enter Try.func9, Try.ntmps9
  go_wp2_with fail
  refine (shown_any _).mono ?_
  rintro e w90 ⟨rfl, hb90⟩
  replace SL := Lib.hid (SL.out.later hb90)
  replace SM := Lib.hid (SM.out.later hb90)
  replace T := Below.two T hb90
  clear hb90
  go_wp2_with fail
  clear hk hk2
  refine (of_any rows 16 al l capl hU (by omega) _ SL.out).mono ?_
  rintro e w1 ⟨hb1, v1, rfl, hh1⟩
  obtain ⟨A1, c1, rfl, hc1, hA1, hS1, hF1⟩ := hh1
  replace SL := Lib.hid (SL.out.later hb1)
  replace SM := Lib.hid (SM.out.later hb1)
  replace T := Below.two T hb1
  obtain ⟨x1, hx1⟩ : ∃ x, ofC rows 16 l = x := ⟨_, rfl⟩
  rw [hx1] at hS1 hc1 ⊢
  have HX1 := Lib.hid hx1
  clear hx1
  have S1 := Lib.hid hS1
  have F1 := Lib.hid hF1
  clear hS1 hF1 hA1 hb1
  go_wp2_with fail
  have X1 := Lib.hid (Blk.new w1 24 #[.int .i64 x1.1.r, .int .i64 x1.1.c, .slice A1 x1.1.l.length c1])
  replace SL := Lib.hid (SL.out.later (below_al (below_0 _) (.cells #[.int .i64 x1.1.r, .int .i64 x1.1.c, .slice A1 x1.1.l.length c1] 24)))
  replace SM := Lib.hid (SM.out.later (below_al (below_0 _) (.cells #[.int .i64 x1.1.r, .int .i64 x1.1.c, .slice A1 x1.1.l.length c1] 24)))
  replace S1 := Lib.hid (S1.out.later (below_al (below_0 _) (.cells #[.int .i64 x1.1.r, .int .i64 x1.1.c, .slice A1 x1.1.l.length c1] 24)))
  replace T := below_al T (.cells #[.int .i64 x1.1.r, .int .i64 x1.1.c, .slice A1 x1.1.l.length c1] 24)
  generalize w1.alloc (.cells #[.int .i64 x1.1.r, .int .i64 x1.1.c, .slice A1 x1.1.l.length c1] 24) = V1 at *
  rw [HX1.out] at P3 P8 Q1 Q6 Q7
  have U1 : Us x1.1.l := by rw [← HX1.out]; exact ofC_us _ _ hU
  refine (of_any rows 16 am m capm hV (by omega) _ SM.out).mono ?_
  rintro e w2 ⟨hb2, v2, rfl, hh2⟩
  obtain ⟨A2, c2, rfl, hc2, hA2, hS2, hF2⟩ := hh2
  replace SL := Lib.hid (SL.out.later hb2)
  replace SM := Lib.hid (SM.out.later hb2)
  replace S1 := Lib.hid (S1.out.later hb2)
  replace X1 := Lib.hid (X1.out.later hb2)
  replace T := Below.two T hb2
  obtain ⟨x2, hx2⟩ : ∃ x, ofC rows 16 m = x := ⟨_, rfl⟩
  rw [hx2] at hS2 hc2 ⊢
  have HX2 := Lib.hid hx2
  clear hx2
  have S2 := Lib.hid hS2
  have F2 := Lib.hid hF2
  clear hS2 hF2 hA2 hb2
  have k0X1 := X1.out.c0
  have k1X1 := X1.out.c1
  have k2X1 := X1.out.c2
  have kzX1 := X1.out.lt
  go_wp2_with fail
  clear k0X1 k1X1 k2X1 kzX1
  have X2 := Lib.hid (Blk.new w2 24 #[.int .i64 x2.1.r, .int .i64 x2.1.c, .slice A2 x2.1.l.length c2])
  replace SL := Lib.hid (SL.out.later (below_al (below_0 _) (.cells #[.int .i64 x2.1.r, .int .i64 x2.1.c, .slice A2 x2.1.l.length c2] 24)))
  replace SM := Lib.hid (SM.out.later (below_al (below_0 _) (.cells #[.int .i64 x2.1.r, .int .i64 x2.1.c, .slice A2 x2.1.l.length c2] 24)))
  replace S1 := Lib.hid (S1.out.later (below_al (below_0 _) (.cells #[.int .i64 x2.1.r, .int .i64 x2.1.c, .slice A2 x2.1.l.length c2] 24)))
  replace S2 := Lib.hid (S2.out.later (below_al (below_0 _) (.cells #[.int .i64 x2.1.r, .int .i64 x2.1.c, .slice A2 x2.1.l.length c2] 24)))
  replace X1 := Lib.hid (X1.out.alloc (.cells #[.int .i64 x2.1.r, .int .i64 x2.1.c, .slice A2 x2.1.l.length c2] 24))
  replace T := below_al T (.cells #[.int .i64 x2.1.r, .int .i64 x2.1.c, .slice A2 x2.1.l.length c2] 24)
  generalize w2.alloc (.cells #[.int .i64 x2.1.r, .int .i64 x2.1.c, .slice A2 x2.1.l.length c2] 24) = V2 at *
  rw [HX2.out] at P8 Q2 Q5 Q6 Q7
  have U2 : Us x2.1.l := by rw [← HX2.out]; exact ofC_us _ _ hV
  refine (lower_any x1.1.r x1.1.c A1 x1.1.l c1 U1 _ S1.out).mono ?_
  rintro e w3 ⟨hb3, v3, rfl, hh3⟩
  obtain ⟨A3, c3, rfl, hc3, hA3, hS3, hF3⟩ := hh3
  replace SL := Lib.hid (SL.out.later hb3)
  replace SM := Lib.hid (SM.out.later hb3)
  replace S1 := Lib.hid (S1.out.later hb3)
  replace S2 := Lib.hid (S2.out.later hb3)
  replace X1 := Lib.hid (X1.out.later hb3)
  replace X2 := Lib.hid (X2.out.later hb3)
  replace T := Below.two T hb3
  obtain ⟨x3, hx3⟩ : ∃ x, lowerC x1.1 = x := ⟨_, rfl⟩
  rw [hx3] at hS3 hc3 ⊢
  have HX3 := Lib.hid hx3
  clear hx3
  have S3 := Lib.hid hS3
  have F3 := Lib.hid hF3
  clear hS3 hF3 hA3 hb3
  have k0X1 := X1.out.c0
  have k1X1 := X1.out.c1
  have k2X1 := X1.out.c2
  have kzX1 := X1.out.lt
  have k0X2 := X2.out.c0
  have k1X2 := X2.out.c1
  have k2X2 := X2.out.c2
  have kzX2 := X2.out.lt
  go_wp2_with fail
  clear k0X1 k1X1 k2X1 kzX1 k0X2 k1X2 k2X2 kzX2
  have X3 := Lib.hid (Blk.new w3 24 #[.int .i64 x3.1.r, .int .i64 x3.1.c, .slice A3 x3.1.l.length c3])
  replace SL := Lib.hid (SL.out.later (below_al (below_0 _) (.cells #[.int .i64 x3.1.r, .int .i64 x3.1.c, .slice A3 x3.1.l.length c3] 24)))
  replace SM := Lib.hid (SM.out.later (below_al (below_0 _) (.cells #[.int .i64 x3.1.r, .int .i64 x3.1.c, .slice A3 x3.1.l.length c3] 24)))
  replace S1 := Lib.hid (S1.out.later (below_al (below_0 _) (.cells #[.int .i64 x3.1.r, .int .i64 x3.1.c, .slice A3 x3.1.l.length c3] 24)))
  replace S2 := Lib.hid (S2.out.later (below_al (below_0 _) (.cells #[.int .i64 x3.1.r, .int .i64 x3.1.c, .slice A3 x3.1.l.length c3] 24)))
  replace S3 := Lib.hid (S3.out.later (below_al (below_0 _) (.cells #[.int .i64 x3.1.r, .int .i64 x3.1.c, .slice A3 x3.1.l.length c3] 24)))
  replace X1 := Lib.hid (X1.out.alloc (.cells #[.int .i64 x3.1.r, .int .i64 x3.1.c, .slice A3 x3.1.l.length c3] 24))
  replace X2 := Lib.hid (X2.out.alloc (.cells #[.int .i64 x3.1.r, .int .i64 x3.1.c, .slice A3 x3.1.l.length c3] 24))
  replace T := below_al T (.cells #[.int .i64 x3.1.r, .int .i64 x3.1.c, .slice A3 x3.1.l.length c3] 24)
  generalize w3.alloc (.cells #[.int .i64 x3.1.r, .int .i64 x3.1.c, .slice A3 x3.1.l.length c3] 24) = V3 at *
  rw [HX3.out] at P3 P8
  have U3 : Us x3.1.l := by rw [← HX3.out]; exact lowerC_us U1
  have L3 : x3.1.l.length ≤ 128 := by rw [← HX3.out]; exact lowerC_len _
  refine (of_any rows 8 al l capl hU (by omega) _ SL.out).mono ?_
  rintro e w4 ⟨hb4, v4, rfl, hh4⟩
  obtain ⟨A4, c4, rfl, hc4, hA4, hS4, hF4⟩ := hh4
  replace SL := Lib.hid (SL.out.later hb4)
  replace SM := Lib.hid (SM.out.later hb4)
  replace S1 := Lib.hid (S1.out.later hb4)
  replace S2 := Lib.hid (S2.out.later hb4)
  replace S3 := Lib.hid (S3.out.later hb4)
  replace X1 := Lib.hid (X1.out.later hb4)
  replace X2 := Lib.hid (X2.out.later hb4)
  replace X3 := Lib.hid (X3.out.later hb4)
  replace T := Below.two T hb4
  obtain ⟨x4, hx4⟩ : ∃ x, ofC rows 8 l = x := ⟨_, rfl⟩
  rw [hx4] at hS4 hc4 ⊢
  have HX4 := Lib.hid hx4
  clear hx4
  have S4 := Lib.hid hS4
  have F4 := Lib.hid hF4
  clear hS4 hF4 hA4 hb4
  have k0X1 := X1.out.c0
  have k1X1 := X1.out.c1
  have k2X1 := X1.out.c2
  have kzX1 := X1.out.lt
  have k0X2 := X2.out.c0
  have k1X2 := X2.out.c1
  have k2X2 := X2.out.c2
  have kzX2 := X2.out.lt
  have k0X3 := X3.out.c0
  have k1X3 := X3.out.c1
  have k2X3 := X3.out.c2
  have kzX3 := X3.out.lt
  go_wp2_with fail
  clear k0X1 k1X1 k2X1 kzX1 k0X2 k1X2 k2X2 kzX2 k0X3 k1X3 k2X3 kzX3
  have X4 := Lib.hid (Blk.new w4 24 #[.int .i64 x4.1.r, .int .i64 x4.1.c, .slice A4 x4.1.l.length c4])
  replace SL := Lib.hid (SL.out.later (below_al (below_0 _) (.cells #[.int .i64 x4.1.r, .int .i64 x4.1.c, .slice A4 x4.1.l.length c4] 24)))
  replace SM := Lib.hid (SM.out.later (below_al (below_0 _) (.cells #[.int .i64 x4.1.r, .int .i64 x4.1.c, .slice A4 x4.1.l.length c4] 24)))
  replace S1 := Lib.hid (S1.out.later (below_al (below_0 _) (.cells #[.int .i64 x4.1.r, .int .i64 x4.1.c, .slice A4 x4.1.l.length c4] 24)))
  replace S2 := Lib.hid (S2.out.later (below_al (below_0 _) (.cells #[.int .i64 x4.1.r, .int .i64 x4.1.c, .slice A4 x4.1.l.length c4] 24)))
  replace S3 := Lib.hid (S3.out.later (below_al (below_0 _) (.cells #[.int .i64 x4.1.r, .int .i64 x4.1.c, .slice A4 x4.1.l.length c4] 24)))
  replace S4 := Lib.hid (S4.out.later (below_al (below_0 _) (.cells #[.int .i64 x4.1.r, .int .i64 x4.1.c, .slice A4 x4.1.l.length c4] 24)))
  replace X1 := Lib.hid (X1.out.alloc (.cells #[.int .i64 x4.1.r, .int .i64 x4.1.c, .slice A4 x4.1.l.length c4] 24))
  replace X2 := Lib.hid (X2.out.alloc (.cells #[.int .i64 x4.1.r, .int .i64 x4.1.c, .slice A4 x4.1.l.length c4] 24))
  replace X3 := Lib.hid (X3.out.alloc (.cells #[.int .i64 x4.1.r, .int .i64 x4.1.c, .slice A4 x4.1.l.length c4] 24))
  replace T := below_al T (.cells #[.int .i64 x4.1.r, .int .i64 x4.1.c, .slice A4 x4.1.l.length c4] 24)
  generalize w4.alloc (.cells #[.int .i64 x4.1.r, .int .i64 x4.1.c, .slice A4 x4.1.l.length c4] 24) = V4 at *
  rw [HX4.out] at P3 Q4
  refine (lower_any x2.1.r x2.1.c A2 x2.1.l c2 U2 _ S2.out).mono ?_
  rintro e w5 ⟨hb5, v5, rfl, hh5⟩
  obtain ⟨A5, c5, rfl, hc5, hA5, hS5, hF5⟩ := hh5
  replace SL := Lib.hid (SL.out.later hb5)
  replace SM := Lib.hid (SM.out.later hb5)
  replace S1 := Lib.hid (S1.out.later hb5)
  replace S2 := Lib.hid (S2.out.later hb5)
  replace S3 := Lib.hid (S3.out.later hb5)
  replace S4 := Lib.hid (S4.out.later hb5)
  replace X1 := Lib.hid (X1.out.later hb5)
  replace X2 := Lib.hid (X2.out.later hb5)
  replace X3 := Lib.hid (X3.out.later hb5)
  replace X4 := Lib.hid (X4.out.later hb5)
  replace T := Below.two T hb5
  obtain ⟨x5, hx5⟩ : ∃ x, lowerC x2.1 = x := ⟨_, rfl⟩
  rw [hx5] at hS5 hc5 ⊢
  have HX5 := Lib.hid hx5
  clear hx5
  have S5 := Lib.hid hS5
  have F5 := Lib.hid hF5
  clear hS5 hF5 hA5 hb5
  have k0X1 := X1.out.c0
  have k1X1 := X1.out.c1
  have k2X1 := X1.out.c2
  have kzX1 := X1.out.lt
  have k0X2 := X2.out.c0
  have k1X2 := X2.out.c1
  have k2X2 := X2.out.c2
  have kzX2 := X2.out.lt
  have k0X3 := X3.out.c0
  have k1X3 := X3.out.c1
  have k2X3 := X3.out.c2
  have kzX3 := X3.out.lt
  have k0X4 := X4.out.c0
  have k1X4 := X4.out.c1
  have k2X4 := X4.out.c2
  have kzX4 := X4.out.lt
  go_wp2_with fail
  clear k0X1 k1X1 k2X1 kzX1 k0X2 k1X2 k2X2 kzX2 k0X3 k1X3 k2X3 kzX3 k0X4 k1X4 k2X4 kzX4
  have X5 := Lib.hid (Blk.new w5 24 #[.int .i64 x5.1.r, .int .i64 x5.1.c, .slice A5 x5.1.l.length c5])
  replace SL := Lib.hid (SL.out.later (below_al (below_0 _) (.cells #[.int .i64 x5.1.r, .int .i64 x5.1.c, .slice A5 x5.1.l.length c5] 24)))
  replace SM := Lib.hid (SM.out.later (below_al (below_0 _) (.cells #[.int .i64 x5.1.r, .int .i64 x5.1.c, .slice A5 x5.1.l.length c5] 24)))
  replace S1 := Lib.hid (S1.out.later (below_al (below_0 _) (.cells #[.int .i64 x5.1.r, .int .i64 x5.1.c, .slice A5 x5.1.l.length c5] 24)))
  replace S2 := Lib.hid (S2.out.later (below_al (below_0 _) (.cells #[.int .i64 x5.1.r, .int .i64 x5.1.c, .slice A5 x5.1.l.length c5] 24)))
  replace S3 := Lib.hid (S3.out.later (below_al (below_0 _) (.cells #[.int .i64 x5.1.r, .int .i64 x5.1.c, .slice A5 x5.1.l.length c5] 24)))
  replace S4 := Lib.hid (S4.out.later (below_al (below_0 _) (.cells #[.int .i64 x5.1.r, .int .i64 x5.1.c, .slice A5 x5.1.l.length c5] 24)))
  replace S5 := Lib.hid (S5.out.later (below_al (below_0 _) (.cells #[.int .i64 x5.1.r, .int .i64 x5.1.c, .slice A5 x5.1.l.length c5] 24)))
  replace X1 := Lib.hid (X1.out.alloc (.cells #[.int .i64 x5.1.r, .int .i64 x5.1.c, .slice A5 x5.1.l.length c5] 24))
  replace X2 := Lib.hid (X2.out.alloc (.cells #[.int .i64 x5.1.r, .int .i64 x5.1.c, .slice A5 x5.1.l.length c5] 24))
  replace X3 := Lib.hid (X3.out.alloc (.cells #[.int .i64 x5.1.r, .int .i64 x5.1.c, .slice A5 x5.1.l.length c5] 24))
  replace X4 := Lib.hid (X4.out.alloc (.cells #[.int .i64 x5.1.r, .int .i64 x5.1.c, .slice A5 x5.1.l.length c5] 24))
  replace T := below_al T (.cells #[.int .i64 x5.1.r, .int .i64 x5.1.c, .slice A5 x5.1.l.length c5] 24)
  generalize w5.alloc (.cells #[.int .i64 x5.1.r, .int .i64 x5.1.c, .slice A5 x5.1.l.length c5] 24) = V5 at *
  rw [HX5.out] at P8 Q5
  have U5 : Us x5.1.l := by rw [← HX5.out]; exact lowerC_us U2
  refine (merge_any x1.1.r x1.1.c x2.1.r x2.1.c A1 A2 x1.1.l x2.1.l c1 c2 _ S1.out S2.out U1 U2).mono ?_
  rintro e w6 ⟨hb6, v6, rfl, hh6⟩
  obtain ⟨A6, c6, rfl, hc6, hA6, hS6, hF6⟩ := hh6
  replace SL := Lib.hid (SL.out.later hb6)
  replace SM := Lib.hid (SM.out.later hb6)
  replace S1 := Lib.hid (S1.out.later hb6)
  replace S2 := Lib.hid (S2.out.later hb6)
  replace S3 := Lib.hid (S3.out.later hb6)
  replace S4 := Lib.hid (S4.out.later hb6)
  replace S5 := Lib.hid (S5.out.later hb6)
  replace X1 := Lib.hid (X1.out.later hb6)
  replace X2 := Lib.hid (X2.out.later hb6)
  replace X3 := Lib.hid (X3.out.later hb6)
  replace X4 := Lib.hid (X4.out.later hb6)
  replace X5 := Lib.hid (X5.out.later hb6)
  replace T := Below.two T hb6
  obtain ⟨x6, hx6⟩ : ∃ x, mergeC x1.1 x2.1 = x := ⟨_, rfl⟩
  rw [hx6] at hS6 hc6 ⊢
  have HX6 := Lib.hid hx6
  clear hx6
  have S6 := Lib.hid hS6
  have F6 := Lib.hid hF6
  clear hS6 hF6 hA6 hb6
  have k0X1 := X1.out.c0
  have k1X1 := X1.out.c1
  have k2X1 := X1.out.c2
  have kzX1 := X1.out.lt
  have k0X2 := X2.out.c0
  have k1X2 := X2.out.c1
  have k2X2 := X2.out.c2
  have kzX2 := X2.out.lt
  have k0X3 := X3.out.c0
  have k1X3 := X3.out.c1
  have k2X3 := X3.out.c2
  have kzX3 := X3.out.lt
  have k0X4 := X4.out.c0
  have k1X4 := X4.out.c1
  have k2X4 := X4.out.c2
  have kzX4 := X4.out.lt
  have k0X5 := X5.out.c0
  have k1X5 := X5.out.c1
  have k2X5 := X5.out.c2
  have kzX5 := X5.out.lt
  go_wp2_with fail
  clear k0X1 k1X1 k2X1 kzX1 k0X2 k1X2 k2X2 kzX2 k0X3 k1X3 k2X3 kzX3 k0X4 k1X4 k2X4 kzX4 k0X5 k1X5 k2X5 kzX5
  have X6 := Lib.hid (Blk.new w6 24 #[.int .i64 x6.1.r, .int .i64 x6.1.c, .slice A6 x6.1.l.length c6])
  replace SL := Lib.hid (SL.out.later (below_al (below_0 _) (.cells #[.int .i64 x6.1.r, .int .i64 x6.1.c, .slice A6 x6.1.l.length c6] 24)))
  replace SM := Lib.hid (SM.out.later (below_al (below_0 _) (.cells #[.int .i64 x6.1.r, .int .i64 x6.1.c, .slice A6 x6.1.l.length c6] 24)))
  replace S1 := Lib.hid (S1.out.later (below_al (below_0 _) (.cells #[.int .i64 x6.1.r, .int .i64 x6.1.c, .slice A6 x6.1.l.length c6] 24)))
  replace S2 := Lib.hid (S2.out.later (below_al (below_0 _) (.cells #[.int .i64 x6.1.r, .int .i64 x6.1.c, .slice A6 x6.1.l.length c6] 24)))
  replace S3 := Lib.hid (S3.out.later (below_al (below_0 _) (.cells #[.int .i64 x6.1.r, .int .i64 x6.1.c, .slice A6 x6.1.l.length c6] 24)))
  replace S4 := Lib.hid (S4.out.later (below_al (below_0 _) (.cells #[.int .i64 x6.1.r, .int .i64 x6.1.c, .slice A6 x6.1.l.length c6] 24)))
  replace S5 := Lib.hid (S5.out.later (below_al (below_0 _) (.cells #[.int .i64 x6.1.r, .int .i64 x6.1.c, .slice A6 x6.1.l.length c6] 24)))
  replace S6 := Lib.hid (S6.out.later (below_al (below_0 _) (.cells #[.int .i64 x6.1.r, .int .i64 x6.1.c, .slice A6 x6.1.l.length c6] 24)))
  replace X1 := Lib.hid (X1.out.alloc (.cells #[.int .i64 x6.1.r, .int .i64 x6.1.c, .slice A6 x6.1.l.length c6] 24))
  replace X2 := Lib.hid (X2.out.alloc (.cells #[.int .i64 x6.1.r, .int .i64 x6.1.c, .slice A6 x6.1.l.length c6] 24))
  replace X3 := Lib.hid (X3.out.alloc (.cells #[.int .i64 x6.1.r, .int .i64 x6.1.c, .slice A6 x6.1.l.length c6] 24))
  replace X4 := Lib.hid (X4.out.alloc (.cells #[.int .i64 x6.1.r, .int .i64 x6.1.c, .slice A6 x6.1.l.length c6] 24))
  replace X5 := Lib.hid (X5.out.alloc (.cells #[.int .i64 x6.1.r, .int .i64 x6.1.c, .slice A6 x6.1.l.length c6] 24))
  replace T := below_al T (.cells #[.int .i64 x6.1.r, .int .i64 x6.1.c, .slice A6 x6.1.l.length c6] 24)
  generalize w6.alloc (.cells #[.int .i64 x6.1.r, .int .i64 x6.1.c, .slice A6 x6.1.l.length c6] 24) = V6 at *
  rw [HX6.out] at P8 Q6 Q7
  have U6 : Us x6.1.l := by rw [← HX6.out]; exact mergeC_us U1 U2
  refine (lower_any x6.1.r x6.1.c A6 x6.1.l c6 U6 _ S6.out).mono ?_
  rintro e w7 ⟨hb7, v7, rfl, hh7⟩
  obtain ⟨A7, c7, rfl, hc7, hA7, hS7, hF7⟩ := hh7
  replace SL := Lib.hid (SL.out.later hb7)
  replace SM := Lib.hid (SM.out.later hb7)
  replace S1 := Lib.hid (S1.out.later hb7)
  replace S2 := Lib.hid (S2.out.later hb7)
  replace S3 := Lib.hid (S3.out.later hb7)
  replace S4 := Lib.hid (S4.out.later hb7)
  replace S5 := Lib.hid (S5.out.later hb7)
  replace S6 := Lib.hid (S6.out.later hb7)
  replace X1 := Lib.hid (X1.out.later hb7)
  replace X2 := Lib.hid (X2.out.later hb7)
  replace X3 := Lib.hid (X3.out.later hb7)
  replace X4 := Lib.hid (X4.out.later hb7)
  replace X5 := Lib.hid (X5.out.later hb7)
  replace X6 := Lib.hid (X6.out.later hb7)
  replace T := Below.two T hb7
  obtain ⟨x7, hx7⟩ : ∃ x, lowerC x6.1 = x := ⟨_, rfl⟩
  rw [hx7] at hS7 hc7 ⊢
  have HX7 := Lib.hid hx7
  clear hx7
  have S7 := Lib.hid hS7
  have F7 := Lib.hid hF7
  clear hS7 hF7 hA7 hb7
  have k0X1 := X1.out.c0
  have k1X1 := X1.out.c1
  have k2X1 := X1.out.c2
  have kzX1 := X1.out.lt
  have k0X2 := X2.out.c0
  have k1X2 := X2.out.c1
  have k2X2 := X2.out.c2
  have kzX2 := X2.out.lt
  have k0X3 := X3.out.c0
  have k1X3 := X3.out.c1
  have k2X3 := X3.out.c2
  have kzX3 := X3.out.lt
  have k0X4 := X4.out.c0
  have k1X4 := X4.out.c1
  have k2X4 := X4.out.c2
  have kzX4 := X4.out.lt
  have k0X5 := X5.out.c0
  have k1X5 := X5.out.c1
  have k2X5 := X5.out.c2
  have kzX5 := X5.out.lt
  have k0X6 := X6.out.c0
  have k1X6 := X6.out.c1
  have k2X6 := X6.out.c2
  have kzX6 := X6.out.lt
  go_wp2_with fail
  clear k0X1 k1X1 k2X1 kzX1 k0X2 k1X2 k2X2 kzX2 k0X3 k1X3 k2X3 kzX3 k0X4 k1X4 k2X4 kzX4 k0X5 k1X5 k2X5 kzX5 k0X6 k1X6 k2X6 kzX6
  have X7 := Lib.hid (Blk.new w7 24 #[.int .i64 x7.1.r, .int .i64 x7.1.c, .slice A7 x7.1.l.length c7])
  replace SL := Lib.hid (SL.out.later (below_al (below_0 _) (.cells #[.int .i64 x7.1.r, .int .i64 x7.1.c, .slice A7 x7.1.l.length c7] 24)))
  replace SM := Lib.hid (SM.out.later (below_al (below_0 _) (.cells #[.int .i64 x7.1.r, .int .i64 x7.1.c, .slice A7 x7.1.l.length c7] 24)))
  replace S1 := Lib.hid (S1.out.later (below_al (below_0 _) (.cells #[.int .i64 x7.1.r, .int .i64 x7.1.c, .slice A7 x7.1.l.length c7] 24)))
  replace S2 := Lib.hid (S2.out.later (below_al (below_0 _) (.cells #[.int .i64 x7.1.r, .int .i64 x7.1.c, .slice A7 x7.1.l.length c7] 24)))
  replace S3 := Lib.hid (S3.out.later (below_al (below_0 _) (.cells #[.int .i64 x7.1.r, .int .i64 x7.1.c, .slice A7 x7.1.l.length c7] 24)))
  replace S4 := Lib.hid (S4.out.later (below_al (below_0 _) (.cells #[.int .i64 x7.1.r, .int .i64 x7.1.c, .slice A7 x7.1.l.length c7] 24)))
  replace S5 := Lib.hid (S5.out.later (below_al (below_0 _) (.cells #[.int .i64 x7.1.r, .int .i64 x7.1.c, .slice A7 x7.1.l.length c7] 24)))
  replace S6 := Lib.hid (S6.out.later (below_al (below_0 _) (.cells #[.int .i64 x7.1.r, .int .i64 x7.1.c, .slice A7 x7.1.l.length c7] 24)))
  replace S7 := Lib.hid (S7.out.later (below_al (below_0 _) (.cells #[.int .i64 x7.1.r, .int .i64 x7.1.c, .slice A7 x7.1.l.length c7] 24)))
  replace X1 := Lib.hid (X1.out.alloc (.cells #[.int .i64 x7.1.r, .int .i64 x7.1.c, .slice A7 x7.1.l.length c7] 24))
  replace X2 := Lib.hid (X2.out.alloc (.cells #[.int .i64 x7.1.r, .int .i64 x7.1.c, .slice A7 x7.1.l.length c7] 24))
  replace X3 := Lib.hid (X3.out.alloc (.cells #[.int .i64 x7.1.r, .int .i64 x7.1.c, .slice A7 x7.1.l.length c7] 24))
  replace X4 := Lib.hid (X4.out.alloc (.cells #[.int .i64 x7.1.r, .int .i64 x7.1.c, .slice A7 x7.1.l.length c7] 24))
  replace X5 := Lib.hid (X5.out.alloc (.cells #[.int .i64 x7.1.r, .int .i64 x7.1.c, .slice A7 x7.1.l.length c7] 24))
  replace X6 := Lib.hid (X6.out.alloc (.cells #[.int .i64 x7.1.r, .int .i64 x7.1.c, .slice A7 x7.1.l.length c7] 24))
  replace T := below_al T (.cells #[.int .i64 x7.1.r, .int .i64 x7.1.c, .slice A7 x7.1.l.length c7] 24)
  generalize w7.alloc (.cells #[.int .i64 x7.1.r, .int .i64 x7.1.c, .slice A7 x7.1.l.length c7] 24) = V7 at *
  rw [HX7.out] at P8 Q7
  have L7 : x7.1.l.length ≤ 128 := by rw [← HX7.out]; exact lowerC_len _
  refine (merge_any x3.1.r x3.1.c x5.1.r x5.1.c A3 A5 x3.1.l x5.1.l c3 c5 _ S3.out S5.out U3 U5).mono ?_
  rintro e w8 ⟨hb8, v8, rfl, hh8⟩
  obtain ⟨A8, c8, rfl, hc8, hA8, hS8, hF8⟩ := hh8
  replace SL := Lib.hid (SL.out.later hb8)
  replace SM := Lib.hid (SM.out.later hb8)
  replace S1 := Lib.hid (S1.out.later hb8)
  replace S2 := Lib.hid (S2.out.later hb8)
  replace S3 := Lib.hid (S3.out.later hb8)
  replace S4 := Lib.hid (S4.out.later hb8)
  replace S5 := Lib.hid (S5.out.later hb8)
  replace S6 := Lib.hid (S6.out.later hb8)
  replace S7 := Lib.hid (S7.out.later hb8)
  replace X1 := Lib.hid (X1.out.later hb8)
  replace X2 := Lib.hid (X2.out.later hb8)
  replace X3 := Lib.hid (X3.out.later hb8)
  replace X4 := Lib.hid (X4.out.later hb8)
  replace X5 := Lib.hid (X5.out.later hb8)
  replace X6 := Lib.hid (X6.out.later hb8)
  replace X7 := Lib.hid (X7.out.later hb8)
  replace T := Below.two T hb8
  obtain ⟨x8, hx8⟩ : ∃ x, mergeC x3.1 x5.1 = x := ⟨_, rfl⟩
  rw [hx8] at hS8 hc8 ⊢
  have HX8 := Lib.hid hx8
  clear hx8
  have S8 := Lib.hid hS8
  have F8 := Lib.hid hF8
  clear hS8 hF8 hA8 hb8
  have k0X1 := X1.out.c0
  have k1X1 := X1.out.c1
  have k2X1 := X1.out.c2
  have kzX1 := X1.out.lt
  have k0X2 := X2.out.c0
  have k1X2 := X2.out.c1
  have k2X2 := X2.out.c2
  have kzX2 := X2.out.lt
  have k0X3 := X3.out.c0
  have k1X3 := X3.out.c1
  have k2X3 := X3.out.c2
  have kzX3 := X3.out.lt
  have k0X4 := X4.out.c0
  have k1X4 := X4.out.c1
  have k2X4 := X4.out.c2
  have kzX4 := X4.out.lt
  have k0X5 := X5.out.c0
  have k1X5 := X5.out.c1
  have k2X5 := X5.out.c2
  have kzX5 := X5.out.lt
  have k0X6 := X6.out.c0
  have k1X6 := X6.out.c1
  have k2X6 := X6.out.c2
  have kzX6 := X6.out.lt
  have k0X7 := X7.out.c0
  have k1X7 := X7.out.c1
  have k2X7 := X7.out.c2
  have kzX7 := X7.out.lt
  rw [HX8.out] at P8
  have e4 : x4 = x3 := P3.out.symm
  have e8 : x8 = x7 := P8.out.symm
  subst e4 e8
  have a1 := Q1.out
  have a2 := Q2.out
  have a4 := Q4.out
  have a5 := Q5.out
  have a6 := Q6.out
  have a7 := Q7.out
  go_wp2_with fail
  clear k0X1 k1X1 k2X1 kzX1 k0X2 k1X2 k2X2 kzX2 k0X3 k1X3 k2X3 kzX3 k0X4 k1X4 k2X4 kzX4 k0X5 k1X5 k2X5 kzX5 k0X6 k1X6 k2X6 kzX6 k0X7 k1X7 k2X7 kzX7
  have X8 := Lib.hid (Blk.new w8 24 #[.int .i64 x8.1.r, .int .i64 x8.1.c, .slice A8 x8.1.l.length c8])
  replace SL := Lib.hid (SL.out.later (below_al (below_0 _) (.cells #[.int .i64 x8.1.r, .int .i64 x8.1.c, .slice A8 x8.1.l.length c8] 24)))
  replace SM := Lib.hid (SM.out.later (below_al (below_0 _) (.cells #[.int .i64 x8.1.r, .int .i64 x8.1.c, .slice A8 x8.1.l.length c8] 24)))
  replace S1 := Lib.hid (S1.out.later (below_al (below_0 _) (.cells #[.int .i64 x8.1.r, .int .i64 x8.1.c, .slice A8 x8.1.l.length c8] 24)))
  replace S2 := Lib.hid (S2.out.later (below_al (below_0 _) (.cells #[.int .i64 x8.1.r, .int .i64 x8.1.c, .slice A8 x8.1.l.length c8] 24)))
  replace S3 := Lib.hid (S3.out.later (below_al (below_0 _) (.cells #[.int .i64 x8.1.r, .int .i64 x8.1.c, .slice A8 x8.1.l.length c8] 24)))
  replace S4 := Lib.hid (S4.out.later (below_al (below_0 _) (.cells #[.int .i64 x8.1.r, .int .i64 x8.1.c, .slice A8 x8.1.l.length c8] 24)))
  replace S5 := Lib.hid (S5.out.later (below_al (below_0 _) (.cells #[.int .i64 x8.1.r, .int .i64 x8.1.c, .slice A8 x8.1.l.length c8] 24)))
  replace S6 := Lib.hid (S6.out.later (below_al (below_0 _) (.cells #[.int .i64 x8.1.r, .int .i64 x8.1.c, .slice A8 x8.1.l.length c8] 24)))
  replace S7 := Lib.hid (S7.out.later (below_al (below_0 _) (.cells #[.int .i64 x8.1.r, .int .i64 x8.1.c, .slice A8 x8.1.l.length c8] 24)))
  replace S8 := Lib.hid (S8.out.later (below_al (below_0 _) (.cells #[.int .i64 x8.1.r, .int .i64 x8.1.c, .slice A8 x8.1.l.length c8] 24)))
  replace X1 := Lib.hid (X1.out.alloc (.cells #[.int .i64 x8.1.r, .int .i64 x8.1.c, .slice A8 x8.1.l.length c8] 24))
  replace X2 := Lib.hid (X2.out.alloc (.cells #[.int .i64 x8.1.r, .int .i64 x8.1.c, .slice A8 x8.1.l.length c8] 24))
  replace X3 := Lib.hid (X3.out.alloc (.cells #[.int .i64 x8.1.r, .int .i64 x8.1.c, .slice A8 x8.1.l.length c8] 24))
  replace X4 := Lib.hid (X4.out.alloc (.cells #[.int .i64 x8.1.r, .int .i64 x8.1.c, .slice A8 x8.1.l.length c8] 24))
  replace X5 := Lib.hid (X5.out.alloc (.cells #[.int .i64 x8.1.r, .int .i64 x8.1.c, .slice A8 x8.1.l.length c8] 24))
  replace X6 := Lib.hid (X6.out.alloc (.cells #[.int .i64 x8.1.r, .int .i64 x8.1.c, .slice A8 x8.1.l.length c8] 24))
  replace X7 := Lib.hid (X7.out.alloc (.cells #[.int .i64 x8.1.r, .int .i64 x8.1.c, .slice A8 x8.1.l.length c8] 24))
  replace T := below_al T (.cells #[.int .i64 x8.1.r, .int .i64 x8.1.c, .slice A8 x8.1.l.length c8] 24)
  generalize w8.alloc (.cells #[.int .i64 x8.1.r, .int .i64 x8.1.c, .slice A8 x8.1.l.length c8] 24) = V8 at *
  refine (same_any x4.1.r x4.1.c x4.1.r x4.1.c A3 A4 x4.1.l x4.1.l c3 c4 _ S3.out S4.out (by omega) (by omega)).mono ?_
  rintro e w9 ⟨rfl, hb9⟩
  rw [sameB_self]
  replace SL := Lib.hid (SL.out.later hb9)
  replace SM := Lib.hid (SM.out.later hb9)
  replace S1 := Lib.hid (S1.out.later hb9)
  replace S2 := Lib.hid (S2.out.later hb9)
  replace S3 := Lib.hid (S3.out.later hb9)
  replace S4 := Lib.hid (S4.out.later hb9)
  replace S5 := Lib.hid (S5.out.later hb9)
  replace S6 := Lib.hid (S6.out.later hb9)
  replace S7 := Lib.hid (S7.out.later hb9)
  replace S8 := Lib.hid (S8.out.later hb9)
  replace X1 := Lib.hid (X1.out.later hb9)
  replace X2 := Lib.hid (X2.out.later hb9)
  replace X3 := Lib.hid (X3.out.later hb9)
  replace X4 := Lib.hid (X4.out.later hb9)
  replace X5 := Lib.hid (X5.out.later hb9)
  replace X6 := Lib.hid (X6.out.later hb9)
  replace X7 := Lib.hid (X7.out.later hb9)
  replace X8 := Lib.hid (X8.out.later hb9)
  replace T := Below.two T hb9
  clear hb9
  have k0X1 := X1.out.c0
  have k1X1 := X1.out.c1
  have k2X1 := X1.out.c2
  have kzX1 := X1.out.lt
  have k0X2 := X2.out.c0
  have k1X2 := X2.out.c1
  have k2X2 := X2.out.c2
  have kzX2 := X2.out.lt
  have k0X3 := X3.out.c0
  have k1X3 := X3.out.c1
  have k2X3 := X3.out.c2
  have kzX3 := X3.out.lt
  have k0X4 := X4.out.c0
  have k1X4 := X4.out.c1
  have k2X4 := X4.out.c2
  have kzX4 := X4.out.lt
  have k0X5 := X5.out.c0
  have k1X5 := X5.out.c1
  have k2X5 := X5.out.c2
  have kzX5 := X5.out.lt
  have k0X6 := X6.out.c0
  have k1X6 := X6.out.c1
  have k2X6 := X6.out.c2
  have kzX6 := X6.out.lt
  have k0X7 := X7.out.c0
  have k1X7 := X7.out.c1
  have k2X7 := X7.out.c2
  have kzX7 := X7.out.lt
  have k0X8 := X8.out.c0
  have k1X8 := X8.out.c1
  have k2X8 := X8.out.c2
  have kzX8 := X8.out.lt
  go_wp2_with fail
  refine (same_any x8.1.r x8.1.c x8.1.r x8.1.c A7 A8 x8.1.l x8.1.l c7 c8 _ S7.out S8.out (by omega) (by omega)).mono ?_
  rintro e w10 ⟨rfl, hb10⟩
  rw [sameB_self]
  clear k0X1 k1X1 k2X1 kzX1 k0X2 k1X2 k2X2 kzX2 k0X3 k1X3 k2X3 kzX3 k0X4 k1X4 k2X4 kzX4 k0X5 k1X5 k2X5 kzX5 k0X6 k1X6 k2X6 kzX6 k0X7 k1X7 k2X7 kzX7 k0X8 k1X8 k2X8 kzX8
  replace SL := Lib.hid (SL.out.later hb10)
  replace SM := Lib.hid (SM.out.later hb10)
  replace S1 := Lib.hid (S1.out.later hb10)
  replace S2 := Lib.hid (S2.out.later hb10)
  replace S3 := Lib.hid (S3.out.later hb10)
  replace S4 := Lib.hid (S4.out.later hb10)
  replace S5 := Lib.hid (S5.out.later hb10)
  replace S6 := Lib.hid (S6.out.later hb10)
  replace S7 := Lib.hid (S7.out.later hb10)
  replace S8 := Lib.hid (S8.out.later hb10)
  replace X1 := Lib.hid (X1.out.later hb10)
  replace X2 := Lib.hid (X2.out.later hb10)
  replace X3 := Lib.hid (X3.out.later hb10)
  replace X4 := Lib.hid (X4.out.later hb10)
  replace X5 := Lib.hid (X5.out.later hb10)
  replace X6 := Lib.hid (X6.out.later hb10)
  replace X7 := Lib.hid (X7.out.later hb10)
  replace X8 := Lib.hid (X8.out.later hb10)
  replace T := Below.two T hb10
  clear hb10
  have k0X1 := X1.out.c0
  have k1X1 := X1.out.c1
  have k2X1 := X1.out.c2
  have kzX1 := X1.out.lt
  have k0X2 := X2.out.c0
  have k1X2 := X2.out.c1
  have k2X2 := X2.out.c2
  have kzX2 := X2.out.lt
  have k0X3 := X3.out.c0
  have k1X3 := X3.out.c1
  have k2X3 := X3.out.c2
  have kzX3 := X3.out.lt
  have k0X4 := X4.out.c0
  have k1X4 := X4.out.c1
  have k2X4 := X4.out.c2
  have kzX4 := X4.out.lt
  have k0X5 := X5.out.c0
  have k1X5 := X5.out.c1
  have k2X5 := X5.out.c2
  have kzX5 := X5.out.lt
  have k0X6 := X6.out.c0
  have k1X6 := X6.out.c1
  have k2X6 := X6.out.c2
  have kzX6 := X6.out.lt
  have k0X7 := X7.out.c0
  have k1X7 := X7.out.c1
  have k2X7 := X7.out.c2
  have kzX7 := X7.out.lt
  have k0X8 := X8.out.c0
  have k1X8 := X8.out.c1
  have k2X8 := X8.out.c2
  have kzX8 := X8.out.lt
  go_wp2_with fail
  go_ret
  exact ⟨rfl, T⟩
set_option maxHeartbeats 4000000 in
theorem lowers_32 (w : World) (rows : Int) (nl capl nm capm : Nat) (al am : Option Addr) (l m : List (Int × Int)) (hU : UI l) (hV : UI m) (hsl : Si w w.heap.size al l) (hsm : Si w w.heap.size am m)
    (hk : (if (100 : Int) < (nl : Int) then (100 : Int) else (nl : Int)) = (l.length : Int)) (hq : l.length ≤ capl) (hm : capl ≤ 9223372036854775807) (h100 : l.length ≤ 100)
    (hk2 : (if (100 : Int) < (nm : Int) then (100 : Int) else (nm : Int)) = (m.length : Int)) (hq2 : m.length ≤ capm) (hm2 : capm ≤ 9223372036854775807) (h200 : m.length ≤ 100) (r1 : 1 ≤ rows) (r2 : rows ≤ 4) :
    Calls Try.prog 9 #[.int .i64 rows, .int .i64 32, .slice al nl capl, .slice am nm capm] w fun e w' => e = .returned (.bool true) ∧ Below w.heap.size w w' := by
  have T := below_0 w
  have SL := Lib.hid hsl
  have SM := Lib.hid hsm
  clear hsl hsm
  obtain ⟨p1, p2, p3, p4, p5, p6, p7, p8⟩ := lowers_law r1 r2 (show (32 : Int) = 8 ∨ (32 : Int) = 16 ∨ (32 : Int) = 32 by omega) hU hV
  rw [show (32 : Int) / 2 = 16 by decide] at p3 p4
  have P3 := Lib.hid p3
  have P8 := Lib.hid p8
  have Q1 := Lib.hid p1
  have Q2 := Lib.hid p2
  have Q4 := Lib.hid p4
  have Q5 := Lib.hid p5
  have Q6 := Lib.hid p6
  have Q7 := Lib.hid p7
  clear p1 p2 p3 p4 p5 p6 p7 p8
  go_enter Try.func9, Try.ntmps9
  go_wp2_with fail
  refine (shown_any _).mono ?_
  rintro e w90 ⟨rfl, hb90⟩
  replace SL := Lib.hid (SL.out.later hb90)
  replace SM := Lib.hid (SM.out.later hb90)
  replace T := Below.two T hb90
  clear hb90
  go_wp2_with fail
  clear hk hk2
  refine (of_any rows 32 al l capl hU (by omega) _ SL.out).mono ?_
  rintro e w1 ⟨hb1, v1, rfl, hh1⟩
  obtain ⟨A1, c1, rfl, hc1, hA1, hS1, hF1⟩ := hh1
  replace SL := Lib.hid (SL.out.later hb1)
  replace SM := Lib.hid (SM.out.later hb1)
  replace T := Below.two T hb1
  obtain ⟨x1, hx1⟩ : ∃ x, ofC rows 32 l = x := ⟨_, rfl⟩
  rw [hx1] at hS1 hc1 ⊢
  have HX1 := Lib.hid hx1
  clear hx1
  have S1 := Lib.hid hS1
  have F1 := Lib.hid hF1
  clear hS1 hF1 hA1 hb1
  go_wp2_with fail
  have X1 := Lib.hid (Blk.new w1 24 #[.int .i64 x1.1.r, .int .i64 x1.1.c, .slice A1 x1.1.l.length c1])
  replace SL := Lib.hid (SL.out.later (below_al (below_0 _) (.cells #[.int .i64 x1.1.r, .int .i64 x1.1.c, .slice A1 x1.1.l.length c1] 24)))
  replace SM := Lib.hid (SM.out.later (below_al (below_0 _) (.cells #[.int .i64 x1.1.r, .int .i64 x1.1.c, .slice A1 x1.1.l.length c1] 24)))
  replace S1 := Lib.hid (S1.out.later (below_al (below_0 _) (.cells #[.int .i64 x1.1.r, .int .i64 x1.1.c, .slice A1 x1.1.l.length c1] 24)))
  replace T := below_al T (.cells #[.int .i64 x1.1.r, .int .i64 x1.1.c, .slice A1 x1.1.l.length c1] 24)
  generalize w1.alloc (.cells #[.int .i64 x1.1.r, .int .i64 x1.1.c, .slice A1 x1.1.l.length c1] 24) = V1 at *
  rw [HX1.out] at P3 P8 Q1 Q6 Q7
  have U1 : Us x1.1.l := by rw [← HX1.out]; exact ofC_us _ _ hU
  refine (of_any rows 32 am m capm hV (by omega) _ SM.out).mono ?_
  rintro e w2 ⟨hb2, v2, rfl, hh2⟩
  obtain ⟨A2, c2, rfl, hc2, hA2, hS2, hF2⟩ := hh2
  replace SL := Lib.hid (SL.out.later hb2)
  replace SM := Lib.hid (SM.out.later hb2)
  replace S1 := Lib.hid (S1.out.later hb2)
  replace X1 := Lib.hid (X1.out.later hb2)
  replace T := Below.two T hb2
  obtain ⟨x2, hx2⟩ : ∃ x, ofC rows 32 m = x := ⟨_, rfl⟩
  rw [hx2] at hS2 hc2 ⊢
  have HX2 := Lib.hid hx2
  clear hx2
  have S2 := Lib.hid hS2
  have F2 := Lib.hid hF2
  clear hS2 hF2 hA2 hb2
  have k0X1 := X1.out.c0
  have k1X1 := X1.out.c1
  have k2X1 := X1.out.c2
  have kzX1 := X1.out.lt
  go_wp2_with fail
  clear k0X1 k1X1 k2X1 kzX1
  have X2 := Lib.hid (Blk.new w2 24 #[.int .i64 x2.1.r, .int .i64 x2.1.c, .slice A2 x2.1.l.length c2])
  replace SL := Lib.hid (SL.out.later (below_al (below_0 _) (.cells #[.int .i64 x2.1.r, .int .i64 x2.1.c, .slice A2 x2.1.l.length c2] 24)))
  replace SM := Lib.hid (SM.out.later (below_al (below_0 _) (.cells #[.int .i64 x2.1.r, .int .i64 x2.1.c, .slice A2 x2.1.l.length c2] 24)))
  replace S1 := Lib.hid (S1.out.later (below_al (below_0 _) (.cells #[.int .i64 x2.1.r, .int .i64 x2.1.c, .slice A2 x2.1.l.length c2] 24)))
  replace S2 := Lib.hid (S2.out.later (below_al (below_0 _) (.cells #[.int .i64 x2.1.r, .int .i64 x2.1.c, .slice A2 x2.1.l.length c2] 24)))
  replace X1 := Lib.hid (X1.out.alloc (.cells #[.int .i64 x2.1.r, .int .i64 x2.1.c, .slice A2 x2.1.l.length c2] 24))
  replace T := below_al T (.cells #[.int .i64 x2.1.r, .int .i64 x2.1.c, .slice A2 x2.1.l.length c2] 24)
  generalize w2.alloc (.cells #[.int .i64 x2.1.r, .int .i64 x2.1.c, .slice A2 x2.1.l.length c2] 24) = V2 at *
  rw [HX2.out] at P8 Q2 Q5 Q6 Q7
  have U2 : Us x2.1.l := by rw [← HX2.out]; exact ofC_us _ _ hV
  refine (lower_any x1.1.r x1.1.c A1 x1.1.l c1 U1 _ S1.out).mono ?_
  rintro e w3 ⟨hb3, v3, rfl, hh3⟩
  obtain ⟨A3, c3, rfl, hc3, hA3, hS3, hF3⟩ := hh3
  replace SL := Lib.hid (SL.out.later hb3)
  replace SM := Lib.hid (SM.out.later hb3)
  replace S1 := Lib.hid (S1.out.later hb3)
  replace S2 := Lib.hid (S2.out.later hb3)
  replace X1 := Lib.hid (X1.out.later hb3)
  replace X2 := Lib.hid (X2.out.later hb3)
  replace T := Below.two T hb3
  obtain ⟨x3, hx3⟩ : ∃ x, lowerC x1.1 = x := ⟨_, rfl⟩
  rw [hx3] at hS3 hc3 ⊢
  have HX3 := Lib.hid hx3
  clear hx3
  have S3 := Lib.hid hS3
  have F3 := Lib.hid hF3
  clear hS3 hF3 hA3 hb3
  have k0X1 := X1.out.c0
  have k1X1 := X1.out.c1
  have k2X1 := X1.out.c2
  have kzX1 := X1.out.lt
  have k0X2 := X2.out.c0
  have k1X2 := X2.out.c1
  have k2X2 := X2.out.c2
  have kzX2 := X2.out.lt
  go_wp2_with fail
  clear k0X1 k1X1 k2X1 kzX1 k0X2 k1X2 k2X2 kzX2
  have X3 := Lib.hid (Blk.new w3 24 #[.int .i64 x3.1.r, .int .i64 x3.1.c, .slice A3 x3.1.l.length c3])
  replace SL := Lib.hid (SL.out.later (below_al (below_0 _) (.cells #[.int .i64 x3.1.r, .int .i64 x3.1.c, .slice A3 x3.1.l.length c3] 24)))
  replace SM := Lib.hid (SM.out.later (below_al (below_0 _) (.cells #[.int .i64 x3.1.r, .int .i64 x3.1.c, .slice A3 x3.1.l.length c3] 24)))
  replace S1 := Lib.hid (S1.out.later (below_al (below_0 _) (.cells #[.int .i64 x3.1.r, .int .i64 x3.1.c, .slice A3 x3.1.l.length c3] 24)))
  replace S2 := Lib.hid (S2.out.later (below_al (below_0 _) (.cells #[.int .i64 x3.1.r, .int .i64 x3.1.c, .slice A3 x3.1.l.length c3] 24)))
  replace S3 := Lib.hid (S3.out.later (below_al (below_0 _) (.cells #[.int .i64 x3.1.r, .int .i64 x3.1.c, .slice A3 x3.1.l.length c3] 24)))
  replace X1 := Lib.hid (X1.out.alloc (.cells #[.int .i64 x3.1.r, .int .i64 x3.1.c, .slice A3 x3.1.l.length c3] 24))
  replace X2 := Lib.hid (X2.out.alloc (.cells #[.int .i64 x3.1.r, .int .i64 x3.1.c, .slice A3 x3.1.l.length c3] 24))
  replace T := below_al T (.cells #[.int .i64 x3.1.r, .int .i64 x3.1.c, .slice A3 x3.1.l.length c3] 24)
  generalize w3.alloc (.cells #[.int .i64 x3.1.r, .int .i64 x3.1.c, .slice A3 x3.1.l.length c3] 24) = V3 at *
  rw [HX3.out] at P3 P8
  have U3 : Us x3.1.l := by rw [← HX3.out]; exact lowerC_us U1
  have L3 : x3.1.l.length ≤ 128 := by rw [← HX3.out]; exact lowerC_len _
  refine (of_any rows 16 al l capl hU (by omega) _ SL.out).mono ?_
  rintro e w4 ⟨hb4, v4, rfl, hh4⟩
  obtain ⟨A4, c4, rfl, hc4, hA4, hS4, hF4⟩ := hh4
  replace SL := Lib.hid (SL.out.later hb4)
  replace SM := Lib.hid (SM.out.later hb4)
  replace S1 := Lib.hid (S1.out.later hb4)
  replace S2 := Lib.hid (S2.out.later hb4)
  replace S3 := Lib.hid (S3.out.later hb4)
  replace X1 := Lib.hid (X1.out.later hb4)
  replace X2 := Lib.hid (X2.out.later hb4)
  replace X3 := Lib.hid (X3.out.later hb4)
  replace T := Below.two T hb4
  obtain ⟨x4, hx4⟩ : ∃ x, ofC rows 16 l = x := ⟨_, rfl⟩
  rw [hx4] at hS4 hc4 ⊢
  have HX4 := Lib.hid hx4
  clear hx4
  have S4 := Lib.hid hS4
  have F4 := Lib.hid hF4
  clear hS4 hF4 hA4 hb4
  have k0X1 := X1.out.c0
  have k1X1 := X1.out.c1
  have k2X1 := X1.out.c2
  have kzX1 := X1.out.lt
  have k0X2 := X2.out.c0
  have k1X2 := X2.out.c1
  have k2X2 := X2.out.c2
  have kzX2 := X2.out.lt
  have k0X3 := X3.out.c0
  have k1X3 := X3.out.c1
  have k2X3 := X3.out.c2
  have kzX3 := X3.out.lt
  go_wp2_with fail
  clear k0X1 k1X1 k2X1 kzX1 k0X2 k1X2 k2X2 kzX2 k0X3 k1X3 k2X3 kzX3
  have X4 := Lib.hid (Blk.new w4 24 #[.int .i64 x4.1.r, .int .i64 x4.1.c, .slice A4 x4.1.l.length c4])
  replace SL := Lib.hid (SL.out.later (below_al (below_0 _) (.cells #[.int .i64 x4.1.r, .int .i64 x4.1.c, .slice A4 x4.1.l.length c4] 24)))
  replace SM := Lib.hid (SM.out.later (below_al (below_0 _) (.cells #[.int .i64 x4.1.r, .int .i64 x4.1.c, .slice A4 x4.1.l.length c4] 24)))
  replace S1 := Lib.hid (S1.out.later (below_al (below_0 _) (.cells #[.int .i64 x4.1.r, .int .i64 x4.1.c, .slice A4 x4.1.l.length c4] 24)))
  replace S2 := Lib.hid (S2.out.later (below_al (below_0 _) (.cells #[.int .i64 x4.1.r, .int .i64 x4.1.c, .slice A4 x4.1.l.length c4] 24)))
  replace S3 := Lib.hid (S3.out.later (below_al (below_0 _) (.cells #[.int .i64 x4.1.r, .int .i64 x4.1.c, .slice A4 x4.1.l.length c4] 24)))
  replace S4 := Lib.hid (S4.out.later (below_al (below_0 _) (.cells #[.int .i64 x4.1.r, .int .i64 x4.1.c, .slice A4 x4.1.l.length c4] 24)))
  replace X1 := Lib.hid (X1.out.alloc (.cells #[.int .i64 x4.1.r, .int .i64 x4.1.c, .slice A4 x4.1.l.length c4] 24))
  replace X2 := Lib.hid (X2.out.alloc (.cells #[.int .i64 x4.1.r, .int .i64 x4.1.c, .slice A4 x4.1.l.length c4] 24))
  replace X3 := Lib.hid (X3.out.alloc (.cells #[.int .i64 x4.1.r, .int .i64 x4.1.c, .slice A4 x4.1.l.length c4] 24))
  replace T := below_al T (.cells #[.int .i64 x4.1.r, .int .i64 x4.1.c, .slice A4 x4.1.l.length c4] 24)
  generalize w4.alloc (.cells #[.int .i64 x4.1.r, .int .i64 x4.1.c, .slice A4 x4.1.l.length c4] 24) = V4 at *
  rw [HX4.out] at P3 Q4
  refine (lower_any x2.1.r x2.1.c A2 x2.1.l c2 U2 _ S2.out).mono ?_
  rintro e w5 ⟨hb5, v5, rfl, hh5⟩
  obtain ⟨A5, c5, rfl, hc5, hA5, hS5, hF5⟩ := hh5
  replace SL := Lib.hid (SL.out.later hb5)
  replace SM := Lib.hid (SM.out.later hb5)
  replace S1 := Lib.hid (S1.out.later hb5)
  replace S2 := Lib.hid (S2.out.later hb5)
  replace S3 := Lib.hid (S3.out.later hb5)
  replace S4 := Lib.hid (S4.out.later hb5)
  replace X1 := Lib.hid (X1.out.later hb5)
  replace X2 := Lib.hid (X2.out.later hb5)
  replace X3 := Lib.hid (X3.out.later hb5)
  replace X4 := Lib.hid (X4.out.later hb5)
  replace T := Below.two T hb5
  obtain ⟨x5, hx5⟩ : ∃ x, lowerC x2.1 = x := ⟨_, rfl⟩
  rw [hx5] at hS5 hc5 ⊢
  have HX5 := Lib.hid hx5
  clear hx5
  have S5 := Lib.hid hS5
  have F5 := Lib.hid hF5
  clear hS5 hF5 hA5 hb5
  have k0X1 := X1.out.c0
  have k1X1 := X1.out.c1
  have k2X1 := X1.out.c2
  have kzX1 := X1.out.lt
  have k0X2 := X2.out.c0
  have k1X2 := X2.out.c1
  have k2X2 := X2.out.c2
  have kzX2 := X2.out.lt
  have k0X3 := X3.out.c0
  have k1X3 := X3.out.c1
  have k2X3 := X3.out.c2
  have kzX3 := X3.out.lt
  have k0X4 := X4.out.c0
  have k1X4 := X4.out.c1
  have k2X4 := X4.out.c2
  have kzX4 := X4.out.lt
  go_wp2_with fail
  clear k0X1 k1X1 k2X1 kzX1 k0X2 k1X2 k2X2 kzX2 k0X3 k1X3 k2X3 kzX3 k0X4 k1X4 k2X4 kzX4
  have X5 := Lib.hid (Blk.new w5 24 #[.int .i64 x5.1.r, .int .i64 x5.1.c, .slice A5 x5.1.l.length c5])
  replace SL := Lib.hid (SL.out.later (below_al (below_0 _) (.cells #[.int .i64 x5.1.r, .int .i64 x5.1.c, .slice A5 x5.1.l.length c5] 24)))
  replace SM := Lib.hid (SM.out.later (below_al (below_0 _) (.cells #[.int .i64 x5.1.r, .int .i64 x5.1.c, .slice A5 x5.1.l.length c5] 24)))
  replace S1 := Lib.hid (S1.out.later (below_al (below_0 _) (.cells #[.int .i64 x5.1.r, .int .i64 x5.1.c, .slice A5 x5.1.l.length c5] 24)))
  replace S2 := Lib.hid (S2.out.later (below_al (below_0 _) (.cells #[.int .i64 x5.1.r, .int .i64 x5.1.c, .slice A5 x5.1.l.length c5] 24)))
  replace S3 := Lib.hid (S3.out.later (below_al (below_0 _) (.cells #[.int .i64 x5.1.r, .int .i64 x5.1.c, .slice A5 x5.1.l.length c5] 24)))
  replace S4 := Lib.hid (S4.out.later (below_al (below_0 _) (.cells #[.int .i64 x5.1.r, .int .i64 x5.1.c, .slice A5 x5.1.l.length c5] 24)))
  replace S5 := Lib.hid (S5.out.later (below_al (below_0 _) (.cells #[.int .i64 x5.1.r, .int .i64 x5.1.c, .slice A5 x5.1.l.length c5] 24)))
  replace X1 := Lib.hid (X1.out.alloc (.cells #[.int .i64 x5.1.r, .int .i64 x5.1.c, .slice A5 x5.1.l.length c5] 24))
  replace X2 := Lib.hid (X2.out.alloc (.cells #[.int .i64 x5.1.r, .int .i64 x5.1.c, .slice A5 x5.1.l.length c5] 24))
  replace X3 := Lib.hid (X3.out.alloc (.cells #[.int .i64 x5.1.r, .int .i64 x5.1.c, .slice A5 x5.1.l.length c5] 24))
  replace X4 := Lib.hid (X4.out.alloc (.cells #[.int .i64 x5.1.r, .int .i64 x5.1.c, .slice A5 x5.1.l.length c5] 24))
  replace T := below_al T (.cells #[.int .i64 x5.1.r, .int .i64 x5.1.c, .slice A5 x5.1.l.length c5] 24)
  generalize w5.alloc (.cells #[.int .i64 x5.1.r, .int .i64 x5.1.c, .slice A5 x5.1.l.length c5] 24) = V5 at *
  rw [HX5.out] at P8 Q5
  have U5 : Us x5.1.l := by rw [← HX5.out]; exact lowerC_us U2
  refine (merge_any x1.1.r x1.1.c x2.1.r x2.1.c A1 A2 x1.1.l x2.1.l c1 c2 _ S1.out S2.out U1 U2).mono ?_
  rintro e w6 ⟨hb6, v6, rfl, hh6⟩
  obtain ⟨A6, c6, rfl, hc6, hA6, hS6, hF6⟩ := hh6
  replace SL := Lib.hid (SL.out.later hb6)
  replace SM := Lib.hid (SM.out.later hb6)
  replace S1 := Lib.hid (S1.out.later hb6)
  replace S2 := Lib.hid (S2.out.later hb6)
  replace S3 := Lib.hid (S3.out.later hb6)
  replace S4 := Lib.hid (S4.out.later hb6)
  replace S5 := Lib.hid (S5.out.later hb6)
  replace X1 := Lib.hid (X1.out.later hb6)
  replace X2 := Lib.hid (X2.out.later hb6)
  replace X3 := Lib.hid (X3.out.later hb6)
  replace X4 := Lib.hid (X4.out.later hb6)
  replace X5 := Lib.hid (X5.out.later hb6)
  replace T := Below.two T hb6
  obtain ⟨x6, hx6⟩ : ∃ x, mergeC x1.1 x2.1 = x := ⟨_, rfl⟩
  rw [hx6] at hS6 hc6 ⊢
  have HX6 := Lib.hid hx6
  clear hx6
  have S6 := Lib.hid hS6
  have F6 := Lib.hid hF6
  clear hS6 hF6 hA6 hb6
  have k0X1 := X1.out.c0
  have k1X1 := X1.out.c1
  have k2X1 := X1.out.c2
  have kzX1 := X1.out.lt
  have k0X2 := X2.out.c0
  have k1X2 := X2.out.c1
  have k2X2 := X2.out.c2
  have kzX2 := X2.out.lt
  have k0X3 := X3.out.c0
  have k1X3 := X3.out.c1
  have k2X3 := X3.out.c2
  have kzX3 := X3.out.lt
  have k0X4 := X4.out.c0
  have k1X4 := X4.out.c1
  have k2X4 := X4.out.c2
  have kzX4 := X4.out.lt
  have k0X5 := X5.out.c0
  have k1X5 := X5.out.c1
  have k2X5 := X5.out.c2
  have kzX5 := X5.out.lt
  go_wp2_with fail
  clear k0X1 k1X1 k2X1 kzX1 k0X2 k1X2 k2X2 kzX2 k0X3 k1X3 k2X3 kzX3 k0X4 k1X4 k2X4 kzX4 k0X5 k1X5 k2X5 kzX5
  have X6 := Lib.hid (Blk.new w6 24 #[.int .i64 x6.1.r, .int .i64 x6.1.c, .slice A6 x6.1.l.length c6])
  replace SL := Lib.hid (SL.out.later (below_al (below_0 _) (.cells #[.int .i64 x6.1.r, .int .i64 x6.1.c, .slice A6 x6.1.l.length c6] 24)))
  replace SM := Lib.hid (SM.out.later (below_al (below_0 _) (.cells #[.int .i64 x6.1.r, .int .i64 x6.1.c, .slice A6 x6.1.l.length c6] 24)))
  replace S1 := Lib.hid (S1.out.later (below_al (below_0 _) (.cells #[.int .i64 x6.1.r, .int .i64 x6.1.c, .slice A6 x6.1.l.length c6] 24)))
  replace S2 := Lib.hid (S2.out.later (below_al (below_0 _) (.cells #[.int .i64 x6.1.r, .int .i64 x6.1.c, .slice A6 x6.1.l.length c6] 24)))
  replace S3 := Lib.hid (S3.out.later (below_al (below_0 _) (.cells #[.int .i64 x6.1.r, .int .i64 x6.1.c, .slice A6 x6.1.l.length c6] 24)))
  replace S4 := Lib.hid (S4.out.later (below_al (below_0 _) (.cells #[.int .i64 x6.1.r, .int .i64 x6.1.c, .slice A6 x6.1.l.length c6] 24)))
  replace S5 := Lib.hid (S5.out.later (below_al (below_0 _) (.cells #[.int .i64 x6.1.r, .int .i64 x6.1.c, .slice A6 x6.1.l.length c6] 24)))
  replace S6 := Lib.hid (S6.out.later (below_al (below_0 _) (.cells #[.int .i64 x6.1.r, .int .i64 x6.1.c, .slice A6 x6.1.l.length c6] 24)))
  replace X1 := Lib.hid (X1.out.alloc (.cells #[.int .i64 x6.1.r, .int .i64 x6.1.c, .slice A6 x6.1.l.length c6] 24))
  replace X2 := Lib.hid (X2.out.alloc (.cells #[.int .i64 x6.1.r, .int .i64 x6.1.c, .slice A6 x6.1.l.length c6] 24))
  replace X3 := Lib.hid (X3.out.alloc (.cells #[.int .i64 x6.1.r, .int .i64 x6.1.c, .slice A6 x6.1.l.length c6] 24))
  replace X4 := Lib.hid (X4.out.alloc (.cells #[.int .i64 x6.1.r, .int .i64 x6.1.c, .slice A6 x6.1.l.length c6] 24))
  replace X5 := Lib.hid (X5.out.alloc (.cells #[.int .i64 x6.1.r, .int .i64 x6.1.c, .slice A6 x6.1.l.length c6] 24))
  replace T := below_al T (.cells #[.int .i64 x6.1.r, .int .i64 x6.1.c, .slice A6 x6.1.l.length c6] 24)
  generalize w6.alloc (.cells #[.int .i64 x6.1.r, .int .i64 x6.1.c, .slice A6 x6.1.l.length c6] 24) = V6 at *
  rw [HX6.out] at P8 Q6 Q7
  have U6 : Us x6.1.l := by rw [← HX6.out]; exact mergeC_us U1 U2
  refine (lower_any x6.1.r x6.1.c A6 x6.1.l c6 U6 _ S6.out).mono ?_
  rintro e w7 ⟨hb7, v7, rfl, hh7⟩
  obtain ⟨A7, c7, rfl, hc7, hA7, hS7, hF7⟩ := hh7
  replace SL := Lib.hid (SL.out.later hb7)
  replace SM := Lib.hid (SM.out.later hb7)
  replace S1 := Lib.hid (S1.out.later hb7)
  replace S2 := Lib.hid (S2.out.later hb7)
  replace S3 := Lib.hid (S3.out.later hb7)
  replace S4 := Lib.hid (S4.out.later hb7)
  replace S5 := Lib.hid (S5.out.later hb7)
  replace S6 := Lib.hid (S6.out.later hb7)
  replace X1 := Lib.hid (X1.out.later hb7)
  replace X2 := Lib.hid (X2.out.later hb7)
  replace X3 := Lib.hid (X3.out.later hb7)
  replace X4 := Lib.hid (X4.out.later hb7)
  replace X5 := Lib.hid (X5.out.later hb7)
  replace X6 := Lib.hid (X6.out.later hb7)
  replace T := Below.two T hb7
  obtain ⟨x7, hx7⟩ : ∃ x, lowerC x6.1 = x := ⟨_, rfl⟩
  rw [hx7] at hS7 hc7 ⊢
  have HX7 := Lib.hid hx7
  clear hx7
  have S7 := Lib.hid hS7
  have F7 := Lib.hid hF7
  clear hS7 hF7 hA7 hb7
  have k0X1 := X1.out.c0
  have k1X1 := X1.out.c1
  have k2X1 := X1.out.c2
  have kzX1 := X1.out.lt
  have k0X2 := X2.out.c0
  have k1X2 := X2.out.c1
  have k2X2 := X2.out.c2
  have kzX2 := X2.out.lt
  have k0X3 := X3.out.c0
  have k1X3 := X3.out.c1
  have k2X3 := X3.out.c2
  have kzX3 := X3.out.lt
  have k0X4 := X4.out.c0
  have k1X4 := X4.out.c1
  have k2X4 := X4.out.c2
  have kzX4 := X4.out.lt
  have k0X5 := X5.out.c0
  have k1X5 := X5.out.c1
  have k2X5 := X5.out.c2
  have kzX5 := X5.out.lt
  have k0X6 := X6.out.c0
  have k1X6 := X6.out.c1
  have k2X6 := X6.out.c2
  have kzX6 := X6.out.lt
  go_wp2_with fail
  clear k0X1 k1X1 k2X1 kzX1 k0X2 k1X2 k2X2 kzX2 k0X3 k1X3 k2X3 kzX3 k0X4 k1X4 k2X4 kzX4 k0X5 k1X5 k2X5 kzX5 k0X6 k1X6 k2X6 kzX6
  have X7 := Lib.hid (Blk.new w7 24 #[.int .i64 x7.1.r, .int .i64 x7.1.c, .slice A7 x7.1.l.length c7])
  replace SL := Lib.hid (SL.out.later (below_al (below_0 _) (.cells #[.int .i64 x7.1.r, .int .i64 x7.1.c, .slice A7 x7.1.l.length c7] 24)))
  replace SM := Lib.hid (SM.out.later (below_al (below_0 _) (.cells #[.int .i64 x7.1.r, .int .i64 x7.1.c, .slice A7 x7.1.l.length c7] 24)))
  replace S1 := Lib.hid (S1.out.later (below_al (below_0 _) (.cells #[.int .i64 x7.1.r, .int .i64 x7.1.c, .slice A7 x7.1.l.length c7] 24)))
  replace S2 := Lib.hid (S2.out.later (below_al (below_0 _) (.cells #[.int .i64 x7.1.r, .int .i64 x7.1.c, .slice A7 x7.1.l.length c7] 24)))
  replace S3 := Lib.hid (S3.out.later (below_al (below_0 _) (.cells #[.int .i64 x7.1.r, .int .i64 x7.1.c, .slice A7 x7.1.l.length c7] 24)))
  replace S4 := Lib.hid (S4.out.later (below_al (below_0 _) (.cells #[.int .i64 x7.1.r, .int .i64 x7.1.c, .slice A7 x7.1.l.length c7] 24)))
  replace S5 := Lib.hid (S5.out.later (below_al (below_0 _) (.cells #[.int .i64 x7.1.r, .int .i64 x7.1.c, .slice A7 x7.1.l.length c7] 24)))
  replace S6 := Lib.hid (S6.out.later (below_al (below_0 _) (.cells #[.int .i64 x7.1.r, .int .i64 x7.1.c, .slice A7 x7.1.l.length c7] 24)))
  replace S7 := Lib.hid (S7.out.later (below_al (below_0 _) (.cells #[.int .i64 x7.1.r, .int .i64 x7.1.c, .slice A7 x7.1.l.length c7] 24)))
  replace X1 := Lib.hid (X1.out.alloc (.cells #[.int .i64 x7.1.r, .int .i64 x7.1.c, .slice A7 x7.1.l.length c7] 24))
  replace X2 := Lib.hid (X2.out.alloc (.cells #[.int .i64 x7.1.r, .int .i64 x7.1.c, .slice A7 x7.1.l.length c7] 24))
  replace X3 := Lib.hid (X3.out.alloc (.cells #[.int .i64 x7.1.r, .int .i64 x7.1.c, .slice A7 x7.1.l.length c7] 24))
  replace X4 := Lib.hid (X4.out.alloc (.cells #[.int .i64 x7.1.r, .int .i64 x7.1.c, .slice A7 x7.1.l.length c7] 24))
  replace X5 := Lib.hid (X5.out.alloc (.cells #[.int .i64 x7.1.r, .int .i64 x7.1.c, .slice A7 x7.1.l.length c7] 24))
  replace X6 := Lib.hid (X6.out.alloc (.cells #[.int .i64 x7.1.r, .int .i64 x7.1.c, .slice A7 x7.1.l.length c7] 24))
  replace T := below_al T (.cells #[.int .i64 x7.1.r, .int .i64 x7.1.c, .slice A7 x7.1.l.length c7] 24)
  generalize w7.alloc (.cells #[.int .i64 x7.1.r, .int .i64 x7.1.c, .slice A7 x7.1.l.length c7] 24) = V7 at *
  rw [HX7.out] at P8 Q7
  have L7 : x7.1.l.length ≤ 128 := by rw [← HX7.out]; exact lowerC_len _
  refine (merge_any x3.1.r x3.1.c x5.1.r x5.1.c A3 A5 x3.1.l x5.1.l c3 c5 _ S3.out S5.out U3 U5).mono ?_
  rintro e w8 ⟨hb8, v8, rfl, hh8⟩
  obtain ⟨A8, c8, rfl, hc8, hA8, hS8, hF8⟩ := hh8
  replace SL := Lib.hid (SL.out.later hb8)
  replace SM := Lib.hid (SM.out.later hb8)
  replace S1 := Lib.hid (S1.out.later hb8)
  replace S2 := Lib.hid (S2.out.later hb8)
  replace S3 := Lib.hid (S3.out.later hb8)
  replace S4 := Lib.hid (S4.out.later hb8)
  replace S5 := Lib.hid (S5.out.later hb8)
  replace S6 := Lib.hid (S6.out.later hb8)
  replace S7 := Lib.hid (S7.out.later hb8)
  replace X1 := Lib.hid (X1.out.later hb8)
  replace X2 := Lib.hid (X2.out.later hb8)
  replace X3 := Lib.hid (X3.out.later hb8)
  replace X4 := Lib.hid (X4.out.later hb8)
  replace X5 := Lib.hid (X5.out.later hb8)
  replace X6 := Lib.hid (X6.out.later hb8)
  replace X7 := Lib.hid (X7.out.later hb8)
  replace T := Below.two T hb8
  obtain ⟨x8, hx8⟩ : ∃ x, mergeC x3.1 x5.1 = x := ⟨_, rfl⟩
  rw [hx8] at hS8 hc8 ⊢
  have HX8 := Lib.hid hx8
  clear hx8
  have S8 := Lib.hid hS8
  have F8 := Lib.hid hF8
  clear hS8 hF8 hA8 hb8
  have k0X1 := X1.out.c0
  have k1X1 := X1.out.c1
  have k2X1 := X1.out.c2
  have kzX1 := X1.out.lt
  have k0X2 := X2.out.c0
  have k1X2 := X2.out.c1
  have k2X2 := X2.out.c2
  have kzX2 := X2.out.lt
  have k0X3 := X3.out.c0
  have k1X3 := X3.out.c1
  have k2X3 := X3.out.c2
  have kzX3 := X3.out.lt
  have k0X4 := X4.out.c0
  have k1X4 := X4.out.c1
  have k2X4 := X4.out.c2
  have kzX4 := X4.out.lt
  have k0X5 := X5.out.c0
  have k1X5 := X5.out.c1
  have k2X5 := X5.out.c2
  have kzX5 := X5.out.lt
  have k0X6 := X6.out.c0
  have k1X6 := X6.out.c1
  have k2X6 := X6.out.c2
  have kzX6 := X6.out.lt
  have k0X7 := X7.out.c0
  have k1X7 := X7.out.c1
  have k2X7 := X7.out.c2
  have kzX7 := X7.out.lt
  rw [HX8.out] at P8
  have e4 : x4 = x3 := P3.out.symm
  have e8 : x8 = x7 := P8.out.symm
  subst e4 e8
  have a1 := Q1.out
  have a2 := Q2.out
  have a4 := Q4.out
  have a5 := Q5.out
  have a6 := Q6.out
  have a7 := Q7.out
  go_wp2_with fail
  clear k0X1 k1X1 k2X1 kzX1 k0X2 k1X2 k2X2 kzX2 k0X3 k1X3 k2X3 kzX3 k0X4 k1X4 k2X4 kzX4 k0X5 k1X5 k2X5 kzX5 k0X6 k1X6 k2X6 kzX6 k0X7 k1X7 k2X7 kzX7
  have X8 := Lib.hid (Blk.new w8 24 #[.int .i64 x8.1.r, .int .i64 x8.1.c, .slice A8 x8.1.l.length c8])
  replace SL := Lib.hid (SL.out.later (below_al (below_0 _) (.cells #[.int .i64 x8.1.r, .int .i64 x8.1.c, .slice A8 x8.1.l.length c8] 24)))
  replace SM := Lib.hid (SM.out.later (below_al (below_0 _) (.cells #[.int .i64 x8.1.r, .int .i64 x8.1.c, .slice A8 x8.1.l.length c8] 24)))
  replace S1 := Lib.hid (S1.out.later (below_al (below_0 _) (.cells #[.int .i64 x8.1.r, .int .i64 x8.1.c, .slice A8 x8.1.l.length c8] 24)))
  replace S2 := Lib.hid (S2.out.later (below_al (below_0 _) (.cells #[.int .i64 x8.1.r, .int .i64 x8.1.c, .slice A8 x8.1.l.length c8] 24)))
  replace S3 := Lib.hid (S3.out.later (below_al (below_0 _) (.cells #[.int .i64 x8.1.r, .int .i64 x8.1.c, .slice A8 x8.1.l.length c8] 24)))
  replace S4 := Lib.hid (S4.out.later (below_al (below_0 _) (.cells #[.int .i64 x8.1.r, .int .i64 x8.1.c, .slice A8 x8.1.l.length c8] 24)))
  replace S5 := Lib.hid (S5.out.later (below_al (below_0 _) (.cells #[.int .i64 x8.1.r, .int .i64 x8.1.c, .slice A8 x8.1.l.length c8] 24)))
  replace S6 := Lib.hid (S6.out.later (below_al (below_0 _) (.cells #[.int .i64 x8.1.r, .int .i64 x8.1.c, .slice A8 x8.1.l.length c8] 24)))
  replace S7 := Lib.hid (S7.out.later (below_al (below_0 _) (.cells #[.int .i64 x8.1.r, .int .i64 x8.1.c, .slice A8 x8.1.l.length c8] 24)))
  replace S8 := Lib.hid (S8.out.later (below_al (below_0 _) (.cells #[.int .i64 x8.1.r, .int .i64 x8.1.c, .slice A8 x8.1.l.length c8] 24)))
  replace X1 := Lib.hid (X1.out.alloc (.cells #[.int .i64 x8.1.r, .int .i64 x8.1.c, .slice A8 x8.1.l.length c8] 24))
  replace X2 := Lib.hid (X2.out.alloc (.cells #[.int .i64 x8.1.r, .int .i64 x8.1.c, .slice A8 x8.1.l.length c8] 24))
  replace X3 := Lib.hid (X3.out.alloc (.cells #[.int .i64 x8.1.r, .int .i64 x8.1.c, .slice A8 x8.1.l.length c8] 24))
  replace X4 := Lib.hid (X4.out.alloc (.cells #[.int .i64 x8.1.r, .int .i64 x8.1.c, .slice A8 x8.1.l.length c8] 24))
  replace X5 := Lib.hid (X5.out.alloc (.cells #[.int .i64 x8.1.r, .int .i64 x8.1.c, .slice A8 x8.1.l.length c8] 24))
  replace X6 := Lib.hid (X6.out.alloc (.cells #[.int .i64 x8.1.r, .int .i64 x8.1.c, .slice A8 x8.1.l.length c8] 24))
  replace X7 := Lib.hid (X7.out.alloc (.cells #[.int .i64 x8.1.r, .int .i64 x8.1.c, .slice A8 x8.1.l.length c8] 24))
  replace T := below_al T (.cells #[.int .i64 x8.1.r, .int .i64 x8.1.c, .slice A8 x8.1.l.length c8] 24)
  generalize w8.alloc (.cells #[.int .i64 x8.1.r, .int .i64 x8.1.c, .slice A8 x8.1.l.length c8] 24) = V8 at *
  refine (same_any x4.1.r x4.1.c x4.1.r x4.1.c A3 A4 x4.1.l x4.1.l c3 c4 _ S3.out S4.out (by omega) (by omega)).mono ?_
  rintro e w9 ⟨rfl, hb9⟩
  rw [sameB_self]
  replace SL := Lib.hid (SL.out.later hb9)
  replace SM := Lib.hid (SM.out.later hb9)
  replace S1 := Lib.hid (S1.out.later hb9)
  replace S2 := Lib.hid (S2.out.later hb9)
  replace S3 := Lib.hid (S3.out.later hb9)
  replace S4 := Lib.hid (S4.out.later hb9)
  replace S5 := Lib.hid (S5.out.later hb9)
  replace S6 := Lib.hid (S6.out.later hb9)
  replace S7 := Lib.hid (S7.out.later hb9)
  replace S8 := Lib.hid (S8.out.later hb9)
  replace X1 := Lib.hid (X1.out.later hb9)
  replace X2 := Lib.hid (X2.out.later hb9)
  replace X3 := Lib.hid (X3.out.later hb9)
  replace X4 := Lib.hid (X4.out.later hb9)
  replace X5 := Lib.hid (X5.out.later hb9)
  replace X6 := Lib.hid (X6.out.later hb9)
  replace X7 := Lib.hid (X7.out.later hb9)
  replace X8 := Lib.hid (X8.out.later hb9)
  replace T := Below.two T hb9
  clear hb9
  have k0X1 := X1.out.c0
  have k1X1 := X1.out.c1
  have k2X1 := X1.out.c2
  have kzX1 := X1.out.lt
  have k0X2 := X2.out.c0
  have k1X2 := X2.out.c1
  have k2X2 := X2.out.c2
  have kzX2 := X2.out.lt
  have k0X3 := X3.out.c0
  have k1X3 := X3.out.c1
  have k2X3 := X3.out.c2
  have kzX3 := X3.out.lt
  have k0X4 := X4.out.c0
  have k1X4 := X4.out.c1
  have k2X4 := X4.out.c2
  have kzX4 := X4.out.lt
  have k0X5 := X5.out.c0
  have k1X5 := X5.out.c1
  have k2X5 := X5.out.c2
  have kzX5 := X5.out.lt
  have k0X6 := X6.out.c0
  have k1X6 := X6.out.c1
  have k2X6 := X6.out.c2
  have kzX6 := X6.out.lt
  have k0X7 := X7.out.c0
  have k1X7 := X7.out.c1
  have k2X7 := X7.out.c2
  have kzX7 := X7.out.lt
  have k0X8 := X8.out.c0
  have k1X8 := X8.out.c1
  have k2X8 := X8.out.c2
  have kzX8 := X8.out.lt
  go_wp2_with fail
  refine (same_any x8.1.r x8.1.c x8.1.r x8.1.c A7 A8 x8.1.l x8.1.l c7 c8 _ S7.out S8.out (by omega) (by omega)).mono ?_
  rintro e w10 ⟨rfl, hb10⟩
  rw [sameB_self]
  clear k0X1 k1X1 k2X1 kzX1 k0X2 k1X2 k2X2 kzX2 k0X3 k1X3 k2X3 kzX3 k0X4 k1X4 k2X4 kzX4 k0X5 k1X5 k2X5 kzX5 k0X6 k1X6 k2X6 kzX6 k0X7 k1X7 k2X7 kzX7 k0X8 k1X8 k2X8 kzX8
  replace SL := Lib.hid (SL.out.later hb10)
  replace SM := Lib.hid (SM.out.later hb10)
  replace S1 := Lib.hid (S1.out.later hb10)
  replace S2 := Lib.hid (S2.out.later hb10)
  replace S3 := Lib.hid (S3.out.later hb10)
  replace S4 := Lib.hid (S4.out.later hb10)
  replace S5 := Lib.hid (S5.out.later hb10)
  replace S6 := Lib.hid (S6.out.later hb10)
  replace S7 := Lib.hid (S7.out.later hb10)
  replace S8 := Lib.hid (S8.out.later hb10)
  replace X1 := Lib.hid (X1.out.later hb10)
  replace X2 := Lib.hid (X2.out.later hb10)
  replace X3 := Lib.hid (X3.out.later hb10)
  replace X4 := Lib.hid (X4.out.later hb10)
  replace X5 := Lib.hid (X5.out.later hb10)
  replace X6 := Lib.hid (X6.out.later hb10)
  replace X7 := Lib.hid (X7.out.later hb10)
  replace X8 := Lib.hid (X8.out.later hb10)
  replace T := Below.two T hb10
  clear hb10
  have k0X1 := X1.out.c0
  have k1X1 := X1.out.c1
  have k2X1 := X1.out.c2
  have kzX1 := X1.out.lt
  have k0X2 := X2.out.c0
  have k1X2 := X2.out.c1
  have k2X2 := X2.out.c2
  have kzX2 := X2.out.lt
  have k0X3 := X3.out.c0
  have k1X3 := X3.out.c1
  have k2X3 := X3.out.c2
  have kzX3 := X3.out.lt
  have k0X4 := X4.out.c0
  have k1X4 := X4.out.c1
  have k2X4 := X4.out.c2
  have kzX4 := X4.out.lt
  have k0X5 := X5.out.c0
  have k1X5 := X5.out.c1
  have k2X5 := X5.out.c2
  have kzX5 := X5.out.lt
  have k0X6 := X6.out.c0
  have k1X6 := X6.out.c1
  have k2X6 := X6.out.c2
  have kzX6 := X6.out.lt
  have k0X7 := X7.out.c0
  have k1X7 := X7.out.c1
  have k2X7 := X7.out.c2
  have kzX7 := X7.out.lt
  have k0X8 := X8.out.c0
  have k1X8 := X8.out.c1
  have k2X8 := X8.out.c2
  have kzX8 := X8.out.lt
  go_wp2_with fail
  go_ret
  exact ⟨rfl, T⟩
set_option maxHeartbeats 4000000 in
theorem lowers_bad1 (w : World) (rows : Int) (nl capl nm capm : Nat) (al am : Option Addr) (l m : List (Int × Int)) (hU : UI l) (hV : UI m) (hsl : Si w w.heap.size al l) (hsm : Si w w.heap.size am m)
    (hk : (if (100 : Int) < (nl : Int) then (100 : Int) else (nl : Int)) = (l.length : Int)) (hq : l.length ≤ capl) (hm : capl ≤ 9223372036854775807) (h100 : l.length ≤ 100)
    (hk2 : (if (100 : Int) < (nm : Int) then (100 : Int) else (nm : Int)) = (m.length : Int)) (hq2 : m.length ≤ capm) (hm2 : capm ≤ 9223372036854775807) (h200 : m.length ≤ 100) (cols : Int) (h8 : ¬ cols = 8) (h16 : ¬ cols = 16) (h32 : ¬ cols = 32) :
    Calls Try.prog 9 #[.int .i64 rows, .int .i64 cols, .slice al nl capl, .slice am nm capm] w fun e w' => e = .returned (.bool true) ∧ Below w.heap.size w w' := by
  clear hsl hsm
  go_enter Try.func9, Try.ntmps9
  go_wp2_with fail
  refine (shown_any _).mono ?_
  rintro e w1 ⟨rfl, hb1⟩
  go_wp2_with fail
  go_ret
  exact ⟨rfl, hb1⟩
set_option maxHeartbeats 4000000 in
theorem lowers_bad_8 (w : World) (rows : Int) (nl capl nm capm : Nat) (al am : Option Addr) (l m : List (Int × Int)) (hU : UI l) (hV : UI m) (hsl : Si w w.heap.size al l) (hsm : Si w w.heap.size am m)
    (hk : (if (100 : Int) < (nl : Int) then (100 : Int) else (nl : Int)) = (l.length : Int)) (hq : l.length ≤ capl) (hm : capl ≤ 9223372036854775807) (h100 : l.length ≤ 100)
    (hk2 : (if (100 : Int) < (nm : Int) then (100 : Int) else (nm : Int)) = (m.length : Int)) (hq2 : m.length ≤ capm) (hm2 : capm ≤ 9223372036854775807) (h200 : m.length ≤ 100) (hr : rows < 1 ∨ 4 < rows) :
    Calls Try.prog 9 #[.int .i64 rows, .int .i64 8, .slice al nl capl, .slice am nm capm] w fun e w' => e = .returned (.bool true) ∧ Below w.heap.size w w' := by
  clear hsl hsm
  rcases hr with hr | hr
  · have d1 : decide (rows < 1) = true := by simpa using hr
    go_enter Try.func9, Try.ntmps9
    go_wp2_with fail
    refine (shown_any _).mono ?_
    rintro e w1 ⟨rfl, hb1⟩
    go_wp2_with fail
    go_ret
    exact ⟨rfl, hb1⟩
  · have d1 : decide (rows < 1) = false := by simp; omega
    have d2 : decide (4 < rows) = true := by simpa using hr
    go_enter Try.func9, Try.ntmps9
    go_wp2_with fail
    refine (shown_any _).mono ?_
    rintro e w1 ⟨rfl, hb1⟩
    go_wp2_with fail
    go_ret
    exact ⟨rfl, hb1⟩
set_option maxHeartbeats 4000000 in
theorem lowers_bad_16 (w : World) (rows : Int) (nl capl nm capm : Nat) (al am : Option Addr) (l m : List (Int × Int)) (hU : UI l) (hV : UI m) (hsl : Si w w.heap.size al l) (hsm : Si w w.heap.size am m)
    (hk : (if (100 : Int) < (nl : Int) then (100 : Int) else (nl : Int)) = (l.length : Int)) (hq : l.length ≤ capl) (hm : capl ≤ 9223372036854775807) (h100 : l.length ≤ 100)
    (hk2 : (if (100 : Int) < (nm : Int) then (100 : Int) else (nm : Int)) = (m.length : Int)) (hq2 : m.length ≤ capm) (hm2 : capm ≤ 9223372036854775807) (h200 : m.length ≤ 100) (hr : rows < 1 ∨ 4 < rows) :
    Calls Try.prog 9 #[.int .i64 rows, .int .i64 16, .slice al nl capl, .slice am nm capm] w fun e w' => e = .returned (.bool true) ∧ Below w.heap.size w w' := by
  clear hsl hsm
  rcases hr with hr | hr
  · have d1 : decide (rows < 1) = true := by simpa using hr
    go_enter Try.func9, Try.ntmps9
    go_wp2_with fail
    refine (shown_any _).mono ?_
    rintro e w1 ⟨rfl, hb1⟩
    go_wp2_with fail
    go_ret
    exact ⟨rfl, hb1⟩
  · have d1 : decide (rows < 1) = false := by simp; omega
    have d2 : decide (4 < rows) = true := by simpa using hr
    go_enter Try.func9, Try.ntmps9
    go_wp2_with fail
    refine (shown_any _).mono ?_
    rintro e w1 ⟨rfl, hb1⟩
    go_wp2_with fail
    go_ret
    exact ⟨rfl, hb1⟩
set_option maxHeartbeats 4000000 in
theorem lowers_bad_32 (w : World) (rows : Int) (nl capl nm capm : Nat) (al am : Option Addr) (l m : List (Int × Int)) (hU : UI l) (hV : UI m) (hsl : Si w w.heap.size al l) (hsm : Si w w.heap.size am m)
    (hk : (if (100 : Int) < (nl : Int) then (100 : Int) else (nl : Int)) = (l.length : Int)) (hq : l.length ≤ capl) (hm : capl ≤ 9223372036854775807) (h100 : l.length ≤ 100)
    (hk2 : (if (100 : Int) < (nm : Int) then (100 : Int) else (nm : Int)) = (m.length : Int)) (hq2 : m.length ≤ capm) (hm2 : capm ≤ 9223372036854775807) (h200 : m.length ≤ 100) (hr : rows < 1 ∨ 4 < rows) :
    Calls Try.prog 9 #[.int .i64 rows, .int .i64 32, .slice al nl capl, .slice am nm capm] w fun e w' => e = .returned (.bool true) ∧ Below w.heap.size w w' := by
  clear hsl hsm
  rcases hr with hr | hr
  · have d1 : decide (rows < 1) = true := by simpa using hr
    go_enter Try.func9, Try.ntmps9
    go_wp2_with fail
    refine (shown_any _).mono ?_
    rintro e w1 ⟨rfl, hb1⟩
    go_wp2_with fail
    go_ret
    exact ⟨rfl, hb1⟩
  · have d1 : decide (rows < 1) = false := by simp; omega
    have d2 : decide (4 < rows) = true := by simpa using hr
    go_enter Try.func9, Try.ntmps9
    go_wp2_with fail
    refine (shown_any _).mono ?_
    rintro e w1 ⟨rfl, hb1⟩
    go_wp2_with fail
    go_ret
    exact ⟨rfl, hb1⟩
theorem lowers_walk (w : World) (rows : Int) (nl capl nm capm : Nat) (al am : Option Addr) (l m : List (Int × Int)) (hU : UI l) (hV : UI m) (hsl : Si w w.heap.size al l) (hsm : Si w w.heap.size am m)
    (hk : (if (100 : Int) < (nl : Int) then (100 : Int) else (nl : Int)) = (l.length : Int)) (hq : l.length ≤ capl) (hm : capl ≤ 9223372036854775807) (h100 : l.length ≤ 100)
    (hk2 : (if (100 : Int) < (nm : Int) then (100 : Int) else (nm : Int)) = (m.length : Int)) (hq2 : m.length ≤ capm) (hm2 : capm ≤ 9223372036854775807) (h200 : m.length ≤ 100) (cols : Int) :
    Calls Try.prog 9 #[.int .i64 rows, .int .i64 cols, .slice al nl capl, .slice am nm capm] w fun e w' => e = .returned (.bool true) ∧ Below w.heap.size w w' := by
  by_cases hr : rows < 1 ∨ 4 < rows
  · by_cases h8 : cols = 8
    · subst h8; exact lowers_bad_8 w rows nl capl nm capm al am l m hU hV hsl hsm hk hq hm h100 hk2 hq2 hm2 h200 hr
    · by_cases h16 : cols = 16
      · subst h16; exact lowers_bad_16 w rows nl capl nm capm al am l m hU hV hsl hsm hk hq hm h100 hk2 hq2 hm2 h200 hr
      · by_cases h32 : cols = 32
        · subst h32; exact lowers_bad_32 w rows nl capl nm capm al am l m hU hV hsl hsm hk hq hm h100 hk2 hq2 hm2 h200 hr
        · exact lowers_bad1 w rows nl capl nm capm al am l m hU hV hsl hsm hk hq hm h100 hk2 hq2 hm2 h200 cols h8 h16 h32
  · have r1 : 1 ≤ rows := by omega
    have r2 : rows ≤ 4 := by omega
    by_cases h8 : cols = 8
    · subst h8; exact lowers_8 w rows nl capl nm capm al am l m hU hV hsl hsm hk hq hm h100 hk2 hq2 hm2 h200 r1 r2
    · by_cases h16 : cols = 16
      · subst h16; exact lowers_16 w rows nl capl nm capm al am l m hU hV hsl hsm hk hq hm h100 hk2 hq2 hm2 h200 r1 r2
      · by_cases h32 : cols = 32
        · subst h32; exact lowers_32 w rows nl capl nm capm al am l m hU hV hsl hsm hk hq hm h100 hk2 hq2 hm2 h200 r1 r2
        · exact lowers_bad1 w rows nl capl nm capm al am l m hU hV hsl hsm hk hq hm h100 hk2 hq2 hm2 h200 cols h8 h16 h32
end Go.Proofs.Ythjdonhabenmcaa

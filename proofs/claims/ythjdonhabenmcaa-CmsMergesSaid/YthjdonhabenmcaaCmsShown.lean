/-
  The walks of the law's own shown and Few.
-/
import Derived.Test.YthjdonhabenmcaaCmsAdd
import Derived.Test.YthjdonhabenmcaaCmsCount
namespace Go.Proofs.Ythjdonhabenmcaa
open Go.RowKit
set_option linter.unusedVariables false
theorem lit_U {x : Int} (h : 0 ≤ x ∧ x ≤ 18446744073709551615 := by omega) : U x := h
set_option maxHeartbeats 2000000 in
theorem shown_any (w : World) : Calls Try.prog 10 #[] w fun e w' => e = .returned (.bool true) ∧ Below w.heap.size w w' := by
  have T := below_0 w
  go_enter Try.func10, Try.ntmps10
  go_wp2_with fail
  refine (new_any 2 4 _).mono ?_
  rintro e w1 ⟨hb1, v1, rfl, hh1⟩
  obtain ⟨A1, c1, rfl, hc1, hA1, hS1, hF1⟩ := hh1
  replace T := Below.two T hb1
  have hx1 : newF 2 4 = ((⟨2, 4, [0, 0, 0, 0, 0, 0, 0, 0]⟩, 0) : Cm × Int) := by kernel_rfl
  rw [hx1] at hS1 hc1 ⊢
  clear hx1
  simp only at hS1 hc1 ⊢
  have S1 := Lib.hid hS1
  have F1 := Lib.hid hF1
  clear hS1 hF1 hA1 hb1
  go_wp2_with fail
  have X1 := Lib.hid (Blk.new w1 24 #[.int .i64 2, .int .i64 4, .slice A1 8 c1])
  replace S1 := Lib.hid (S1.out.later (below_al (below_0 _) (.cells #[.int .i64 2, .int .i64 4, .slice A1 8 c1] 24)))
  replace T := below_al T (.cells #[.int .i64 2, .int .i64 4, .slice A1 8 c1] 24)
  generalize w1.alloc (.cells #[.int .i64 2, .int .i64 4, .slice A1 8 c1] 24) = V1 at *
  have u0 : Us [0, 0, 0, 0, 0, 0, 0, 0] := by intro x hx; simp at hx; subst hx; exact lit_U
  refine (add_any 2 4 A1 [0, 0, 0, 0, 0, 0, 0, 0] c1 21474836483 7 lit_U lit_U u0 _ S1.out).mono ?_
  rintro e w2 ⟨hb2, v2, rfl, hh2⟩
  obtain ⟨A2, c2, rfl, hc2, hA2, hS2, hF2⟩ := hh2
  replace S1 := Lib.hid (S1.out.later hb2)
  replace X1 := Lib.hid (X1.out.later hb2)
  replace T := Below.two T hb2
  have hx2 : addC ⟨2, 4, [0, 0, 0, 0, 0, 0, 0, 0]⟩ 21474836483 7 = ((⟨2, 4, [0, 7, 0, 0, 7, 0, 0, 0]⟩, 0) : Cm × Int) := by kernel_rfl
  rw [hx2] at hS2 hc2 ⊢
  clear hx2
  simp only at hS2 hc2 ⊢
  have S2 := Lib.hid hS2
  have F2 := Lib.hid hF2
  clear hS2 hF2 hA2 hb2
  have k0X1 := X1.out.c0
  have k1X1 := X1.out.c1
  have k2X1 := X1.out.c2
  have kzX1 := X1.out.lt
  go_wp2_with fail
  clear k0X1 k1X1 k2X1 kzX1
  have X2 := Lib.hid (Blk.new w2 24 #[.int .i64 2, .int .i64 4, .slice A2 8 c2])
  replace S1 := Lib.hid (S1.out.later (below_al (below_0 _) (.cells #[.int .i64 2, .int .i64 4, .slice A2 8 c2] 24)))
  replace S2 := Lib.hid (S2.out.later (below_al (below_0 _) (.cells #[.int .i64 2, .int .i64 4, .slice A2 8 c2] 24)))
  replace X1 := Lib.hid (X1.out.alloc (.cells #[.int .i64 2, .int .i64 4, .slice A2 8 c2] 24))
  replace T := below_al T (.cells #[.int .i64 2, .int .i64 4, .slice A2 8 c2] 24)
  generalize w2.alloc (.cells #[.int .i64 2, .int .i64 4, .slice A2 8 c2] 24) = V2 at *
  have u1 : Us [0, 7, 0, 0, 7, 0, 0, 0] := by intro x hx; simp at hx; rcases hx with rfl | rfl | rfl | rfl | rfl <;> exact lit_U
  refine (new_any 2 5 _).mono ?_
  rintro e w3 ⟨hb3, v3, rfl, hh3⟩
  obtain ⟨A3, c3, rfl, hc3, hA3, hS3, hF3⟩ := hh3
  replace S1 := Lib.hid (S1.out.later hb3)
  replace S2 := Lib.hid (S2.out.later hb3)
  replace X1 := Lib.hid (X1.out.later hb3)
  replace X2 := Lib.hid (X2.out.later hb3)
  replace T := Below.two T hb3
  have hx3 : newF 2 5 = ((Cm.none, 80) : Cm × Int) := by kernel_rfl
  rw [hx3] at hS3 hc3 ⊢
  clear hx3
  unfold Cm.none at hS3 hc3 ⊢
  have S3 := Lib.hid hS3
  have F3 := Lib.hid hF3
  clear hS3 hF3 hA3 hb3
  have k0X1 := X1.out.c0
  have k1X1 := X1.out.c1
  have k2X1 := X1.out.c2
  have kzX1 := X1.out.lt
  have k0X2 := X2.out.c0
  have k1X2 := X2.out.c1
  have k2X2 := X2.out.c2
  have kzX2 := X2.out.lt
  go_wp2_with fail
  clear k0X1 k1X1 k2X1 kzX1 k0X2 k1X2 k2X2 kzX2
  have X3 := Lib.hid (Blk.new w3 24 #[.int .i64 0, .int .i64 0, .slice A3 0 c3])
  replace S1 := Lib.hid (S1.out.later (below_al (below_0 _) (.cells #[.int .i64 0, .int .i64 0, .slice A3 0 c3] 24)))
  replace S2 := Lib.hid (S2.out.later (below_al (below_0 _) (.cells #[.int .i64 0, .int .i64 0, .slice A3 0 c3] 24)))
  replace S3 := Lib.hid (S3.out.later (below_al (below_0 _) (.cells #[.int .i64 0, .int .i64 0, .slice A3 0 c3] 24)))
  replace X1 := Lib.hid (X1.out.alloc (.cells #[.int .i64 0, .int .i64 0, .slice A3 0 c3] 24))
  replace X2 := Lib.hid (X2.out.alloc (.cells #[.int .i64 0, .int .i64 0, .slice A3 0 c3] 24))
  replace T := below_al T (.cells #[.int .i64 0, .int .i64 0, .slice A3 0 c3] 24)
  generalize w3.alloc (.cells #[.int .i64 0, .int .i64 0, .slice A3 0 c3] 24) = V3 at *
  refine (Col_any 2 4 A1 8 c1 0 21474836483 lit_U _).mono ?_
  rintro e w4 ⟨rfl, hb4⟩
  rw [show ColF 2 4 8 0 21474836483 = 1 by kernel_rfl]
  replace S1 := Lib.hid (S1.out.later hb4)
  replace S2 := Lib.hid (S2.out.later hb4)
  replace S3 := Lib.hid (S3.out.later hb4)
  replace X1 := Lib.hid (X1.out.later hb4)
  replace X2 := Lib.hid (X2.out.later hb4)
  replace X3 := Lib.hid (X3.out.later hb4)
  replace T := Below.two T hb4
  clear hb4
  have k0X1 := X1.out.c0
  have k1X1 := X1.out.c1
  have k2X1 := X1.out.c2
  have kzX1 := X1.out.lt
  have k0X2 := X2.out.c0
  have k1X2 := X2.out.c1
  have k2X2 := X2.out.c2
  have kzX2 := X2.out.lt
  have k0X3 := X3.out.c0
  have k1X3 := X3.out.c1
  have k2X3 := X3.out.c2
  have kzX3 := X3.out.lt
  go_wp2_with fail
  refine (Col_any 2 4 A1 8 c1 1 21474836483 lit_U _).mono ?_
  rintro e w5 ⟨rfl, hb5⟩
  rw [show ColF 2 4 8 1 21474836483 = 0 by kernel_rfl]
  clear k0X1 k1X1 k2X1 kzX1 k0X2 k1X2 k2X2 kzX2 k0X3 k1X3 k2X3 kzX3
  replace S1 := Lib.hid (S1.out.later hb5)
  replace S2 := Lib.hid (S2.out.later hb5)
  replace S3 := Lib.hid (S3.out.later hb5)
  replace X1 := Lib.hid (X1.out.later hb5)
  replace X2 := Lib.hid (X2.out.later hb5)
  replace X3 := Lib.hid (X3.out.later hb5)
  replace T := Below.two T hb5
  clear hb5
  have k0X1 := X1.out.c0
  have k1X1 := X1.out.c1
  have k2X1 := X1.out.c2
  have kzX1 := X1.out.lt
  have k0X2 := X2.out.c0
  have k1X2 := X2.out.c1
  have k2X2 := X2.out.c2
  have kzX2 := X2.out.lt
  have k0X3 := X3.out.c0
  have k1X3 := X3.out.c1
  have k2X3 := X3.out.c2
  have kzX3 := X3.out.lt
  go_wp2_with fail
  refine (count_any 2 4 A2 [0, 7, 0, 0, 7, 0, 0, 0] c2 21474836483 lit_U u1 _ S2.out).mono ?_
  rintro e w6 ⟨rfl, hb6⟩
  rw [show countC ⟨2, 4, [0, 7, 0, 0, 7, 0, 0, 0]⟩ 21474836483 = 7 by kernel_rfl]
  clear k0X1 k1X1 k2X1 kzX1 k0X2 k1X2 k2X2 kzX2 k0X3 k1X3 k2X3 kzX3
  replace S1 := Lib.hid (S1.out.later hb6)
  replace S2 := Lib.hid (S2.out.later hb6)
  replace S3 := Lib.hid (S3.out.later hb6)
  replace X1 := Lib.hid (X1.out.later hb6)
  replace X2 := Lib.hid (X2.out.later hb6)
  replace X3 := Lib.hid (X3.out.later hb6)
  replace T := Below.two T hb6
  clear hb6
  have k0X1 := X1.out.c0
  have k1X1 := X1.out.c1
  have k2X1 := X1.out.c2
  have kzX1 := X1.out.lt
  have k0X2 := X2.out.c0
  have k1X2 := X2.out.c1
  have k2X2 := X2.out.c2
  have kzX2 := X2.out.lt
  have k0X3 := X3.out.c0
  have k1X3 := X3.out.c1
  have k2X3 := X3.out.c2
  have kzX3 := X3.out.lt
  go_wp2_with fail
  go_ret
  exact ⟨rfl, T⟩
theorem few_any (w : World) (r c : Int) (n cap : Nat) (a : Option Addr) (x : List Int) (hk : (if (200 : Int) < (n : Int) then (200 : Int) else (n : Int)) = (x.length : Int)) (hc : x.length ≤ cap) (hn : cap ≤ 9223372036854775807) :
    Calls Try.prog 11 #[.agg #[.int .i64 r, .int .i64 c, .slice a n cap]] w fun e w' => e = .returned (.agg #[.int .i64 r, .int .i64 c, .slice a x.length cap]) ∧ Below w.heap.size w w' := by
  go_enter Try.func11, Try.ntmps11
  go_wp2_with fail
  go_region
  all_goals go_wp2_with fail
  all_goals exact bodyPost_ret (v := .agg #[.int .i64 r, .int .i64 c, .slice a x.length cap]) (by simp [results, Try.results11, go_sem]) rfl ⟨rfl, (below_al (below_al (below_0 _) _) _).drew⟩
end Go.Proofs.Ythjdonhabenmcaa

/-
  The walk of the example at the head of chapter 6's statements.
-/
import Derived.Test.YtdobgfadnenhaaaExactRef1
namespace Go.Proofs.Ytdobgfadnenhaaa
open Go.RowKit
set_option linter.unusedVariables false
set_option maxHeartbeats 1000000 in
theorem shown_any (w : World) : Calls Try.prog 10 #[] w fun e w' => e = .returned (.bool true) ∧ Below w.heap.size w w' := by
  have e1 : ofF [5, 3, 5] = ([3, 5], 0) := by decide
  have e2 : addF [3, 5] 4 = ([3, 4, 5], 0) := by decide
  have e3 : addF [2, 1] 4 = ([], 60) := by decide
  have e4 : hasB [3, 4, 5] 4 = true := by decide
  have e5 : cnt [3, 4, 5] = 3 := by decide
  have e6 : eqB [3, 5] [3, 5] = true := by decide
  have E1 := Lib.hid e1
  have E2 := Lib.hid e2
  have E3 := Lib.hid e3
  have E4 := Lib.hid e4
  have E5 := Lib.hid e5
  have E6 := Lib.hid e6
  clear e1 e2 e3 e4 e5 e6
  go_enter Try.func10, Try.ntmps10
  go_wp2_with fail
  refine (of_tot _ 3 (some ⟨w.heap.size, 0, none⟩) [5, 3, 5] (by exact sl_new _ _ _ _ rfl _ rfl) (by simp)).mono ?_
  rw [E1.out]
  rintro e w1 ⟨hb1, v1, rfl, hh1⟩
  obtain ⟨A1, c1, rfl, hc1, hA1, hS1, hF1⟩ := hh1
  have HS1 := Lib.hid hS1
  have hb1' := Below.two (below_al (below_0 w) _) hb1
  have B1 := Boxed.new w1 24 (.slice A1 2 c1)
  clear hA1 hF1 hS1
  go_wp2_with fail
  refine (add_tot _ c1 A1 [3, 5] 4 (by exact HS1.out.later (below_al (below_0 _) _)) (by simp)).mono ?_
  rw [E2.out]
  rintro e w2 ⟨hb2, v2, rfl, hh2⟩
  obtain ⟨A2, c2, rfl, hc2, hA2, hS2, hF2⟩ := hh2
  have HS2 := Lib.hid hS2
  have hb2' := Below.two hb1' (Below.two (below_al (below_0 w1) _) hb2)
  replace B1 := boxed_below B1 hb2
  have B2 := Boxed.new w2 24 (.slice A2 3 c2)
  clear hA2 hF2 hS2
  go_wp2_with fail
  refine (add_tot _ 2 (some ⟨w2.heap.size + 1, 0, none⟩) [2, 1] 4 (by exact sl_new _ _ _ _ rfl _ (by simp)) (by simp)).mono ?_
  rw [E3.out]
  rintro e w3 ⟨hb3, v3, rfl, hh3⟩
  obtain ⟨A3, c3, rfl, hc3, hA3, hS3, hF3⟩ := hh3
  have hb3' := Below.two hb2' (Below.two (below_al (below_al (below_0 w2) _) _) hb3)
  replace B1 := boxed_below ((B1.alloc _).alloc _) hb3
  replace B2 := boxed_below (B2.alloc _) hb3
  have k1 := B1.cell
  have k2 := B2.cell
  have z1 := B1.lt
  have z2 := B2.lt
  clear hA3 hF3 hS3
  replace HS1 := Lib.hid (HS1.out.later (Below.two (below_al (below_0 _) _) hb2))
  replace HS1 := Lib.hid (HS1.out.later (Below.two (below_al (below_al (below_0 _) _) _) hb3))
  replace HS2 := Lib.hid (HS2.out.later (Below.two (below_al (below_al (below_0 _) _) _) hb3))
  go_wp2_with fail
  refine (numbers_any _ (w3.heap.size + 1 + 1) c1 2 A1 (some ⟨w3.heap.size + 1, 0, none⟩) [3, 5] [3, 5] (by exact (HS1.out.al (below_al (below_al (below_0 _) _) _)).more (by omega)) (by exact (sl_new _ _ _ _ rfl _ (by simp)).more (by simp)) (by simp) (by simp)).mono ?_
  rw [E6.out]
  rintro e w4 ⟨rfl, k, rfl⟩
  go_wp2_with fail
  refine (has_any _ c2 A2 [3, 4, 5] 4 (by exact HS2.out.later (below_drewN (below_al (below_al (below_0 _) _) _) _)) (by simp)).mono ?_
  rw [E4.out]
  rintro e w5 ⟨rfl, hb5⟩
  have B5 := boxed_below (W := ((w3.alloc (Obj.cells #[Value.slice A3 0 c3] 24)).alloc (Obj.cells #[Value.int IntKind.u64 3, Value.int IntKind.u64 5] 25)).drewN k) ((B2.alloc _).alloc _) hb5
  have k5 := B5.cell
  have z5 := B5.lt
  have hb5' := Below.two hb3' (Below.two (below_drewN (below_al (below_al (below_0 w3) _) _) _) hb5)
  go_wp2_with fail
  refine (count_any _ c2 A2 [3, 4, 5] (by exact HS2.out.later (Below.two (below_drewN (below_al (below_al (below_0 _) _) _) _) hb5)) (by simp)).mono ?_
  rw [E5.out]
  rintro e w6 ⟨rfl, hb6⟩
  go_wp2_with fail
  go_ret
  exact ⟨rfl, Below.two hb5' hb6⟩
end Go.Proofs.Ytdobgfadnenhaaa

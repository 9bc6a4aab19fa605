/-
  The walk of the laws' own shown: known answers.
-/
import Derived.Test.YtopddcabaiicgaaHistTotal
namespace Go.Proofs.Ytopddcabaiicgaa
open Go.RowKit
set_option linter.unusedVariables false
set_option linter.unusedSimpArgs false
theorem sh_bounds : boundsF 2 15 = (12, 13, true) := by decide +kernel
theorem sh_add1 : addH 2 [] 13 5 = (2, [(15, 5)], 0) := by decide +kernel
theorem sh_add2 : addH 4 [] 13 5 = (0, [], 90) := by decide +kernel
theorem sh_bucket : bucketF 2 13 = 15 := by decide +kernel
theorem sh_total : totalF 2 [(15, 5)] = 5 := by decide +kernel
set_option maxRecDepth 100000 in
set_option maxHeartbeats 2000000 in
theorem shown_any (w : World) : Calls Try.prog 11 #[] w fun e w' => e = .returned (.bool true) ∧ Below w.heap.size w w' := by
  have HB := Lib.hid sh_bounds
  have H1 := Lib.hid sh_add1
  have H2 := Lib.hid sh_add2
  have H3 := Lib.hid sh_bucket
  have H4 := Lib.hid sh_total
  go_enter Try.func11, Try.ntmps11
  go_wp2_with fail
  refine (bounds_any 2 15 (by simp [I64]) _).mono ?_
  rintro e w1 ⟨rfl, q, rfl⟩
  rw [HB.out]
  have T := below_drewN (below_0 w) q
  generalize w.drewN q = w1 at *
  go_wp2_with fail
  refine (add_any 2 none [] 0 13 5 (by simp [U]) (by simp [U]) (fun _ h => by simp at h) (by simp) _ Rd.none_).mono ?_
  rintro e w2 ⟨hb2, v2, rfl, hh2⟩
  rw [H1.out] at hh2 ⊢
  obtain ⟨A2, c2, rfl, hc2, hA2, hS2, hF2⟩ := hh2
  replace T := Below.two T hb2
  have X := Lib.hid (Blk.new w2 25 #[.int .i64 2, .slice A2 1 c2])
  have hba := below_al (below_0 w2) (.cells #[.int .i64 2, .slice A2 1 c2] 25)
  have HS := Lib.hid (Sb.later hS2 hba)
  replace T := Below.two T hba
  clear hb2 hA2 hF2 hba hS2 hc2
  go_wp2_with fail
  try simp only [List.length_cons, List.length_nil] at *
  generalize w2.alloc (.cells #[.int .i64 2, .slice A2 1 c2] 25) = w3 at *
  refine (add_any 4 none [] 0 13 5 (by simp [U]) (by simp [U]) (fun _ h => by simp at h) (by simp) _ Rd.none_).mono ?_
  rintro e w4 ⟨hb4, v4, rfl, hh4⟩
  rw [H2.out] at hh4 ⊢
  obtain ⟨A4, c4, rfl, _, _, _, _⟩ := hh4
  replace T := Below.two T hb4
  replace X := Lib.hid (X.out.later hb4)
  replace HS := Lib.hid (Sb.later HS.out hb4)
  clear hb4
  go_wp2_with fail
  try simp only [List.length_nil] at *
  have hba := below_al (below_0 w4) (.cells #[.int .i64 0, .slice A4 0 c4] 25)
  replace T := Below.two T hba
  replace X := Lib.hid (X.out.later hba)
  replace HS := Lib.hid (Sb.later HS.out hba)
  clear hba
  generalize w4.alloc (.cells #[.int .i64 0, .slice A4 0 c4] 25) = w5 at *
  refine (bucket_any 2 13 (by simp [U]) _).mono ?_
  rintro e w6 ⟨rfl, q6, rfl⟩
  rw [H3.out]
  have hbq := below_drewN (below_0 w5) q6
  replace T := Below.two T hbq
  replace X := Lib.hid (X.out.later hbq)
  replace HS := Lib.hid (Sb.later HS.out hbq)
  clear hbq
  generalize w5.drewN q6 = w6 at *
  have x0 := X.out.d0
  have x1 := X.out.d1
  go_wp2_with fail
  refine (total_any 2 A2 [(15, 5)] c2 (by intro x hx; simp at hx; subst hx; simp [I64, U]) (by simp) _ HS.out).mono ?_
  rintro e w7 ⟨rfl, hb7⟩
  rw [H4.out]
  go_wp2_with fail
  go_ret
  exact ⟨rfl, Below.two T hb7⟩
end Go.Proofs.Ytopddcabaiicgaa

/-
  The walk of the law aviarylaw09.HistLowers: call by call, each callee by its contract.
-/
import Derived.Test.YtopddcabaiicgaaHistShown
import Derived.Test.YtopddcabaiicgaaHistSame
import Derived.Test.YtopddcabaiicgaaHistLaws
import Derived.Test.YtopddcabaiicgaaHistLaws2
import Derived.Test.YtopddcabaiicgaaQuiet
namespace Go.Proofs.Ytopddcabaiicgaa
open Go.RowKit
set_option linter.unusedVariables false
set_option linter.unusedSimpArgs false
theorem Sb.after {w w' : World} {A : Option Addr} {l : Bins} (h : Sb w w.heap.size A l) (hb : Below w.heap.size w w') : Sb w' w'.heap.size A l := Sb.later h hb
set_option maxHeartbeats 1000000 in
theorem histLowers_bad (f : Int) (al : Option Addr) (nl capl : Nat) (w : World) (hf : f < 1 ∨ (1 ≤ f ∧ 3 < f)) :
    Calls Try.prog 6 #[.int .i64 f, .slice al nl capl] w fun e w' => e = .returned (.bool true) ∧ Below w.heap.size w w' := by
  rcases hf with h | ⟨h1, h⟩
  all_goals
    go_enter Try.func6, Try.ntmps6
    go_wp2_with fail
    refine (shown_any _).mono ?_
    rintro e w1 ⟨rfl, T⟩
    go_wp2_with fail
    go_ret
    exact ⟨rfl, T⟩
set_option maxRecDepth 100000 in
set_option maxHeartbeats 8000000 in
theorem histLowers_good (w : World) (f : Int) (nl capl : Nat) (al : Option Addr) (l : List (Int × Int)) (hf : fineB f = true) (hU : UI l) (hsl : Si w w.heap.size al l) (hk : min (nl : Int) 100 = (l.length : Int)) (hq : l.length ≤ capl) (hm : capl ≤ 9223372036854775807) (h100 : l.length ≤ 100) (hg : fineB (f - 1) = true) :
    Calls Try.prog 6 #[.int .i64 f, .slice al nl capl] w fun e w' => e = .returned (.bool true) ∧ Below w.heap.size w w' := by
  have T := below_0 w
  have SL := Lib.hid hsl
  clear hsl
  obtain ⟨f1, f2⟩ := fine_of hf
  obtain ⟨g1, g2⟩ := fine_of hg
  obtain ⟨X, Y, e1, e2, e3, t1, uX, uY, lX, lY⟩ := lowers_law hf hg hU
  have E1 := Lib.hid e1
  have E2 := Lib.hid e2
  have E3 := Lib.hid e3
  have T1 := Lib.hid t1
  have HS1 : Hid (sameH (f - 1) Y (f - 1) Y = true) := by show _ = _; simp [sameH]
  clear e1 e2 e3 t1
  go_enter Try.func6, Try.ntmps6
  go_wp2_with fail
  refine (shown_any _).mono ?_
  rintro e w90 ⟨rfl, hb90⟩
  replace SL := Lib.hid (SL.out.later hb90)
  replace T := Below.two T hb90
  clear hb90
  go_wp2_with fail
  clear hk
  refine (of_any f al l capl hU (by omega) _ SL.out).mono ?_
  rintro e w1 ⟨hb1, v1, rfl, hh1⟩
  rw [E1.out] at hh1 ⊢
  obtain ⟨A1, c1, rfl, hc1, _, hS1, _⟩ := hh1
  simp only at hc1 hS1 ⊢
  replace SL := Lib.hid (SL.out.later hb1)
  replace T := Below.two T hb1
  have S1 := Lib.hid hS1
  clear hS1 hb1 hc1
  go_wp2_with fail
  have X1 := Lib.hid (Blk.new w1 25 #[.int .i64 f, .slice A1 X.length c1])
  have hba := below_al (below_0 w1) (.cells #[.int .i64 f, .slice A1 X.length c1] 25)
  replace SL := Lib.hid (SL.out.later hba)
  replace S1 := Lib.hid (S1.out.later hba)
  replace T := Below.two T hba
  clear hba
  generalize w1.alloc (.cells #[.int .i64 f, .slice A1 X.length c1] 25) = V1 at *
  have k0X1 := X1.out.d0
  have k1X1 := X1.out.d1
  have kzX1 := X1.out.lt
  go_wp2_with fail
  refine (of_any (f - 1) al l capl hU (by omega) _ SL.out).mono ?_
  rintro e w2 ⟨hb2, v2, rfl, hh2⟩
  rw [E2.out] at hh2 ⊢
  obtain ⟨A2, c2, rfl, hc2, _, hS2, _⟩ := hh2
  simp only at hc2 hS2 ⊢
  clear k0X1 k1X1 kzX1
  replace SL := Lib.hid (SL.out.later hb2)
  replace S1 := Lib.hid (S1.out.later hb2)
  replace X1 := Lib.hid (X1.out.later hb2)
  replace T := Below.two T hb2
  have S2 := Lib.hid hS2
  clear hS2 hb2 hc2
  have k0X1 := X1.out.d0
  have k1X1 := X1.out.d1
  have kzX1 := X1.out.lt
  go_wp2_with fail
  clear k0X1 k1X1 kzX1
  have X2 := Lib.hid (Blk.new w2 25 #[.int .i64 (f - 1), .slice A2 Y.length c2])
  have hba := below_al (below_0 w2) (.cells #[.int .i64 (f - 1), .slice A2 Y.length c2] 25)
  replace SL := Lib.hid (SL.out.later hba)
  replace S1 := Lib.hid (S1.out.later hba)
  replace S2 := Lib.hid (S2.out.later hba)
  replace X1 := Lib.hid (X1.out.later hba)
  replace T := Below.two T hba
  clear hba
  generalize w2.alloc (.cells #[.int .i64 (f - 1), .slice A2 Y.length c2] 25) = V2 at *
  have k0X1 := X1.out.d0
  have k1X1 := X1.out.d1
  have kzX1 := X1.out.lt
  have k0X2 := X2.out.d0
  have k1X2 := X2.out.d1
  have kzX2 := X2.out.lt
  go_wp2_with fail
  refine (lower_any f A1 X c1 uX (by omega) _ S1.out).mono ?_
  rintro e w3 ⟨hb3, v3, rfl, hh3⟩
  rw [E3.out] at hh3 ⊢
  obtain ⟨A3, c3, rfl, hc3, _, hS3, _⟩ := hh3
  simp only at hc3 hS3 ⊢
  clear k0X1 k1X1 kzX1 k0X2 k1X2 kzX2
  replace SL := Lib.hid (SL.out.later hb3)
  replace S1 := Lib.hid (S1.out.later hb3)
  replace S2 := Lib.hid (S2.out.later hb3)
  replace X1 := Lib.hid (X1.out.later hb3)
  replace X2 := Lib.hid (X2.out.later hb3)
  replace T := Below.two T hb3
  have S3 := Lib.hid hS3
  clear hS3 hb3 hc3
  have k0X1 := X1.out.d0
  have k1X1 := X1.out.d1
  have kzX1 := X1.out.lt
  have k0X2 := X2.out.d0
  have k1X2 := X2.out.d1
  have kzX2 := X2.out.lt
  go_wp2_with fail
  clear k0X1 k1X1 kzX1 k0X2 k1X2 kzX2
  have X3 := Lib.hid (Blk.new w3 25 #[.int .i64 (f - 1), .slice A3 Y.length c3])
  have hba := below_al (below_0 w3) (.cells #[.int .i64 (f - 1), .slice A3 Y.length c3] 25)
  replace SL := Lib.hid (SL.out.later hba)
  replace S1 := Lib.hid (S1.out.later hba)
  replace S2 := Lib.hid (S2.out.later hba)
  replace S3 := Lib.hid (S3.out.later hba)
  replace X1 := Lib.hid (X1.out.later hba)
  replace X2 := Lib.hid (X2.out.later hba)
  replace T := Below.two T hba
  clear hba
  generalize w3.alloc (.cells #[.int .i64 (f - 1), .slice A3 Y.length c3] 25) = V3 at *
  have k0X1 := X1.out.d0
  have k1X1 := X1.out.d1
  have kzX1 := X1.out.lt
  have k0X2 := X2.out.d0
  have k1X2 := X2.out.d1
  have kzX2 := X2.out.lt
  have k0X3 := X3.out.d0
  have k1X3 := X3.out.d1
  have kzX3 := X3.out.lt
  go_wp2_with fail
  obtain ⟨tt, htt⟩ : ∃ t, totalF f X = t := ⟨_, rfl⟩
  rw [htt] at T1
  have HTT := Lib.hid htt
  clear htt
  have F0X1 := After.cell X1.out.d0 X1.out.lt
  have F1X1 := After.cell X1.out.d1 X1.out.lt
  have F0X2 := After.cell X2.out.d0 X2.out.lt
  have F1X2 := After.cell X2.out.d1 X2.out.lt
  have F0X3 := After.cell X3.out.d0 X3.out.lt
  have F1X3 := After.cell X3.out.d1 X3.out.lt
  haveI := After.some V3
  have C1 : Hid (∀ y : After V3, Calls Try.prog 24 #[.agg #[.int .i64 (f - 1), .slice A2 Y.length c2], .agg #[.int .i64 (f - 1), .slice A3 Y.length c3]] y.at_ fun e w' => e = .returned (.bool true) ∧ Below y.at_.heap.size y.at_ w') := fun y => by have h := same_any (f - 1) (f - 1) A2 A3 Y Y c2 c3 (by omega) (by omega) y.at_ (S2.out.after y.is) (S3.out.after y.is); rw [HS1.out] at h; exact h
  have C2 : Hid (∀ y : After V3, Calls Try.prog 26 #[.agg #[.int .i64 (f - 1), .slice A2 Y.length c2]] y.at_ fun e w' => e = .returned (.int .u64 tt) ∧ Below y.at_.heap.size y.at_ w') := fun y => by have h := total_any (f - 1) A2 Y c2 uY (by omega) y.at_ (S2.out.after y.is); rw [T1.out] at h; exact h
  have C3 : Hid (∀ y : After V3, Calls Try.prog 26 #[.agg #[.int .i64 f, .slice A1 X.length c1]] y.at_ fun e w' => e = .returned (.int .u64 tt) ∧ Below y.at_.heap.size y.at_ w') := fun y => by have h := total_any f A1 X c1 uX (by omega) y.at_ (S1.out.after y.is); rw [HTT.out] at h; exact h
  clear k0X1 k1X1 kzX1 k0X2 k1X2 kzX2 k0X3 k1X3 kzX3
  refine wp_region_below (by kernel_rfl) (by kernel_rfl) ?_
  repeat (go_big_quiet_step (first | with_reducible exact after_calls (C1.out _) | with_reducible exact after_calls (C2.out _) | with_reducible exact after_calls (C3.out _)))
  refine wpQuiet_nil ?_
  rintro _ ⟨⟨w9, hb9⟩, rfl⟩
  go_wp2_with fail
  go_ret
  exact ⟨ret_bool (by first | rfl | (simp; omega)), Below.two T hb9⟩
end Go.Proofs.Ytopddcabaiicgaa

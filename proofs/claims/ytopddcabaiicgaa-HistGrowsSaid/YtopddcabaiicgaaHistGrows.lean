/-
  The walk of the law aviarylaw09.HistGrows: call by call, each callee by its contract.
-/
import Derived.Test.YtopddcabaiicgaaHistShown
import Derived.Test.YtopddcabaiicgaaHistSame
import Derived.Test.YtopddcabaiicgaaHistLaws
import Derived.Test.YtopddcabaiicgaaHistLaws2
import Derived.Test.YtopddcabaiicgaaQuiet
namespace Go.Proofs.Ytopddcabaiicgaa
open Go.RowKit
set_option linter.unusedVariables false
set_option linter.unusedSimpArgs false
theorem Sb.after {w w' : World} {A : Option Addr} {l : Bins} (h : Sb w w.heap.size A l) (hb : Below w.heap.size w w') : Sb w' w'.heap.size A l := Sb.later h hb
set_option maxHeartbeats 1000000 in
theorem histGrows_bad (f v x : Int) (al : Option Addr) (nl capl : Nat) (w : World) (hf : fineB f = false) :
    Calls Try.prog 9 #[.int .i64 f, .slice al nl capl, .int .u64 v, .int .u64 x] w fun e w' => e = .returned (.bool true) ∧ Below w.heap.size w w' := by
  have hc : f < 0 ∨ (0 ≤ f ∧ 3 < f) := by simp [fineB] at hf; omega
  clear hf
  rcases hc with h | ⟨h1, h⟩
  all_goals
    go_enter Try.func9, Try.ntmps9
    go_wp2_with fail
    refine (shown_any _).mono ?_
    rintro e w1 ⟨rfl, T⟩
    go_wp2_with fail
    go_ret
    exact ⟨rfl, T⟩
set_option maxRecDepth 100000 in
set_option maxHeartbeats 8000000 in
theorem histGrows_good (w : World) (f v x mn mx : Int) (nl capl : Nat) (al : Option Addr) (l : List (Int × Int)) (hf : fineB f = true) (hU : UI l) (hsl : Si w w.heap.size al l) (hk : min (nl : Int) 100 = (l.length : Int)) (hq : l.length ≤ capl) (hm : capl ≤ 9223372036854775807) (h100 : l.length ≤ 100) (hv : U v) (hx : U x) (hmn : min v x = mn) (hmx : max v x = mx) :
    Calls Try.prog 9 #[.int .i64 f, .slice al nl capl, .int .u64 v, .int .u64 x] w fun e w' => e = .returned (.bool true) ∧ Below w.heap.size w w' := by
  have T := below_0 w
  have SL := Lib.hid hsl
  clear hsl
  obtain ⟨f1, f2⟩ := fine_of hf
  have um : U mn := by unfold U at *; omega
  have ux : U mx := by unfold U at *; omega
  obtain ⟨X, Y, e1, e2, uX, uY, lX, lY, p1, p2, p3, p4, p5⟩ := grows_law hf um ux (by omega) hU v
  have E1 := Lib.hid e1
  have E2 := Lib.hid e2
  obtain ⟨ra, hra⟩ : ∃ t, rankF f X mn = t := ⟨_, rfl⟩
  obtain ⟨rb, hrb⟩ : ∃ t, rankF f X mx = t := ⟨_, rfl⟩
  obtain ⟨rv, hrv⟩ : ∃ t, rankF f X v = t := ⟨_, rfl⟩
  obtain ⟨tt, htt⟩ : ∃ t, totalF f X = t := ⟨_, rfl⟩
  rw [hra, hrb] at p1
  rw [hrb, htt] at p2
  rw [hrv] at p3 p5
  rw [htt] at p4
  have HRA := Lib.hid hra
  have HRB := Lib.hid hrb
  have HRV := Lib.hid hrv
  have HTT := Lib.hid htt
  have P3 := Lib.hid p3
  have P4 := Lib.hid p4
  clear e1 e2 hra hrb hrv htt p3 p4
  go_enter Try.func9, Try.ntmps9
  go_wp2_with fail
  refine (shown_any _).mono ?_
  rintro e w90 ⟨rfl, hb90⟩
  replace SL := Lib.hid (SL.out.later hb90)
  replace T := Below.two T hb90
  clear hb90
  go_wp2_with fail
  clear hk
  refine (of_any f al l capl hU (by omega) _ SL.out).mono ?_
  rintro e w1 ⟨hb1, v1, rfl, hh1⟩
  rw [E1.out] at hh1 ⊢
  obtain ⟨A1, c1, rfl, hc1, _, hS1, _⟩ := hh1
  simp only at hc1 hS1 ⊢
  replace SL := Lib.hid (SL.out.later hb1)
  replace T := Below.two T hb1
  have S1 := Lib.hid hS1
  clear hS1 hb1 hc1
  go_wp2_with fail
  have X1 := Lib.hid (Blk.new w1 25 #[.int .i64 f, .slice A1 X.length c1])
  have hba := below_al (below_0 w1) (.cells #[.int .i64 f, .slice A1 X.length c1] 25)
  replace SL := Lib.hid (SL.out.later hba)
  replace S1 := Lib.hid (S1.out.later hba)
  replace T := Below.two T hba
  clear hba
  generalize w1.alloc (.cells #[.int .i64 f, .slice A1 X.length c1] 25) = V1 at *
  have k0X1 := X1.out.d0
  have k1X1 := X1.out.d1
  have kzX1 := X1.out.lt
  go_wp2_with fail
  refine (merge_any f f A1 A1 X X c1 c1 uX uX (by omega) (by omega) _ S1.out S1.out).mono ?_
  rintro e w2 ⟨hb2, v2, rfl, hh2⟩
  rw [E2.out] at hh2 ⊢
  obtain ⟨A2, c2, rfl, hc2, _, hS2, _⟩ := hh2
  simp only at hc2 hS2 ⊢
  clear k0X1 k1X1 kzX1
  replace SL := Lib.hid (SL.out.later hb2)
  replace S1 := Lib.hid (S1.out.later hb2)
  replace X1 := Lib.hid (X1.out.later hb2)
  replace T := Below.two T hb2
  have S2 := Lib.hid hS2
  clear hS2 hb2 hc2
  have k0X1 := X1.out.d0
  have k1X1 := X1.out.d1
  have kzX1 := X1.out.lt
  go_wp2_with fail
  clear k0X1 k1X1 kzX1
  have X2 := Lib.hid (Blk.new w2 25 #[.int .i64 f, .slice A2 Y.length c2])
  have hba := below_al (below_0 w2) (.cells #[.int .i64 f, .slice A2 Y.length c2] 25)
  replace SL := Lib.hid (SL.out.later hba)
  replace S1 := Lib.hid (S1.out.later hba)
  replace S2 := Lib.hid (S2.out.later hba)
  replace X1 := Lib.hid (X1.out.later hba)
  replace T := Below.two T hba
  clear hba
  generalize w2.alloc (.cells #[.int .i64 f, .slice A2 Y.length c2] 25) = V2 at *
  have k0X1 := X1.out.d0
  have k1X1 := X1.out.d1
  have kzX1 := X1.out.lt
  have k0X2 := X2.out.d0
  have k1X2 := X2.out.d1
  have kzX2 := X2.out.lt
  go_wp2_with fail
  refine (rank_any f A1 X c1 mn um uX (by omega) _ S1.out).mono ?_
  rintro e w3 ⟨rfl, hb3⟩
  rw [HRA.out]
  clear k0X1 k1X1 kzX1 k0X2 k1X2 kzX2
  replace SL := Lib.hid (SL.out.later hb3)
  replace S1 := Lib.hid (S1.out.later hb3)
  replace S2 := Lib.hid (S2.out.later hb3)
  replace X1 := Lib.hid (X1.out.later hb3)
  replace X2 := Lib.hid (X2.out.later hb3)
  replace T := Below.two T hb3
  clear hb3
  have k0X1 := X1.out.d0
  have k1X1 := X1.out.d1
  have kzX1 := X1.out.lt
  have k0X2 := X2.out.d0
  have k1X2 := X2.out.d1
  have kzX2 := X2.out.lt
  go_wp2_with fail
  refine (rank_any f A1 X c1 mx ux uX (by omega) _ S1.out).mono ?_
  rintro e w4 ⟨rfl, hb4⟩
  rw [HRB.out]
  clear k0X1 k1X1 kzX1 k0X2 k1X2 kzX2
  replace SL := Lib.hid (SL.out.later hb4)
  replace S1 := Lib.hid (S1.out.later hb4)
  replace S2 := Lib.hid (S2.out.later hb4)
  replace X1 := Lib.hid (X1.out.later hb4)
  replace X2 := Lib.hid (X2.out.later hb4)
  replace T := Below.two T hb4
  clear hb4
  have k0X1 := X1.out.d0
  have k1X1 := X1.out.d1
  have kzX1 := X1.out.lt
  have k0X2 := X2.out.d0
  have k1X2 := X2.out.d1
  have kzX2 := X2.out.lt
  go_wp2_with fail
  have F0X1 := After.cell X1.out.d0 X1.out.lt
  have F1X1 := After.cell X1.out.d1 X1.out.lt
  have F0X2 := After.cell X2.out.d0 X2.out.lt
  have F1X2 := After.cell X2.out.d1 X2.out.lt
  haveI := After.some w4
  have C1 : Hid (∀ y : After w4, Calls Try.prog 26 #[.agg #[.int .i64 f, .slice A1 X.length c1]] y.at_ fun e w' => e = .returned (.int .u64 tt) ∧ Below y.at_.heap.size y.at_ w') := fun y => by have h := total_any f A1 X c1 uX (by omega) y.at_ (S1.out.after y.is); rw [HTT.out] at h; exact h
  have C2 : Hid (∀ y : After w4, Calls Try.prog 27 #[.agg #[.int .i64 f, .slice A2 Y.length c2], .int .u64 v] y.at_ fun e w' => e = .returned (.int .u64 (sat rv rv)) ∧ Below y.at_.heap.size y.at_ w') := fun y => by have h := rank_any f A2 Y c2 v hv uY (by omega) y.at_ (S2.out.after y.is); rw [P3.out] at h; exact h
  have C3 : Hid (∀ y : After w4, Calls Try.prog 27 #[.agg #[.int .i64 f, .slice A1 X.length c1], .int .u64 v] y.at_ fun e w' => e = .returned (.int .u64 rv) ∧ Below y.at_.heap.size y.at_ w') := fun y => by have h := rank_any f A1 X c1 v hv uX (by omega) y.at_ (S1.out.after y.is); rw [HRV.out] at h; exact h
  have C4 : Hid (∀ y : After w4, Calls Try.prog 27 #[.agg #[.int .i64 f, .slice A1 X.length c1], .int .u64 18446744073709551615] y.at_ fun e w' => e = .returned (.int .u64 tt) ∧ Below y.at_.heap.size y.at_ w') := fun y => by have h := rank_any f A1 X c1 18446744073709551615 (by simp [U]) uX (by omega) y.at_ (S1.out.after y.is); rw [P4.out] at h; exact h
  have C5 : Hid (∀ y : After w4, Calls Try.prog 29 #[.int .u64 rv, .int .u64 rv] y.at_ fun e w' => e = .returned (.int .u64 (sat rv rv)) ∧ Below y.at_.heap.size y.at_ w') := fun y => (plus_any rv rv p5 p5 y.at_).mono fun _ _ ⟨h1, h2⟩ => ⟨h1, h2 ▸ below_0 _⟩
  clear k0X1 k1X1 kzX1 k0X2 k1X2 kzX2
  refine wp_region_below (by kernel_rfl) (by kernel_rfl) ?_
  repeat (go_big_quiet_step (first | with_reducible exact after_calls (C1.out _) | with_reducible exact after_calls (C2.out _) | with_reducible exact after_calls (C3.out _) | with_reducible exact after_calls (C4.out _) | with_reducible exact after_calls (C5.out _)))
  refine wpQuiet_nil ?_
  rintro _ ⟨⟨w9, hb9⟩, rfl⟩
  go_wp2_with fail
  go_ret
  exact ⟨ret_bool (by first | rfl | (simp; omega)), Below.two T hb9⟩
end Go.Proofs.Ytopddcabaiicgaa

/-
  Walks of the reference of chapter 6: Right, Has, Count, put, Of.
-/
import Derived.Test.YtdobgfadnenhaaaExactRef1
import Derived.Test.YtdobgfadnenhaaaExactLaws
namespace Go.Proofs.Ytdobgfadnenhaaa
open Go.RowKit
set_option linter.unusedVariables false

set_option maxHeartbeats 400000 in
theorem rright_any (w : World) (c : Nat) (A : Option Addr) (l : List Int) (hS : Sl w w.heap.size A l) (hl : l.length ≤ 1152921504606846976) :
    Calls Try.prog 23 #[.agg #[.slice A l.length c]] w fun e w' => e = .returned (.bool (rightB l)) ∧ ∃ k, w' = (w.alloc (.cells #[.slice A l.length c] 24)).drewN k := by
  go_enter Try.func23, Try.ntmps23
  go_wp2
  go_loopw [3] (fun i wr => ∃ k n : Nat, 1 ≤ k ∧ (k ≤ l.length ∨ k = 1) ∧ i = .int .i64 k ∧ risesTo l k = true ∧ wr = (w.alloc (.cells #[.slice A l.length c] 24)).drewN n) (fun i _ => l.length - (intOf i).toNat)
  case atStart => exact ⟨1, 0, Nat.le_refl _, .inr rfl, rfl, by simp [risesTo], rfl⟩
  case round =>
    obtain ⟨k, n, h1, h2, rfl, hr, rfl⟩ := hrel
    have HR := Lib.hid hr
    have HO := Lib.hid h2
    clear hr h2
    by_cases hlt : k < l.length
    · obtain ⟨b, off, rfl, hb, hc⟩ := hS.at_ (by omega)
      have hc1 : w.cell? ⟨b, off + k, none⟩ = some (.int .u64 (nth l k)) := hc k hlt
      have hc2 : w.cell? ⟨b, off + (k - 1), none⟩ = some (.int .u64 (nth l (k - 1))) := hc (k - 1) (by omega)
      have hi1 : (k : Int) < (l.length : Int) := by omega
      have hi2 : (k : Int) - 1 < (l.length : Int) := by omega
      have hi3 : (0 : Int) ≤ (k : Int) - 1 := by omega
      have hi4 : (1 : Int) ≤ (k : Int) := by omega
      have hs := risesTo_succ l k
      rw [HR.out] at hs
      clear hc
      by_cases hle : nth l (k - 1) < nth l k
      · have HS : Hid (risesTo l (k + 1) = true) := by show risesTo l (k + 1) = true; rw [hs]; simp [hle]
        have hnle : ¬ nth l k ≤ nth l (k - 1) := by omega
        clear hs
        go_wp2
        go_quiet (fail)
        go_wp2
        go_roundw
        case rel => exact ⟨k + 1, _, by omega, .inl (by omega), by go_num, HS.out, rfl⟩
        case measure => simp [intOf]; omega
      · have HF : Hid (rightB l = false) := rightB_of_not hlt (by rw [hs]; simp [hle]; omega)
        have hnle : nth l k ≤ nth l (k - 1) := by omega
        clear hs
        go_wp2
        go_quiet (fail)
        go_wp2
        go_ret
        exact ⟨ret_bool HF.out.symm, _, World.drewN_drewN _ _ _⟩
    · have hrl : risesTo l l.length = true := risesTo_le HR.out (by omega)
      have hlt' : ¬ (k : Int) < (l.length : Int) := by omega
      by_cases h64 : l.length ≤ 64
      · have d64 : decide ((l.length : Int) ≤ 64) = true := by simp; omega
        have HF : Hid (rightB l = true) := by show rightB l = true; simp [rightB, hrl, h64]
        clear hrl
        go_wp2
        go_ret
        exact ⟨ret_bool HF.out.symm, _, rfl⟩
      · have d64 : decide ((l.length : Int) ≤ 64) = false := by simp; omega
        have HF : Hid (rightB l = false) := by show rightB l = false; simp [rightB]; omega
        clear hrl
        go_wp2
        go_ret
        exact ⟨ret_bool HF.out.symm, _, rfl⟩
theorem rright_b (w : World) (c : Nat) (A : Option Addr) (l : List Int) (hS : Sl w w.heap.size A l) (hl : l.length ≤ 1152921504606846976) :
    Calls Try.prog 23 #[.agg #[.slice A l.length c]] w fun e w' => e = .returned (.bool (rightB l)) ∧ Below w.heap.size w w' :=
  (rright_any w c A l hS hl).mono fun _ _ ⟨he, k, hw⟩ => ⟨he, by rw [hw]; exact below_drewN (below_al (below_0 _) _) _⟩

theorem rcount_any (w : World) (c : Nat) (A : Option Addr) (l : List Int) (hS : Sl w w.heap.size A l) (hl : l.length ≤ 1152921504606846976) :
    Calls Try.prog 25 #[.agg #[.slice A l.length c]] w fun e w' => e = .returned (.int .u64 (cnt l)) ∧ Below w.heap.size w w' := by
  cases hr : rightB l with
  | true =>
    have HC : Hid (cnt l = (l.length : Int)) := by show cnt l = _; simp [cnt, hr]
    have HR := Lib.hid hr
    clear hr
    go_enter Try.func25, Try.ntmps25
    go_wp2_with fail
    refine (rright_any _ c A l (by exact hS.later (below_al (below_0 _) _)) (by omega)).mono ?_
    rintro e w1 ⟨rfl, k, rfl⟩
    rw [HR.out]
    go_wp2_with fail
    go_ret
    exact ⟨ret_int HC.out.symm, below_drewN (below_al (below_al (below_0 _) _) _) _⟩
  | false =>
    have HC : Hid (cnt l = 0) := by show cnt l = _; simp [cnt, hr]
    have HR := Lib.hid hr
    clear hr
    go_enter Try.func25, Try.ntmps25
    go_wp2_with fail
    refine (rright_any _ c A l (by exact hS.later (below_al (below_0 _) _)) (by omega)).mono ?_
    rintro e w1 ⟨rfl, k, rfl⟩
    rw [HR.out]
    go_wp2_with fail
    go_ret
    exact ⟨ret_int HC.out.symm, below_drewN (below_al (below_al (below_0 _) _) _) _⟩
end Go.Proofs.Ytdobgfadnenhaaa

/-
  Are two lists of numbers the same: slices.Equal, and the reference's Numbers.
-/
import Derived.Test.YthjdonhabenmcaaRows
import Derived.Test.YthjdonhabenmcaaMem
namespace Go.Proofs.Ythjdonhabenmcaa
open Go.RowKit
set_option linter.unusedVariables false
def sameTo (l m : List Int) (k : Nat) : Bool := (List.range k).all fun i => decide (nth l i = nth m i)
theorem sameTo_succ (l m : List Int) (k : Nat) : sameTo l m (k + 1) = (sameTo l m k && decide (nth l k = nth m k)) := by simp [sameTo, List.range_succ]
theorem sameTo_le {l m : List Int} {k j : Nat} (h : sameTo l m j = true) (hk : k ≤ j) : sameTo l m k = true := by
  simp only [sameTo, List.all_eq_true, List.mem_range] at *
  exact fun i hi => h i (by omega)
def eqB (l m : List Int) : Bool := decide (l = m)
theorem eqB_of_len {l m : List Int} (h : l.length ≠ m.length) : eqB l m = false := by
  simp only [eqB, decide_eq_false_iff_not]; rintro rfl; exact h rfl
theorem eqB_of_same {l m : List Int} (h : l.length = m.length) (hs : sameTo l m l.length = true) : eqB l m = true := by
  simp only [eqB, decide_eq_true_eq]
  simp only [sameTo, List.all_eq_true, List.mem_range, decide_eq_true_eq] at hs
  refine List.ext_getElem h fun i h1 h2 => ?_
  have := hs i h1
  simpa [nth, h1, h2] using this
theorem eqB_of_not {l m : List Int} {k : Nat} (hk : nth l k ≠ nth m k) : eqB l m = false := by
  simp only [eqB, decide_eq_false_iff_not]; rintro rfl; exact hk rfl

set_option maxHeartbeats 400000 in
theorem equal_any (w : World) (B c c2 : Nat) (A A2 : Option Addr) (l m : List Int) (hS : Sl w B A l) (hS2 : Sl w B A2 m) (hl : l.length ≤ 1152921504606846976) (hm : m.length ≤ 1152921504606846976) :
    Calls Try.prog 44 #[.slice A l.length c, .slice A2 m.length c2] w fun e w' => e = .returned (.bool (eqB l m)) ∧ ∃ k, w' = w.drewN k := by
  by_cases hlen : l.length = m.length
  · have hd : ((l.length : Int) != (m.length : Int)) = false := by simp [hlen]
    have HL := Lib.hid hlen
    clear hlen
    go_enter Try.func44, Try.ntmps44
    go_wp2
    go_loopw [13] (fun i wr => ∃ k n : Nat, k ≤ l.length ∧ i = .int .i64 k ∧ sameTo l m k = true ∧ wr = w.drewN n) (fun i _ => l.length - (intOf i).toNat)
    case atStart => exact ⟨0, 0, Nat.zero_le _, rfl, rfl, rfl⟩
    case round =>
      obtain ⟨k, n, hk, rfl, hr, rfl⟩ := hrel
      have HR := Lib.hid hr
      clear hr hd
      by_cases hlt : k < l.length
      · have hlt2 : k < m.length := by rw [← HL.out]; exact hlt
        obtain ⟨b, off, rfl, _, hc⟩ := hS.at_ (by omega)
        obtain ⟨b2, off2, rfl, _, hc2⟩ := hS2.at_ (by omega)
        have hc1 := hc k hlt
        have hc3 := hc2 k hlt2
        clear hc hc2
        have hi : (k : Int) < (l.length : Int) := by omega
        have hi2 : (k : Int) < (m.length : Int) := by omega
        by_cases he : nth l k = nth m k
        · have he' : (nth l k != nth m k) = false := by simp [he]
          have HS : Hid (sameTo l m (k + 1) = true) := by show sameTo l m (k + 1) = true; rw [sameTo_succ, HR.out]; simp [he]
          clear he
          go_wp2
          go_quiet (fail)
          go_wp2
          go_roundw
          case rel => exact ⟨k + 1, _, by omega, by go_num, HS.out, rfl⟩
          case measure => simp [intOf]; omega
        · have he' : (nth l k != nth m k) = true := by simp [he]
          have HS : Hid (eqB l m = false) := eqB_of_not he
          clear he
          go_wp2
          go_quiet (fail)
          go_wp2
          go_ret
          exact ⟨ret_bool HS.out.symm, _, World.drewN_drewN _ _ _⟩
      · obtain rfl : k = l.length := by omega
        have HS : Hid (eqB l m = true) := eqB_of_same HL.out HR.out
        go_wp2
        go_ret
        exact ⟨ret_bool HS.out.symm, _, rfl⟩
  · have hd : ((l.length : Int) != (m.length : Int)) = true := by simp; omega
    have HS : Hid (eqB l m = false) := eqB_of_len hlen
    go_enter Try.func44, Try.ntmps44
    go_wp2
    go_ret
    exact ⟨ret_bool HS.out.symm, 0, rfl⟩
set_option maxHeartbeats 400000 in
theorem numbers_any (w : World) (B c c2 : Nat) (A A2 : Option Addr) (l m : List Int) (hS : Sl w B A l) (hS2 : Sl w B A2 m) (hl : l.length ≤ 1152921504606846976) (hm : m.length ≤ 1152921504606846976) :
    Calls Try.prog 39 #[.slice A l.length c, .slice A2 m.length c2] w fun e w' => e = .returned (.bool (eqB l m)) ∧ ∃ k, w' = w.drewN k := by
  by_cases hlen : l.length = m.length
  · have hd : ((l.length : Int) != (m.length : Int)) = false := by simp [hlen]
    have HL := Lib.hid hlen
    clear hlen
    go_enter Try.func39, Try.ntmps39
    go_wp2
    go_loopw [5] (fun i wr => ∃ k n : Nat, k ≤ l.length ∧ i = .int .i64 k ∧ sameTo l m k = true ∧ wr = w.drewN n) (fun i _ => l.length - (intOf i).toNat)
    case atStart => exact ⟨0, 0, Nat.zero_le _, rfl, rfl, rfl⟩
    case round =>
      obtain ⟨k, n, hk, rfl, hr, rfl⟩ := hrel
      have HR := Lib.hid hr
      clear hr hd
      by_cases hlt : k < l.length
      · have hlt2 : k < m.length := by rw [← HL.out]; exact hlt
        obtain ⟨b, off, rfl, _, hc⟩ := hS.at_ (by omega)
        obtain ⟨b2, off2, rfl, _, hc2⟩ := hS2.at_ (by omega)
        have hc1 := hc k hlt
        have hc3 := hc2 k hlt2
        clear hc hc2
        have hi : (k : Int) < (l.length : Int) := by omega
        have hi2 : (k : Int) < (m.length : Int) := by omega
        by_cases he : nth l k = nth m k
        · have he' : (nth l k != nth m k) = false := by simp [he]
          have HS : Hid (sameTo l m (k + 1) = true) := by show sameTo l m (k + 1) = true; rw [sameTo_succ, HR.out]; simp [he]
          clear he
          go_wp2
          go_quiet (fail)
          go_wp2
          go_roundw
          case rel => exact ⟨k + 1, _, by omega, by go_num, HS.out, rfl⟩
          case measure => simp [intOf]; omega
        · have he' : (nth l k != nth m k) = true := by simp [he]
          have HS : Hid (eqB l m = false) := eqB_of_not he
          clear he
          go_wp2
          go_quiet (fail)
          go_wp2
          go_ret
          exact ⟨ret_bool HS.out.symm, _, World.drewN_drewN _ _ _⟩
      · obtain rfl : k = l.length := by omega
        have HS : Hid (eqB l m = true) := eqB_of_same HL.out HR.out
        go_wp2
        go_ret
        exact ⟨ret_bool HS.out.symm, _, rfl⟩
  · have hd : ((l.length : Int) != (m.length : Int)) = true := by simp; omega
    have HS : Hid (eqB l m = false) := eqB_of_len hlen
    go_enter Try.func39, Try.ntmps39
    go_wp2
    go_ret
    exact ⟨ret_bool HS.out.symm, 0, rfl⟩
end Go.Proofs.Ythjdonhabenmcaa

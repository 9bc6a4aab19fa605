/-
  Merged out of: ExactPlain ExactWalk ExactApi2.
-/
import Derived.Test.YtoffmclbnobllaaGreatDoorRows
import Derived.Deep.RegionWith
import Derived.Test.YtoffmclbnobllaaGreatDoorCkBase
namespace Go.Proofs.YtoffmclbnobllaaGreatDoor.Ex
section
open Go.RowKit
/-- Each number but the first is greater than the one ahead of it, up to a place. -/
def risesTo (l : List Int) (k : Nat) : Bool := (List.range k).all fun i => decide (i = 0) || decide (nth l (i - 1) < nth l i)
def rightB (l : List Int) : Bool := decide (l.length ≤ 64) && risesTo l l.length
theorem risesTo_succ (l : List Int) (k : Nat) : risesTo l (k + 1) = (risesTo l k && (decide (k = 0) || decide (nth l (k - 1) < nth l k))) := by
  simp [risesTo, List.range_succ]
theorem risesTo_le {l : List Int} {k m : Nat} (h : risesTo l m = true) (hk : k ≤ m) : risesTo l k = true := by
  simp only [risesTo, List.all_eq_true, List.mem_range] at *
  exact fun i hi => h i (by omega)
theorem rightB_of_not {l : List Int} {k : Nat} (hk : k < l.length) (h : risesTo l (k + 1) = false) : rightB l = false := by
  cases hr : rightB l with
  | false => rfl
  | true =>
    simp only [rightB, Bool.and_eq_true] at hr
    rw [risesTo_le hr.2 (by omega)] at h
    cases h
end
section
open Go.RowKit
set_option linter.unusedVariables false
set_option maxHeartbeats 400000 in
theorem right_any (w : World) (B : Nat) (A : Option Addr) (c : Nat) (l : List Int) (hS : Sl w B A l) (hB : B ≤ w.heap.size) (hn : l.length ≤ 9223372036854775807) :
    Calls Tryz.prog 83 #[.agg #[.slice A l.length c]] w fun e w' => e = .returned (.bool (rightB l)) ∧ w.alloc (.cells #[.slice A l.length c] 39) = w' := by
  by_cases h64 : 64 < l.length
  · have hr : Hid (rightB l = false) := by show rightB l = false; simp [rightB]; omega
    have d64 : decide (64 < (l.length : Int)) = true := by simp; omega
    go_enter Tryz.func83, Tryz.ntmps83
    go_wp2
    go_ret
    exact ⟨ret_bool hr.out.symm, rfl⟩
  · have d64 : decide (64 < (l.length : Int)) = false := by simp; omega
    go_enter Tryz.func83, Tryz.ntmps83
    go_wp2
    go_loop [12] (fun i => ∃ k : Nat, k ≤ l.length ∧ i = .int .i64 k ∧ risesTo l k = true) (fun i => l.length - (intOf i).toNat)
    case atStart => exact ⟨0, Nat.zero_le _, rfl, rfl⟩
    case round =>
      obtain ⟨k, hk, rfl, hr⟩ := hrel
      have HR := Lib.hid hr
      clear hr d64
      by_cases hlt : k < l.length
      · obtain ⟨b, off, rfl, hb, hc⟩ := hS.at_ (by omega)
        have hb' : b < w.heap.size := by omega
        have hne : b ≠ w.heap.size := by omega
        have hc1 : w.cell? ⟨b, off + k, none⟩ = some (.int .u64 (nth l k)) := hc k hlt
        have hs := risesTo_succ l k
        rw [HR.out] at hs
        by_cases h0 : k = 0
        · subst h0
          have hc0 : w.cell? ⟨b, off, none⟩ = some (.int .u64 (nth l 0)) := hc1
          have HS : Hid (risesTo l (0 + 1) = true) := by rw [hs]; rfl
          clear hs hc
          go_wp2
          go_round
          case rel => exact ⟨1, by omega, by go_num, HS.out⟩
          case measure => simp [intOf]; omega
        · have hc2 : w.cell? ⟨b, off + (k - 1), none⟩ = some (.int .u64 (nth l (k - 1))) := hc (k - 1) (by omega)
          clear hc
          have hk0 : 0 < k := by omega
          by_cases hle : nth l (k - 1) < nth l k
          · have HS : Hid (risesTo l (k + 1) = true) := by show risesTo l (k + 1) = true; rw [hs]; simp [hle]
            have hnle : ¬ nth l k ≤ nth l (k - 1) := by omega
            clear hs
            go_wp2
            go_round
            case rel => exact ⟨k + 1, by omega, by go_num, HS.out⟩
            case measure => simp [intOf]; omega
          · have HS : Hid (risesTo l (k + 1) = false) := by show risesTo l (k + 1) = false; rw [hs]; simp [hle, h0]
            have HF : Hid (rightB l = false) := rightB_of_not hlt HS.out
            have hnle : nth l k ≤ nth l (k - 1) := by omega
            clear hs
            go_wp2
            go_ret
            exact ⟨ret_bool HF.out.symm, rfl⟩
      · have HF : Hid (rightB l = true) := by
          obtain rfl : k = l.length := by omega
          show rightB l = true
          simp [rightB, HR.out]; omega
        go_wp2
        go_ret
        exact ⟨ret_bool HF.out.symm, rfl⟩
end
section
open Go.RowKit
set_option linter.unusedVariables false
/-- The lists are the same up to a place. -/
def sameTo (l m : List Int) (k : Nat) : Bool := (List.range k).all fun i => decide (nth l i = nth m i)
theorem sameTo_succ (l m : List Int) (k : Nat) : sameTo l m (k + 1) = (sameTo l m k && decide (nth l k = nth m k)) := by simp [sameTo, List.range_succ]
def eqB (l m : List Int) : Bool := decide (l = m)
theorem eqB_of_len {l m : List Int} (h : l.length ≠ m.length) : eqB l m = false := by
  simp only [eqB, decide_eq_false_iff_not]; rintro rfl; exact h rfl
theorem eqB_of_same {l m : List Int} (h : l.length = m.length) (hs : sameTo l m l.length = true) : eqB l m = true := by
  simp only [eqB, decide_eq_true_eq]
  simp only [sameTo, List.all_eq_true, List.mem_range, decide_eq_true_eq] at hs
  refine List.ext_getElem h fun i h1 h2 => ?_
  have := hs i h1
  simpa [nth, h1, h2] using this
theorem eqB_of_not {l m : List Int} {k : Nat} (hk : nth l k ≠ nth m k) : eqB l m = false := by
  simp only [eqB, decide_eq_false_iff_not]; rintro rfl; exact hk rfl
set_option maxHeartbeats 400000 in
theorem equal_any (w : World) (B c c2 : Nat) (A A2 : Option Addr) (l m : List Int) (hS : Sl w B A l) (hS2 : Sl w B A2 m) (hl : l.length ≤ 1152921504606846976) (hm : m.length ≤ 1152921504606846976) :
    Calls Tryz.prog 87 #[.slice A l.length c, .slice A2 m.length c2] w fun e w' => e = .returned (.bool (eqB l m)) ∧ ∃ k, w' = w.drewN k := by
  by_cases hlen : l.length = m.length
  · have hd : ((l.length : Int) != (m.length : Int)) = false := by simp [hlen]
    have HL := Lib.hid hlen
    clear hlen
    go_enter Tryz.func87, Tryz.ntmps87
    go_wp2
    go_loopw [13] (fun i wr => ∃ k n : Nat, k ≤ l.length ∧ i = .int .i64 k ∧ sameTo l m k = true ∧ wr = w.drewN n) (fun i _ => l.length - (intOf i).toNat)
    case atStart => exact ⟨0, 0, Nat.zero_le _, rfl, rfl, rfl⟩
    case round =>
      obtain ⟨k, n, hk, rfl, hr, rfl⟩ := hrel
      have HR := Lib.hid hr
      clear hr hd
      by_cases hlt : k < l.length
      · have hlt2 : k < m.length := by rw [← HL.out]; exact hlt
        obtain ⟨b, off, rfl, _, hc⟩ := hS.at_ (by omega)
        obtain ⟨b2, off2, rfl, _, hc2⟩ := hS2.at_ (by omega)
        have hc1 := hc k hlt
        have hc3 := hc2 k hlt2
        clear hc hc2
        have hi : (k : Int) < (l.length : Int) := by omega
        have hi2 : (k : Int) < (m.length : Int) := by omega
        by_cases he : nth l k = nth m k
        · have he' : (nth l k != nth m k) = false := by simp [he]
          have HS : Hid (sameTo l m (k + 1) = true) := by show sameTo l m (k + 1) = true; rw [sameTo_succ, HR.out]; simp [he]
          clear he
          go_wp2
          go_quiet (fail)
          go_wp2
          go_roundw
          case rel => exact ⟨k + 1, _, by omega, by go_num, HS.out, rfl⟩
          case measure => simp [intOf]; omega
        · have he' : (nth l k != nth m k) = true := by simp [he]
          have HS : Hid (eqB l m = false) := eqB_of_not he
          clear he
          go_wp2
          go_quiet (fail)
          go_wp2
          go_ret
          exact ⟨ret_bool HS.out.symm, _, World.drewN_drewN _ _ _⟩
      · obtain rfl : k = l.length := by omega
        have HS : Hid (eqB l m = true) := eqB_of_same HL.out HR.out
        go_wp2
        go_ret
        exact ⟨ret_bool HS.out.symm, _, rfl⟩
  · have hd : ((l.length : Int) != (m.length : Int)) = true := by simp; omega
    have HS : Hid (eqB l m = false) := eqB_of_len hlen
    go_enter Tryz.func87, Tryz.ntmps87
    go_wp2
    go_ret
    exact ⟨ret_bool HS.out.symm, 0, rfl⟩
theorem same_any (w : World) (c c2 : Nat) (A A2 : Option Addr) (l m : List Int) (hS : Sl w w.heap.size A l) (hS2 : Sl w w.heap.size A2 m) (hl : l.length ≤ 1152921504606846976) (hm : m.length ≤ 1152921504606846976) :
    Calls Tryz.prog 77 #[.agg #[.slice A l.length c], .agg #[.slice A2 m.length c2]] w fun e w' => e = .returned (.bool (eqB l m)) ∧ Below w.heap.size w w' := by
  have HS := Lib.hid hS
  have HS2 := Lib.hid hS2
  go_enter Tryz.func77, Tryz.ntmps77
  go_wp2_with fail
  refine (equal_any _ w.heap.size c c2 A A2 l m (by exact HS.out.al (below_al (below_al (below_0 _) _) _)) (by exact HS2.out.al (below_al (below_al (below_0 _) _) _)) hl hm).mono ?_
  rintro e w1 ⟨rfl, k, rfl⟩
  go_wp2_with fail
  go_ret
  exact ⟨rfl, below_drewN (below_al (below_al (below_0 _) _) _) _⟩
end
end Go.Proofs.YtoffmclbnobllaaGreatDoor.Ex

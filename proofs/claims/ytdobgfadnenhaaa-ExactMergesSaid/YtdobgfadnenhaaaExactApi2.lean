/-
  Walks of the exported functions of package exact that only tell: Has, Count, Same.
-/
import Derived.Deep.RegionWith
import Derived.Test.YtdobgfadnenhaaaExactWalk
namespace Go.Proofs.Ytdobgfadnenhaaa
open Go.RowKit
set_option linter.unusedVariables false

/-- The lists are the same up to a place. -/
def sameTo (l m : List Int) (k : Nat) : Bool := (List.range k).all fun i => decide (nth l i = nth m i)
theorem sameTo_succ (l m : List Int) (k : Nat) : sameTo l m (k + 1) = (sameTo l m k && decide (nth l k = nth m k)) := by simp [sameTo, List.range_succ]
theorem sameTo_le {l m : List Int} {k j : Nat} (h : sameTo l m j = true) (hk : k ≤ j) : sameTo l m k = true := by
  simp only [sameTo, List.all_eq_true, List.mem_range] at *
  exact fun i hi => h i (by omega)
def eqB (l m : List Int) : Bool := decide (l = m)
theorem eqB_of_len {l m : List Int} (h : l.length ≠ m.length) : eqB l m = false := by
  simp only [eqB, decide_eq_false_iff_not]; rintro rfl; exact h rfl
theorem eqB_of_same {l m : List Int} (h : l.length = m.length) (hs : sameTo l m l.length = true) : eqB l m = true := by
  simp only [eqB, decide_eq_true_eq]
  simp only [sameTo, List.all_eq_true, List.mem_range, decide_eq_true_eq] at hs
  refine List.ext_getElem h fun i h1 h2 => ?_
  have := hs i h1
  simpa [nth, h1, h2] using this
theorem eqB_of_not {l m : List Int} {k : Nat} (hk : nth l k ≠ nth m k) : eqB l m = false := by
  simp only [eqB, decide_eq_false_iff_not]; rintro rfl; exact hk rfl

set_option maxHeartbeats 400000 in
theorem equal_any (w : World) (B c c2 : Nat) (A A2 : Option Addr) (l m : List Int) (hS : Sl w B A l) (hS2 : Sl w B A2 m) (hl : l.length ≤ 1152921504606846976) (hm : m.length ≤ 1152921504606846976) :
    Calls Try.prog 32 #[.slice A l.length c, .slice A2 m.length c2] w fun e w' => e = .returned (.bool (eqB l m)) ∧ ∃ k, w' = w.drewN k := by
  by_cases hlen : l.length = m.length
  · have hd : ((l.length : Int) != (m.length : Int)) = false := by simp [hlen]
    have HL := Lib.hid hlen
    clear hlen
    go_enter Try.func32, Try.ntmps32
    go_wp2
    go_loopw [13] (fun i wr => ∃ k n : Nat, k ≤ l.length ∧ i = .int .i64 k ∧ sameTo l m k = true ∧ wr = w.drewN n) (fun i _ => l.length - (intOf i).toNat)
    case atStart => exact ⟨0, 0, Nat.zero_le _, rfl, rfl, rfl⟩
    case round =>
      obtain ⟨k, n, hk, rfl, hr, rfl⟩ := hrel
      have HR := Lib.hid hr
      clear hr hd
      by_cases hlt : k < l.length
      · have hlt2 : k < m.length := by rw [← HL.out]; exact hlt
        obtain ⟨b, off, rfl, _, hc⟩ := hS.at_ (by omega)
        obtain ⟨b2, off2, rfl, _, hc2⟩ := hS2.at_ (by omega)
        have hc1 := hc k hlt
        have hc3 := hc2 k hlt2
        clear hc hc2
        have hi : (k : Int) < (l.length : Int) := by omega
        have hi2 : (k : Int) < (m.length : Int) := by omega
        by_cases he : nth l k = nth m k
        · have he' : (nth l k != nth m k) = false := by simp [he]
          have HS : Hid (sameTo l m (k + 1) = true) := by show sameTo l m (k + 1) = true; rw [sameTo_succ, HR.out]; simp [he]
          clear he
          go_wp2
          go_quiet (fail)
          go_wp2
          go_roundw
          case rel => exact ⟨k + 1, _, by omega, by go_num, HS.out, rfl⟩
          case measure => simp [intOf]; omega
        · have he' : (nth l k != nth m k) = true := by simp [he]
          have HS : Hid (eqB l m = false) := eqB_of_not he
          clear he
          go_wp2
          go_quiet (fail)
          go_wp2
          go_ret
          exact ⟨ret_bool HS.out.symm, _, World.drewN_drewN _ _ _⟩
      · obtain rfl : k = l.length := by omega
        have HS : Hid (eqB l m = true) := eqB_of_same HL.out HR.out
        go_wp2
        go_ret
        exact ⟨ret_bool HS.out.symm, _, rfl⟩
  · have hd : ((l.length : Int) != (m.length : Int)) = true := by simp; omega
    have HS : Hid (eqB l m = false) := eqB_of_len hlen
    go_enter Try.func32, Try.ntmps32
    go_wp2
    go_ret
    exact ⟨ret_bool HS.out.symm, 0, rfl⟩

theorem same_any (w : World) (c c2 : Nat) (A A2 : Option Addr) (l m : List Int) (hS : Sl w w.heap.size A l) (hS2 : Sl w w.heap.size A2 m) (hl : l.length ≤ 1152921504606846976) (hm : m.length ≤ 1152921504606846976) :
    Calls Try.prog 26 #[.agg #[.slice A l.length c], .agg #[.slice A2 m.length c2]] w fun e w' => e = .returned (.bool (eqB l m)) ∧ Below w.heap.size w w' := by
  have HS := Lib.hid hS
  have HS2 := Lib.hid hS2
  go_enter Try.func26, Try.ntmps26
  go_wp2_with fail
  refine (equal_any _ w.heap.size c c2 A A2 l m (by exact HS.out.al (below_al (below_al (below_0 _) _) _)) (by exact HS2.out.al (below_al (below_al (below_0 _) _) _)) hl hm).mono ?_
  rintro e w1 ⟨rfl, k, rfl⟩
  go_wp2_with fail
  go_ret
  exact ⟨rfl, below_drewN (below_al (below_al (below_0 _) _) _) _⟩

/-- How many numbers a sketch has. -/
def cnt (l : List Int) : Int := if rightB l = true then (l.length : Int) else 0
theorem count_any (w : World) (c : Nat) (A : Option Addr) (l : List Int) (hS : Sl w w.heap.size A l) (hl : l.length ≤ 1152921504606846976) :
    Calls Try.prog 20 #[.agg #[.slice A l.length c]] w fun e w' => e = .returned (.int .u64 (cnt l)) ∧ Below w.heap.size w w' := by
  cases hr : rightB l with
  | true =>
    have HC : Hid (cnt l = (l.length : Int)) := by show cnt l = _; simp [cnt, hr]
    have HR := Lib.hid hr
    clear hr
    go_enter Try.func20, Try.ntmps20
    go_wp2_with fail
    refine (right_any _ w.heap.size A c l (by exact hS.al (below_al (below_0 _) _)) (by simp) (by omega)).mono ?_
    rintro e w1 ⟨rfl, rfl⟩
    rw [HR.out]
    go_wp2_with fail
    go_ret
    exact ⟨ret_int HC.out.symm, below_al (below_al (below_0 _) _) _⟩
  | false =>
    have HC : Hid (cnt l = 0) := by show cnt l = _; simp [cnt, hr]
    have HR := Lib.hid hr
    clear hr
    go_enter Try.func20, Try.ntmps20
    go_wp2_with fail
    refine (right_any _ w.heap.size A c l (by exact hS.al (below_al (below_0 _) _)) (by simp) (by omega)).mono ?_
    rintro e w1 ⟨rfl, rfl⟩
    rw [HR.out]
    go_wp2_with fail
    go_ret
    exact ⟨ret_int HC.out.symm, below_al (below_al (below_0 _) _) _⟩

/-- Is a number one of a sketch's? -/
def hasB (l : List Int) (n : Int) : Bool := rightB l && decide (n ∈ l)
set_option maxHeartbeats 4000000 in
theorem has_any (w : World) (c : Nat) (A : Option Addr) (l : List Int) (n : Int) (hS : Sl w w.heap.size A l) (hl : l.length ≤ 1152921504606846976) :
    Calls Try.prog 19 #[.agg #[.slice A l.length c], .int .u64 n] w fun e w' => e = .returned (.bool (hasB l n)) ∧ Below w.heap.size w w' := by
  have HS := Lib.hid hS
  cases hr : rightB l with
  | true =>
    obtain ⟨h64, hR⟩ := rightB_iff.1 hr
    have HH : Hid (hasB l n = atB l (lb l n) n) := by show hasB l n = _; rw [atB_iff hR]; simp [hasB, hr]
    have HR := Lib.hid hr
    have hlb := lb_le l n
    clear hr
    go_enter Try.func19, Try.ntmps19
    go_wp2_with fail
    go_region_with (first | (go_at_call 22; refine (right_any _ w.heap.size A c l (by exact HS.out.al (by repeat (first | exact below_0 _ | refine below_al ?_ _ | refine Below.drew ?_ | refine below_drewN ?_ _))) (by simp; try omega) (by omega)).mono ?_; rintro e w' ⟨rfl, rfl⟩; rw [HR.out]) | (go_at_call 30; refine (place_any _ c A l n hR (by exact (HS.out.al (by repeat (first | exact below_0 _ | refine below_al ?_ _ | refine Below.drew ?_ | refine below_drewN ?_ _))).more (by simp; try omega)) (by omega)).mono ?_; rintro e w' ⟨rfl, k, rfl⟩) | (go_at_call 29; refine (isAt_any _ c (lb l n) A l n _ rfl (by exact (HS.out.al (by repeat (first | exact below_0 _ | refine below_al ?_ _ | refine Below.drew ?_ | refine below_drewN ?_ _))).more (by simp; try omega)) hlb (by omega)).mono ?_; rintro e w' ⟨rfl, rfl⟩))
    all_goals go_wp2_with fail
    all_goals
      go_ret
      exact ⟨ret_bool HH.out.symm, by repeat (first | exact below_0 _ | refine below_al ?_ _ | refine Below.drew ?_ | refine below_drewN ?_ _)⟩
  | false =>
    have HH : Hid (hasB l n = false) := by show hasB l n = _; simp [hasB, hr]
    have HR := Lib.hid hr
    clear hr
    go_enter Try.func19, Try.ntmps19
    go_wp2_with fail
    refine wp_region_any (by kernel_rfl) ?_
    change wpAny _ _ _ _ _ _ _ (World.drew _)
    refine wpAny_ready (rs := [0]) (by kernel_rfl) (by simp) ?_
    refine AllReady.cons rfl (fun K hK => ?_) AllReady.nil
    go_simp
    refine hK _ _ ?_
    clear hK K
    refine wpAny_ready (rs := [1]) (by kernel_rfl) (by simp) ?_
    refine AllReady.cons rfl (fun K hK => ?_) AllReady.nil
    go_simp
    refine (right_any _ w.heap.size A c l (by exact HS.out.al (by repeat (first | exact below_0 _ | refine below_al ?_ _ | refine Below.drew ?_ | refine below_drewN ?_ _))) (by simp) (by omega)).mono ?_
    rintro e w' ⟨rfl, rfl⟩
    rw [HR.out]
    refine hK _ _ ?_
    clear hK K
    refine wpAny_ready (rs := [2]) (by kernel_rfl) (by simp) ?_
    refine AllReady.cons rfl (fun K hK => ?_) AllReady.nil
    go_simp
    refine hK _ _ ?_
    clear hK K
    refine wpAny_take (i := 3) (v := undef) rfl (by kernel_rfl) (by kernel_rfl) (by kernel_rfl) (fun _ _ _ h => h) (Or.inr ⟨by rfl, rfl⟩) ?_
    refine wpAny_take (i := 4) (v := undef) rfl (by kernel_rfl) (by kernel_rfl) (by kernel_rfl) (fun _ _ _ h => h) (Or.inr ⟨by rfl, rfl⟩) ?_
    refine wpAny_take (i := 5) (v := undef) rfl (by kernel_rfl) (by kernel_rfl) (by kernel_rfl) (fun _ _ _ h => h) (Or.inr ⟨by rfl, rfl⟩) ?_
    refine wpAny_take (i := 6) (v := undef) rfl (by kernel_rfl) (by kernel_rfl) (by kernel_rfl) (fun _ _ _ h => h) (Or.inr ⟨by rfl, rfl⟩) ?_
    refine wpAny_take (i := 7) (v := undef) rfl (by kernel_rfl) (by kernel_rfl) (by kernel_rfl) (fun _ _ _ h => h) (Or.inr ⟨by rfl, rfl⟩) ?_
    refine wpAny_take (i := 8) (v := undef) rfl (by kernel_rfl) (by kernel_rfl) (by kernel_rfl) (fun _ _ _ h => h) (Or.inr ⟨by rfl, rfl⟩) ?_
    refine wpAny_take (i := 9) (v := undef) rfl (by kernel_rfl) (by kernel_rfl) (by kernel_rfl) (fun _ _ _ h => h) (Or.inr ⟨by rfl, rfl⟩) ?_
    refine wpAny_take (i := 10) (v := undef) rfl (by kernel_rfl) (by kernel_rfl) (by kernel_rfl) (fun _ _ _ h => h) (Or.inr ⟨by rfl, rfl⟩) ?_
    refine wpAny_ready (rs := [11]) (by kernel_rfl) (by simp) ?_
    refine AllReady.cons rfl (fun K hK => ?_) AllReady.nil
    go_simp
    refine hK _ _ ?_
    clear hK K
    refine wpAny_ready (rs := [12]) (by kernel_rfl) (by simp) ?_
    refine AllReady.cons rfl (fun K hK => ?_) AllReady.nil
    go_simp
    refine hK _ _ ?_
    clear hK K
    refine wpAny_done (by kernel_rfl) ?_ _
    go_wp2_with fail
    go_ret
    exact ⟨ret_bool HH.out.symm, by repeat (first | exact below_0 _ | refine below_al ?_ _ | refine Below.drew ?_ | refine below_drewN ?_ _)⟩
end Go.Proofs.Ytdobgfadnenhaaa

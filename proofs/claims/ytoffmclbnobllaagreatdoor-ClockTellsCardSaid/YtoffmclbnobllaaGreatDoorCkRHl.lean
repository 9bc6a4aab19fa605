/-
  Merged out of: HllPlain HllShelf HllWalk1 Bytes HllWork HllBlank HllRanks HllRight1 HllRight2 HllEq HllApi1 HllRPlace HllRef1.
-/
import Derived.Shelf.Small.Bits
import Derived.Shelf.Strconv.Itoa0
import Derived.Test.YtoffmclbnobllaaGreatDoorRows
import Derived.IntWalk
import Derived.Laws.IdiomStrings
import Derived.RangeFuncOwn
import Derived.Deep.RegionHeld3
import Derived.Laws.EntriesVeiled
import Derived.Shelf.Abstract
import Derived.Shelf.RegionOpen
import Derived.OwnWalkIn
import Derived.TacticsInMore
import Derived.LoopNIn
import Derived.LoopIn
import Derived.Laws.StructEq
import Derived.Test.YtoffmclbnobllaaGreatDoorCkHl
namespace Go.Proofs.YtoffmclbnobllaaGreatDoor.Hl
section
end
section
open Go.RowKit Go.Shelf
end
section
open Go.RowKit
set_option linter.unusedVariables false
theorem risBits_any (b : Int) (w : World) : Calls Tryz.prog 59 #[.int .i64 b] w fun e w' => e = .returned (.bool (bitsB b)) ∧ w = w' := by
  by_cases h1 : 3 ≤ b
  · by_cases h2 : b ≤ 8
    · go_enter Tryz.func59, Tryz.ntmps59
      go_wp2
      go_ret
      exact ⟨ret_bool (by simp [bitsB]; omega), rfl⟩
    · go_enter Tryz.func59, Tryz.ntmps59
      go_wp2
      go_ret
      exact ⟨ret_bool (by simp [bitsB]; omega), rfl⟩
  · go_enter Tryz.func59, Tryz.ntmps59
    go_wp2
    go_ret
    exact ⟨ret_bool (by simp [bitsB]; omega), rfl⟩
end
section
open Go.RowKit
section
variable {w w' : World} {g : Nat} {l : List Nat}
end
end
section
open Go.RowKit
set_option linter.unusedVariables false
set_option linter.unusedSimpArgs false
end
section
open Go.RowKit
set_option linter.unusedVariables false
set_option linter.unusedSimpArgs false
end
section
open Go.RowKit Go.Shelf
set_option linter.unusedVariables false
attribute [local go_sem] Oper.semAt_some
end
section
open Go.RowKit
set_option linter.unusedVariables false
set_option linter.unusedSimpArgs false
theorem risBits_no {b : Int} (h : bitsB b = false) (w : World) : Calls Tryz.prog 59 #[.int .i64 b] w fun e w' => e = .returned (.bool false) ∧ w' = w := (risBits_any b w).mono fun _ _ ⟨he, hw⟩ => ⟨by rw [he, h], hw.symm⟩
theorem risBits_yes {b : Int} (h : bitsB b = true) (w : World) : Calls Tryz.prog 59 #[.int .i64 b] w fun e w' => e = .returned (.bool true) ∧ w' = w := (risBits_any b w).mono fun _ _ ⟨he, hw⟩ => ⟨by rw [he, h], hw.symm⟩
theorem rright_bits (b : Int) (l : List Nat) (w : World) (hb : bitsB b = false) :
    Calls Tryz.prog 48 #[.agg #[.int .i64 b, .string (bs l)]] w fun e w' => e = .returned (.bool false) ∧ Below w.heap.size w w' := by
  have H := Lib.hid hb
  have HG : Hid (Below w.heap.size w (w.alloc (.cells #[.int .i64 b, .string (bs l)] 41))) := below_al (below_0 _) _
  clear hb
  go_enter Tryz.func48, Tryz.ntmps48
  go_wp2_with fail
  go_quiet ((go_at_call 59; exact Calls.quiet_of_same (risBits_no H.out _)))
  go_wp2_with fail
  go_ret
  exact ⟨rfl, below_drewN HG.out _⟩
end
section
open Go.RowKit
set_option linter.unusedVariables false
set_option linter.unusedSimpArgs false
attribute [local go_sem] Oper.semAt_some
theorem rright_len (B : Nat) (l : List Nat) (w : World) (h3 : 3 ≤ B) (h8 : B ≤ 8) (hl : l.length ≠ 2 ^ B) :
    Calls Tryz.prog 48 #[.agg #[.int .i64 B, .string (bs l)]] w fun e w' => e = .returned (.bool false) ∧ Below w.heap.size w w' := by
  obtain ⟨N, hN, hs1, hs2, hN8, hN256⟩ := pow_shl h3 h8
  rw [hN] at hl
  have d1 : ((l.length : Int) != (N : Int)) = true := by simp; omega
  have H := Lib.hid (show bitsB (B : Int) = true by simp [bitsB]; omega)
  have HG : Hid (Below w.heap.size w (w.alloc (.cells #[.int .i64 B, .string (bs l)] 41))) := below_al (below_0 _) _
  have hsz := bs_size l
  clear hN hl
  go_enter Tryz.func48, Tryz.ntmps48
  go_wp2_with fail
  go_quiet ((go_at_call 59; exact Calls.quiet_of_same (risBits_yes H.out _)))
  go_wp2_with fail
  go_ret
  exact ⟨rfl, below_drewN HG.out _⟩
end
section
open Go.RowKit
set_option linter.unusedVariables false
set_option linter.unusedSimpArgs false
end
section
open Go.RowKit
set_option linter.unusedVariables false
set_option linter.unusedSimpArgs false
theorem _root_.Go.Proofs.YtoffmclbnobllaaGreatDoor.Blk.two {w : World} {g : Nat} {t : TypeId} {a b : Value} (h : Blk w g t #[a, b]) : w.cell? ⟨g, 0, none⟩ = some a ∧ w.cell? ⟨g, 1, none⟩ = some b ∧ w.frozen? ⟨g, 0, none⟩ = false ∧ w.frozen? ⟨g, 1, none⟩ = false := ⟨h.cell 0, h.cell 1, h.frozen 0, h.frozen 1⟩
end
section
open Go.RowKit
set_option linter.unusedVariables false
end
section
open Go.RowKit
set_option linter.unusedVariables false
set_option linter.unusedSimpArgs false
set_option maxHeartbeats 1000000 in
theorem rright_good (B : Nat) (l : List Nat) (w : World) (h3 : 3 ≤ B) (h8 : B ≤ 8) (hl : l.length = 2 ^ B) (hL : Bytes l) :
    Calls Tryz.prog 48 #[.agg #[.int .i64 B, .string (bs l)]] w fun e w' => e = .returned (.bool (decide (∀ x ∈ l, x ≤ 65 - B))) ∧ Below w.heap.size w w' := by
  obtain ⟨N, hN, hs1, hs2, hN8, hN256⟩ := pow_shl h3 h8
  rw [hN] at hl
  have d1 : ((l.length : Int) != (N : Int)) = false := by simp; omega
  have H := Lib.hid (show bitsB (B : Int) = true by simp [bitsB]; omega)
  have HX : Hid (Blk (w.alloc (.cells #[.int .i64 B, .string (bs l)] 41)) w.heap.size 41 #[.int .i64 B, .string (bs l)]) := Blk.new _ _ _
  have HG : Hid (Below w.heap.size w (w.alloc (.cells #[.int .i64 B, .string (bs l)] 41))) := below_al (below_0 _) _
  have hsz := bs_size l
  have HL := Lib.hid hl
  have hl256 : l.length ≤ 256 := by omega
  clear hN hl
  go_enter Tryz.func48, Tryz.ntmps48
  go_wp2_with fail
  go_quiet ((go_at_call 59; exact Calls.quiet_of_same (risBits_yes H.out _)))
  have HX := Lib.hid (show Blk ((w.alloc (.cells #[.int .i64 B, .string (bs l)] 41)).drewN nq) w.heap.size 41 #[.int .i64 B, .string (bs l)] from HX.out)
  have HG := Lib.hid (below_drewN HG.out nq)
  go_wp2_with fail
  generalize (w.alloc (.cells #[.int .i64 B, .string (bs l)] 41)).drewN nq = V at *
  go_loopw [3] (fun i wr => ∃ k : Nat, k ≤ l.length ∧ i = .int .i64 k ∧ (∀ j, j < k → byt l j ≤ 65 - B) ∧ Blk wr w.heap.size 41 #[.int .i64 B, .string (bs l)] ∧ Below w.heap.size w wr) (fun i _ => l.length - (intOf i).toNat)
  case atStart => exact ⟨0, Nat.zero_le _, rfl, (fun j hj => by omega), HX.out, HG.out⟩
  case round =>
    obtain ⟨k, hk, rfl, hall, hX, hB⟩ := hrel
    obtain ⟨x0, x1, _, _⟩ := hX.two
    have HX := Lib.hid hX
    have HB := Lib.hid hB
    have HA := Lib.hid hall
    clear hX hB hall
    by_cases hlt : k < l.length
    · have ha : ∀ h : k < (bs l).size, ((bs l)[k]'h).toNat = byt l k := fun h => bs_at hL h
      have hv := byt_lt hL k
      have hk0 : (0 : Int) ≤ (k : Int) := by omega
      have hk1 : (k : Int) < (l.length : Int) := by omega
      by_cases h0 : byt l k ≤ 65 - B
      · have d0 : decide ((65 : Int) - (B : Int) < ((byt l k : Nat) : Int)) = false := by simp; omega
        have HK : Hid (∀ j, j < k + 1 → byt l j ≤ 65 - B) := fun j hj => by
          rcases Nat.lt_or_ge j k with h | h
          · exact HA.out j h
          · rw [show j = k by omega]; exact h0
        clear h0
        go_wp2_with fail
        go_quiet (fail)
        go_wp2_with fail
        go_roundw
        case rel => exact ⟨k + 1, by omega, by go_num, HK.out, HX.out, below_drewN HB.out _⟩
        case measure => simp [intOf]; omega
      · have d0 : decide ((65 : Int) - (B : Int) < ((byt l k : Nat) : Int)) = true := by simp; omega
        have HK : Hid (decide (∀ x ∈ l, x ≤ 65 - B) = false) := decide_eq_false (fun h => h0 (h _ (byt_mem hlt)))
        clear h0
        go_wp2_with fail
        go_quiet (fail)
        go_wp2_with fail
        go_ret
        exact ⟨by rw [HK.out]; rfl, below_drewN HB.out _⟩
    · obtain rfl : k = l.length := by omega
      go_wp2_with fail
      go_ret
      exact ⟨ret_bool (Eq.symm (decide_eq_true (fun x hx => by obtain ⟨p, hp, rfl⟩ := mem_byt hx; exact HA.out p hp))), HB.out⟩
theorem rright_any (b : Int) (l : List Nat) (hL : Bytes l) (w : World) :
    Calls Tryz.prog 48 #[.agg #[.int .i64 b, .string (bs l)]] w fun e w' => e = .returned (.bool (rightF b l)) ∧ Below w.heap.size w w' := by
  cases hb : bitsB b with
  | false => rw [show rightF b l = false by simp [rightF, hb]]; exact rright_bits b l w hb
  | true =>
    obtain ⟨B, rfl, h3, h8⟩ := bits_nat hb
    by_cases hl : l.length = 2 ^ B
    · rw [show rightF B l = decide (∀ x ∈ l, x ≤ 65 - B) by simp [rightF, hb, hl]]
      exact rright_good B l w h3 h8 hl hL
    · rw [show rightF B l = false by simp [rightF, hl]]
      exact rright_len B l w h3 h8 hl
end
end Go.Proofs.YtoffmclbnobllaaGreatDoor.Hl

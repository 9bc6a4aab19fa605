/-
  Merged out of: ExactPlain ExactWalk Iter ExactGather ExactApi ExactApi2 ExactTotal ExactRef1 ExactShown ExactLaws ExactRef2 ExactFew ExactRef3.
-/
import Derived.Test.YtoffmclbnobllaaGreatDoorRows
import Derived.RangeFuncNested
import Derived.RangeFuncBound
import Derived.RangeFuncCalls
import Derived.RangeFuncLeaves
import Derived.RangeFuncBox
import Derived.Shelf.Abstract
import Derived.Shelf.RegionOpen
import Derived.OwnWalkIn
import Derived.TacticsInMore
import Derived.LoopNIn
import Derived.LoopIn
import Derived.Deep.RegionWith
import Derived.Test.YtoffmclbnobllaaGreatDoorCkEx
namespace Go.Proofs.YtoffmclbnobllaaGreatDoor.Ex
section
open Go.RowKit
end
section
open Go.RowKit
set_option linter.unusedVariables false
end
section
open Go.RowKit Go.Shelf
set_option linter.unusedVariables false
attribute [local go_sem] Oper.semAt_some
end
section
open Go.RowKit Go.Shelf
set_option linter.unusedVariables false
attribute [local go_sem] Oper.semAt_some
theorem _root_.Go.Proofs.YtoffmclbnobllaaGreatDoor.Held.alloc {w : World} {base : Nat} {v : Value} {l : List Int} (h : Held w base v l) (o : Obj) : Held (w.alloc o) base v l := h.later ((Below.refl _ _).alloc (Nat.le_refl _) _)
end
section
open Go.RowKit Go.Shelf
set_option linter.unusedVariables false
end
section
open Go.RowKit
set_option linter.unusedVariables false
end
section
open Go.RowKit
set_option linter.unusedVariables false
end
section
open Go.RowKit
set_option linter.unusedVariables false
set_option maxHeartbeats 400000 in
theorem numbers_any (w : World) (B c c2 : Nat) (A A2 : Option Addr) (l m : List Int) (hS : Sl w B A l) (hS2 : Sl w B A2 m) (hl : l.length ≤ 1152921504606846976) (hm : m.length ≤ 1152921504606846976) :
    Calls Tryz.prog 51 #[.slice A l.length c, .slice A2 m.length c2] w fun e w' => e = .returned (.bool (eqB l m)) ∧ ∃ k, w' = w.drewN k := by
  by_cases hlen : l.length = m.length
  · have hd : ((l.length : Int) != (m.length : Int)) = false := by simp [hlen]
    have HL := Lib.hid hlen
    clear hlen
    go_enter Tryz.func51, Tryz.ntmps51
    go_wp2
    go_loopw [5] (fun i wr => ∃ k n : Nat, k ≤ l.length ∧ i = .int .i64 k ∧ sameTo l m k = true ∧ wr = w.drewN n) (fun i _ => l.length - (intOf i).toNat)
    case atStart => exact ⟨0, 0, Nat.zero_le _, rfl, rfl, rfl⟩
    case round =>
      obtain ⟨k, n, hk, rfl, hr, rfl⟩ := hrel
      have HR := Lib.hid hr
      clear hr hd
      by_cases hlt : k < l.length
      · have hlt2 : k < m.length := by rw [← HL.out]; exact hlt
        obtain ⟨b, off, rfl, _, hc⟩ := hS.at_ (by omega)
        obtain ⟨b2, off2, rfl, _, hc2⟩ := hS2.at_ (by omega)
        have hc1 := hc k hlt
        have hc3 := hc2 k hlt2
        clear hc hc2
        have hi : (k : Int) < (l.length : Int) := by omega
        have hi2 : (k : Int) < (m.length : Int) := by omega
        by_cases he : nth l k = nth m k
        · have he' : (nth l k != nth m k) = false := by simp [he]
          have HS : Hid (sameTo l m (k + 1) = true) := by show sameTo l m (k + 1) = true; rw [sameTo_succ, HR.out]; simp [he]
          clear he
          go_wp2
          go_quiet (fail)
          go_wp2
          go_roundw
          case rel => exact ⟨k + 1, _, by omega, by go_num, HS.out, rfl⟩
          case measure => simp [intOf]; omega
        · have he' : (nth l k != nth m k) = true := by simp [he]
          have HS : Hid (eqB l m = false) := eqB_of_not he
          clear he
          go_wp2
          go_quiet (fail)
          go_wp2
          go_ret
          exact ⟨ret_bool HS.out.symm, _, World.drewN_drewN _ _ _⟩
      · obtain rfl : k = l.length := by omega
        have HS : Hid (eqB l m = true) := eqB_of_same HL.out HR.out
        go_wp2
        go_ret
        exact ⟨ret_bool HS.out.symm, _, rfl⟩
  · have hd : ((l.length : Int) != (m.length : Int)) = true := by simp; omega
    have HS : Hid (eqB l m = false) := eqB_of_len hlen
    go_enter Tryz.func51, Tryz.ntmps51
    go_wp2
    go_ret
    exact ⟨ret_bool HS.out.symm, 0, rfl⟩
end
section
open Go.RowKit
set_option linter.unusedVariables false
end
section
open Go.RowKit
end
section
open Go.RowKit
set_option linter.unusedVariables false
set_option maxHeartbeats 400000 in
theorem rright_any (w : World) (c : Nat) (A : Option Addr) (l : List Int) (hS : Sl w w.heap.size A l) (hl : l.length ≤ 1152921504606846976) :
    Calls Tryz.prog 47 #[.agg #[.slice A l.length c]] w fun e w' => e = .returned (.bool (rightB l)) ∧ ∃ k, w' = (w.alloc (.cells #[.slice A l.length c] 39)).drewN k := by
  go_enter Tryz.func47, Tryz.ntmps47
  go_wp2
  go_loopw [3] (fun i wr => ∃ k n : Nat, 1 ≤ k ∧ (k ≤ l.length ∨ k = 1) ∧ i = .int .i64 k ∧ risesTo l k = true ∧ wr = (w.alloc (.cells #[.slice A l.length c] 39)).drewN n) (fun i _ => l.length - (intOf i).toNat)
  case atStart => exact ⟨1, 0, Nat.le_refl _, .inr rfl, rfl, by simp [risesTo], rfl⟩
  case round =>
    obtain ⟨k, n, h1, h2, rfl, hr, rfl⟩ := hrel
    have HR := Lib.hid hr
    have HO := Lib.hid h2
    clear hr h2
    by_cases hlt : k < l.length
    · obtain ⟨b, off, rfl, hb, hc⟩ := hS.at_ (by omega)
      have hc1 : w.cell? ⟨b, off + k, none⟩ = some (.int .u64 (nth l k)) := hc k hlt
      have hc2 : w.cell? ⟨b, off + (k - 1), none⟩ = some (.int .u64 (nth l (k - 1))) := hc (k - 1) (by omega)
      have hi1 : (k : Int) < (l.length : Int) := by omega
      have hi2 : (k : Int) - 1 < (l.length : Int) := by omega
      have hi3 : (0 : Int) ≤ (k : Int) - 1 := by omega
      have hi4 : (1 : Int) ≤ (k : Int) := by omega
      have hs := risesTo_succ l k
      rw [HR.out] at hs
      clear hc
      by_cases hle : nth l (k - 1) < nth l k
      · have HS : Hid (risesTo l (k + 1) = true) := by show risesTo l (k + 1) = true; rw [hs]; simp [hle]
        have hnle : ¬ nth l k ≤ nth l (k - 1) := by omega
        clear hs
        go_wp2
        go_quiet (fail)
        go_wp2
        go_roundw
        case rel => exact ⟨k + 1, _, by omega, .inl (by omega), by go_num, HS.out, rfl⟩
        case measure => simp [intOf]; omega
      · have HF : Hid (rightB l = false) := rightB_of_not hlt (by rw [hs]; simp [hle]; omega)
        have hnle : nth l k ≤ nth l (k - 1) := by omega
        clear hs
        go_wp2
        go_quiet (fail)
        go_wp2
        go_ret
        exact ⟨ret_bool HF.out.symm, _, World.drewN_drewN _ _ _⟩
    · have hrl : risesTo l l.length = true := risesTo_le HR.out (by omega)
      have hlt' : ¬ (k : Int) < (l.length : Int) := by omega
      by_cases h64 : l.length ≤ 64
      · have d64 : decide ((l.length : Int) ≤ 64) = true := by simp; omega
        have HF : Hid (rightB l = true) := by show rightB l = true; simp [rightB, hrl, h64]
        clear hrl
        go_wp2
        go_ret
        exact ⟨ret_bool HF.out.symm, _, rfl⟩
      · have d64 : decide ((l.length : Int) ≤ 64) = false := by simp; omega
        have HF : Hid (rightB l = false) := by show rightB l = false; simp [rightB]; omega
        clear hrl
        go_wp2
        go_ret
        exact ⟨ret_bool HF.out.symm, _, rfl⟩
end
section
open Go.RowKit
set_option linter.unusedVariables false
end
section
open Go.RowKit
set_option linter.unusedVariables false
end
end Go.Proofs.YtoffmclbnobllaaGreatDoor.Ex

/-
  Merged out of: CmsPlain CmsWalk1 CmsWalk2 CmsWalk3 Equal CmsSame.
-/
import Derived.Test.YtoffmclbnobllaaGreatDoorRows
import Derived.Deep.RegionHeld3
import Derived.Test.YtoffmclbnobllaaGreatDoorCkCm
import Derived.Test.YtoffmclbnobllaaGreatDoorCkREx
namespace Go.Proofs.YtoffmclbnobllaaGreatDoor.Cm
section
end
section
open Go.RowKit
set_option linter.unusedVariables false
theorem is_any (r c : Int) (w : World) : Calls Tryz.prog 60 #[.int .i64 r, .int .i64 c] w fun e w' => e = .returned (.bool (shapeB r c)) ∧ w = w' := by
  by_cases h1 : 1 ≤ r ∧ r ≤ 4
  · obtain ⟨h1, h2⟩ := h1
    go_enter Tryz.func60, Tryz.ntmps60
    go_wp2
    all_goals go_ret
    all_goals exact ⟨ret_bool (by simp [shapeB, beq_dec, *]), rfl⟩
  · by_cases h2 : 1 ≤ r
    · have h3 : ¬ r ≤ 4 := by omega
      go_enter Tryz.func60, Tryz.ntmps60
      go_wp2
      all_goals go_ret
      all_goals exact ⟨ret_bool (by simp [shapeB]; omega), rfl⟩
    · go_enter Tryz.func60, Tryz.ntmps60
      go_wp2
      all_goals go_ret
      all_goals exact ⟨ret_bool (by simp [shapeB]; omega), rfl⟩
theorem rright_any (r c : Int) (A : Option Addr) (n cap : Nat) (w : World) :
    Calls Tryz.prog 49 #[.agg #[.int .i64 r, .int .i64 c, .slice A n cap]] w fun e w' => e = .returned (.bool (rightC r c n)) ∧ w.alloc (.cells #[.int .i64 r, .int .i64 c, .slice A n cap] 43) = w' := by
  cases hs : shapeB r c with
  | false =>
    have H := Lib.hid hs
    clear hs
    go_enter Tryz.func49, Tryz.ntmps49
    go_wp2_with fail
    refine (is_any r c _).mono ?_
    rintro e w' ⟨rfl, rfl⟩
    rw [H.out]
    go_wp2_with fail
    go_ret
    exact ⟨ret_bool (by simp [rightC, H.out]), rfl⟩
  | true =>
    obtain ⟨h1, h2, h3⟩ := shape_of hs
    have hm : 0 ≤ r * c ∧ r * c ≤ 128 := by rcases h3 with rfl | rfl | rfl | rfl <;> omega
    obtain ⟨hm1, hm2⟩ := hm
    have H := Lib.hid hs
    clear hs h3
    go_enter Tryz.func49, Tryz.ntmps49
    go_wp2_with fail
    refine (is_any r c _).mono ?_
    rintro e w' ⟨rfl, rfl⟩
    rw [H.out]
    go_wp2_with fail
    go_ret
    exact ⟨ret_bool (by simp [rightC, H.out, beq_dec]), rfl⟩
end
section
open Go.RowKit
set_option linter.unusedVariables false
end
section
open Go.RowKit
set_option linter.unusedVariables false
end
section
open Go.RowKit
set_option linter.unusedVariables false
set_option maxHeartbeats 400000 in
theorem numbers_any (w : World) (B c c2 : Nat) (A A2 : Option Addr) (l m : List Int) (hS : Sl w B A l) (hS2 : Sl w B A2 m) (hl : l.length ≤ 1152921504606846976) (hm : m.length ≤ 1152921504606846976) :
    Calls Tryz.prog 51 #[.slice A l.length c, .slice A2 m.length c2] w fun e w' => e = .returned (.bool (eqB l m)) ∧ ∃ k, w' = w.drewN k := by
  by_cases hlen : l.length = m.length
  · have hd : ((l.length : Int) != (m.length : Int)) = false := by simp [hlen]
    have HL := Lib.hid hlen
    clear hlen
    go_enter Tryz.func51, Tryz.ntmps51
    go_wp2
    go_loopw [5] (fun i wr => ∃ k n : Nat, k ≤ l.length ∧ i = .int .i64 k ∧ sameTo l m k = true ∧ wr = w.drewN n) (fun i _ => l.length - (intOf i).toNat)
    case atStart => exact ⟨0, 0, Nat.zero_le _, rfl, rfl, rfl⟩
    case round =>
      obtain ⟨k, n, hk, rfl, hr, rfl⟩ := hrel
      have HR := Lib.hid hr
      clear hr hd
      by_cases hlt : k < l.length
      · have hlt2 : k < m.length := by rw [← HL.out]; exact hlt
        obtain ⟨b, off, rfl, _, hc⟩ := hS.at_ (by omega)
        obtain ⟨b2, off2, rfl, _, hc2⟩ := hS2.at_ (by omega)
        have hc1 := hc k hlt
        have hc3 := hc2 k hlt2
        clear hc hc2
        have hi : (k : Int) < (l.length : Int) := by omega
        have hi2 : (k : Int) < (m.length : Int) := by omega
        by_cases he : nth l k = nth m k
        · have he' : (nth l k != nth m k) = false := by simp [he]
          have HS : Hid (sameTo l m (k + 1) = true) := by show sameTo l m (k + 1) = true; rw [sameTo_succ, HR.out]; simp [he]
          clear he
          go_wp2
          go_quiet (fail)
          go_wp2
          go_roundw
          case rel => exact ⟨k + 1, _, by omega, by go_num, HS.out, rfl⟩
          case measure => simp [intOf]; omega
        · have he' : (nth l k != nth m k) = true := by simp [he]
          have HS : Hid (eqB l m = false) := eqB_of_not he
          clear he
          go_wp2
          go_quiet (fail)
          go_wp2
          go_ret
          exact ⟨ret_bool HS.out.symm, _, World.drewN_drewN _ _ _⟩
      · obtain rfl : k = l.length := by omega
        have HS : Hid (eqB l m = true) := eqB_of_same HL.out HR.out
        go_wp2
        go_ret
        exact ⟨ret_bool HS.out.symm, _, rfl⟩
  · have hd : ((l.length : Int) != (m.length : Int)) = true := by simp; omega
    have HS : Hid (eqB l m = false) := eqB_of_len hlen
    go_enter Tryz.func51, Tryz.ntmps51
    go_wp2
    go_ret
    exact ⟨ret_bool HS.out.symm, 0, rfl⟩
end
section
open Go.RowKit
set_option linter.unusedVariables false
theorem rsame_any (r c ry cy : Int) (A B : Option Addr) (l m : List Int) (cap capy : Nat) (w : World) (hS : Sl w w.heap.size A l) (hSB : Sl w w.heap.size B m) (hl : l.length ≤ 1152921504606846976) (hm : m.length ≤ 1152921504606846976) :
    Calls Tryz.prog 52 #[.agg #[.int .i64 r, .int .i64 c, .slice A l.length cap], .agg #[.int .i64 ry, .int .i64 cy, .slice B m.length capy]] w fun e w' => e = .returned (.bool (sameB ⟨r, c, l⟩ ⟨ry, cy, m⟩)) ∧ Below w.heap.size w w' := by
  by_cases e1 : r = ry
  · by_cases e2 : c = cy
    · subst e1 e2
      have DA : Below w.heap.size w ((w.alloc (.cells #[.int .i64 r, .int .i64 c, .slice A l.length cap] 43)).alloc (.cells #[.int .i64 r, .int .i64 c, .slice B m.length capy] 43)) := below_al (below_al (below_0 _) _) _
      have HS := Lib.hid (hS.later DA)
      have HSB := Lib.hid (hSB.later DA)
      clear hS hSB
      go_enter Tryz.func52, Tryz.ntmps52
      go_wp2_with fail
      refine (numbers_any _ _ cap capy A B l m HS.out HSB.out hl hm).mono ?_
      rintro e w' ⟨rfl, k, rfl⟩
      go_wp2_with fail
      go_ret
      exact ⟨ret_bool (by simp [sameB, eqB]), below_drewN DA _⟩
    · subst e1
      go_enter Tryz.func52, Tryz.ntmps52
      go_wp2_with fail
      go_ret
      exact ⟨ret_bool (by simp [sameB, e2]), below_al (below_al (below_0 _) _) _⟩
  · go_enter Tryz.func52, Tryz.ntmps52
    go_wp2_with fail
    go_ret
    exact ⟨ret_bool (by simp [sameB, e1]), below_al (below_al (below_0 _) _) _⟩
end
end Go.Proofs.YtoffmclbnobllaaGreatDoor.Cm

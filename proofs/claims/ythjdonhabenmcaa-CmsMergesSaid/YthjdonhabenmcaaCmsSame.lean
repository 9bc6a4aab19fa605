/-
  Are two counters the same: cms.Same, and the reference's.
-/
import Derived.Test.YthjdonhabenmcaaCmsWalk3
import Derived.Test.YthjdonhabenmcaaEqual
namespace Go.Proofs.Ythjdonhabenmcaa
open Go.RowKit
set_option linter.unusedVariables false
def sameB (x y : Cm) : Bool := decide (x.r = y.r ∧ x.c = y.c ∧ x.l = y.l)
theorem sameB_self (x : Cm) : sameB x x = true := by simp [sameB]
theorem same_any (r c ry cy : Int) (A B : Option Addr) (l m : List Int) (cap capy : Nat) (w : World) (hS : Sl w w.heap.size A l) (hSB : Sl w w.heap.size B m) (hl : l.length ≤ 1152921504606846976) (hm : m.length ≤ 1152921504606846976) :
    Calls Try.prog 27 #[.agg #[.int .i64 r, .int .i64 c, .slice A l.length cap], .agg #[.int .i64 ry, .int .i64 cy, .slice B m.length capy]] w fun e w' => e = .returned (.bool (sameB ⟨r, c, l⟩ ⟨ry, cy, m⟩)) ∧ Below w.heap.size w w' := by
  by_cases e1 : r = ry
  · by_cases e2 : c = cy
    · subst e1 e2
      have DA : Below w.heap.size w ((w.alloc (.cells #[.int .i64 r, .int .i64 c, .slice A l.length cap] 24)).alloc (.cells #[.int .i64 r, .int .i64 c, .slice B m.length capy] 24)) := below_al (below_al (below_0 _) _) _
      have HS := Lib.hid (hS.later DA)
      have HSB := Lib.hid (hSB.later DA)
      clear hS hSB
      go_enter Try.func27, Try.ntmps27
      go_wp2_with fail
      refine (equal_any _ _ cap capy A B l m HS.out HSB.out hl hm).mono ?_
      rintro e w' ⟨rfl, k, rfl⟩
      go_wp2_with fail
      go_ret
      exact ⟨ret_bool (by simp [sameB, eqB]), below_drewN DA _⟩
    · subst e1
      go_enter Try.func27, Try.ntmps27
      go_wp2_with fail
      go_ret
      exact ⟨ret_bool (by simp [sameB, e2]), below_al (below_al (below_0 _) _) _⟩
  · go_enter Try.func27, Try.ntmps27
    go_wp2_with fail
    go_ret
    exact ⟨ret_bool (by simp [sameB, e1]), below_al (below_al (below_0 _) _) _⟩
theorem rsame_any (r c ry cy : Int) (A B : Option Addr) (l m : List Int) (cap capy : Nat) (w : World) (hS : Sl w w.heap.size A l) (hSB : Sl w w.heap.size B m) (hl : l.length ≤ 1152921504606846976) (hm : m.length ≤ 1152921504606846976) :
    Calls Try.prog 18 #[.agg #[.int .i64 r, .int .i64 c, .slice A l.length cap], .agg #[.int .i64 ry, .int .i64 cy, .slice B m.length capy]] w fun e w' => e = .returned (.bool (sameB ⟨r, c, l⟩ ⟨ry, cy, m⟩)) ∧ Below w.heap.size w w' := by
  by_cases e1 : r = ry
  · by_cases e2 : c = cy
    · subst e1 e2
      have DA : Below w.heap.size w ((w.alloc (.cells #[.int .i64 r, .int .i64 c, .slice A l.length cap] 24)).alloc (.cells #[.int .i64 r, .int .i64 c, .slice B m.length capy] 24)) := below_al (below_al (below_0 _) _) _
      have HS := Lib.hid (hS.later DA)
      have HSB := Lib.hid (hSB.later DA)
      clear hS hSB
      go_enter Try.func18, Try.ntmps18
      go_wp2_with fail
      refine (numbers_any _ _ cap capy A B l m HS.out HSB.out hl hm).mono ?_
      rintro e w' ⟨rfl, k, rfl⟩
      go_wp2_with fail
      go_ret
      exact ⟨ret_bool (by simp [sameB, eqB]), below_drewN DA _⟩
    · subst e1
      go_enter Try.func18, Try.ntmps18
      go_wp2_with fail
      go_ret
      exact ⟨ret_bool (by simp [sameB, e2]), below_al (below_al (below_0 _) _) _⟩
  · go_enter Try.func18, Try.ntmps18
    go_wp2_with fail
    go_ret
    exact ⟨ret_bool (by simp [sameB, e1]), below_al (below_al (below_0 _) _) _⟩
end Go.Proofs.Ythjdonhabenmcaa

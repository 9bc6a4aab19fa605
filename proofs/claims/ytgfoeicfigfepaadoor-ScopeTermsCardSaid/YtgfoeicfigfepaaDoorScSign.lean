/-
  A sign: isAny, isFor.
-/
import Derived.Test.YtgfoeicfigfepaaDoorScTerms
namespace Go.Proofs.YtgfoeicfigfepaaDoor
open Go.RowKit
set_option linter.unusedVariables false
set_option linter.unusedSimpArgs false
/-- A sign's value. -/
def sgV : Sg → Value
  | .any => .iface 61 (.agg #[])
  | .one => .iface 62 (.agg #[])
  | .that c => .iface 60 (.agg #[.int .i32 (c : Int)])
set_option maxHeartbeats 1000000 in
theorem isAny_any (s : Sg) (w : World) : Calls Tryd.prog 24 #[sgV s] w fun e w' => e = .returned (.bool (decide (s = .any))) ∧ Below w.heap.size w w' := by
  cases s with
  | any =>
    have ha : ∀ w, (Instr.typeAssert (.iface 61 (.agg #[])) 65 61 true).run Tryd.prog w = .ok (.tuple #[.agg #[], .bool true]) w := fun w => by kernel_rfl
    show Calls _ _ #[.iface 61 (.agg #[])] _ _
    go_enter Tryd.func24, Tryd.ntmps24
    go_wp2_with fail
    go_ret
    exact ⟨rfl, by first | exact below_0 _ | exact below_al (below_0 _) _⟩
  | one =>
    have ha : ∀ w, (Instr.typeAssert (.iface 62 (.agg #[])) 65 61 true).run Tryd.prog w = .ok (.tuple #[.agg #[], .bool false]) w := fun w => by kernel_rfl
    show Calls _ _ #[.iface 62 (.agg #[])] _ _
    go_enter Tryd.func24, Tryd.ntmps24
    go_wp2_with fail
    go_ret
    exact ⟨rfl, by first | exact below_0 _ | exact below_al (below_0 _) _⟩
  | that c =>
    have ha : ∀ w, (Instr.typeAssert (.iface 60 (.agg #[.int .i32 (c : Int)])) 65 61 true).run Tryd.prog w = .ok (.tuple #[.agg #[], .bool false]) w := fun w => by kernel_rfl
    show Calls _ _ #[.iface 60 (.agg #[.int .i32 (c : Int)])] _ _
    go_enter Tryd.func24, Tryd.ntmps24
    go_wp2_with fail
    go_ret
    exact ⟨rfl, by first | exact below_0 _ | exact below_al (below_0 _) _⟩
set_option maxHeartbeats 1000000 in
theorem isFor_any (s : Sg) (hs : s ≠ .any) (d : Nat) (w : World) : Calls Tryd.prog 25 #[sgV s, .int .i32 (d : Int)] w fun e w' => e = .returned (.bool (forB s d)) ∧ Below w.heap.size w w' := by
  cases s with
  | any => exact absurd rfl hs
  | one =>
    have ha : ∀ w, (Instr.typeAssert (.iface 62 (.agg #[])) 65 62 true).run Tryd.prog w = .ok (.tuple #[.agg #[], .bool true]) w := fun w => by kernel_rfl
    show Calls _ _ #[.iface 62 (.agg #[]), _] _ _
    go_enter Tryd.func25, Tryd.ntmps25
    go_wp2_with fail
    go_ret
    exact ⟨rfl, below_al (below_0 _) _⟩
  | that c =>
    have ha : ∀ w, (Instr.typeAssert (.iface 60 (.agg #[.int .i32 (c : Int)])) 65 62 true).run Tryd.prog w = .ok (.tuple #[.agg #[], .bool false]) w := fun w => by kernel_rfl
    have hb : ∀ w, (Instr.typeAssert (.iface 60 (.agg #[.int .i32 (c : Int)])) 65 60 false).run Tryd.prog w = .ok (.agg #[.int .i32 (c : Int)]) w := fun w => by kernel_rfl
    have hf : ∀ w, (Instr.field 60 (.agg #[.int .i32 (c : Int)]) 0).run Tryd.prog w = .ok (.int .i32 (c : Int)) w := fun w => by kernel_rfl
    have hc : ((c : Int) == (d : Int)) = (c == d) := by
      by_cases h : c = d
      · subst h; simp
      · rw [beq_eq_false_iff_ne.2 h, beq_eq_false_iff_ne.2 (by omega)]
    show Calls _ _ #[.iface 60 (.agg #[.int .i32 (c : Int)]), _] _ _
    go_enter Tryd.func25, Tryd.ntmps25
    go_wp2_with fail
    go_ret
    exact ⟨rfl, below_al (below_0 _) _⟩
end Go.Proofs.YtgfoeicfigfepaaDoor

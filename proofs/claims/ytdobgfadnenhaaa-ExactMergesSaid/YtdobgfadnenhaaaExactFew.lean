/-
  The walk of the law's own few: the first hundred numbers.
-/
import Derived.Test.YtdobgfadnenhaaaExactShown
import Derived.Test.YtdobgfadnenhaaaQuiet
namespace Go.Proofs.Ytdobgfadnenhaaa
open Go.RowKit
set_option linter.unusedVariables false
theorem few_any (w : World) (n cap : Nat) (a : Option Addr) (x : List Int) (hk : (if (100 : Int) < (n : Int) then (100 : Int) else (n : Int)) = (x.length : Int)) (hc : x.length ≤ cap) (hn : cap ≤ 9223372036854775807) :
    Calls Try.prog 18 #[.slice a n cap] w fun e w' => e = .returned (.slice a x.length cap) ∧ w = w' := by
  go_enter Try.func18, Try.ntmps18
  go_wp2
  go_ret
  exact ⟨rfl, rfl⟩
/-- Does n come among the first k numbers? -/
def memTo (l : List Int) (k : Nat) (n : Int) : Bool := decide (n ∈ l.take k)
theorem memTo_zero (l : List Int) (n : Int) : memTo l 0 n = false := by simp [memTo]
theorem memTo_succ {l : List Int} {k : Nat} (h : k < l.length) (n : Int) : memTo l (k + 1) n = (memTo l k n || decide (nth l k = n)) := by
  have e : l.take (k + 1) = l.take k ++ [nth l k] := by rw [List.take_succ_eq_append_getElem h]; simp [nth, h]
  simp only [memTo, e, List.mem_append, List.mem_singleton]
  by_cases h1 : n ∈ l.take k <;> by_cases h2 : nth l k = n <;> simp [h1, h2, eq_comm]
  simpa [eq_comm] using h2
end Go.Proofs.Ytdobgfadnenhaaa

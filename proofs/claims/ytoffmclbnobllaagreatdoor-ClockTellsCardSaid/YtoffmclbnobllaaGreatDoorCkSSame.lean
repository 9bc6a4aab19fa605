/-
  Merged out of: CkSSame.
-/
import Derived.Test.YtoffmclbnobllaaGreatDoorCkSeries
import Derived.Test.YtoffmclbnobllaaGreatDoorRows
namespace Go.Proofs.YtoffmclbnobllaaGreatDoor
section
open Go.RowKit
set_option linter.unusedVariables false
set_option linter.unusedSimpArgs false
theorem tx_eq {s t : ByteArray} : tx s = tx t ↔ s = t := ⟨fun h => tx_inj h, fun h => by rw [h]⟩
def sameL (l m : List Lab) : Bool := decide (l = m)
theorem take_eq_succ {l m : List Lab} {k : Nat} (h : l.take k = m.take k) (h1 : k < l.length) (h2 : k < m.length) (he : lth l k = lth m k) : l.take (k + 1) = m.take (k + 1) := by
  rw [take_lth_succ h1, take_lth_succ h2, h, he]
def sameS (x y : Ser) : Bool := decide (x = y)
def sameT (a b : List Ser) : Bool := decide (a = b)
theorem sers_take_succ {a b : List SerM} {k : Nat} (h : (a.map (·.s)).take k = (b.map (·.s)).take k) (h1 : k < a.length) (h2 : k < b.length) (he : a[k].s = b[k].s) : (a.map (·.s)).take (k + 1) = (b.map (·.s)).take (k + 1) := by
  rw [List.take_succ_eq_append_getElem (by rw [List.length_map]; exact h1), List.take_succ_eq_append_getElem (by rw [List.length_map]; exact h2), h]
  simp [he]
end
end Go.Proofs.YtoffmclbnobllaaGreatDoor

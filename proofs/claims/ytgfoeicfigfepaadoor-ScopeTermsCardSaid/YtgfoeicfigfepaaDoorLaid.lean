/-
  The two tables of unicode/utf8, out of a row's list; a world that holds them.
-/
import Derived.Test.YtgfoeicfigfepaaDoorRows
import Derived.Test.YtgfoeicfigfepaaDoorShelf
import Derived.Lib.LaidIn
import Derived.Lib.LaidU8T
import Derived.Deep.DeepHandedRow
import Derived.Deep.DeepWitnessRowRef
import Derived.ProofKit
namespace Go.Proofs.YtgfoeicfigfepaaDoor
open Go.Lib
/-- What the rows list. -/
def laidL : List (String × DataW Unit) := [("unicode/utf8.acceptRanges", Rows.laid_unicode_utf8_acceptRanges), ("unicode/utf8.first", Rows.laid_unicode_utf8_first)]
theorem first_is : Rows.laid_unicode_utf8_first = Lib.firstData := by kernel_rfl
theorem accept_is : (Rows.laid_unicode_utf8_acceptRanges : DataW Unit) = Lib.acceptData := by kernel_rfl
/-- The types' names, turned. -/
def ren8 : Go.Shelf.Ren := ⟨fun n => n, fun | 5 => 5 | 119 => 74 | 138 => 77 | 139 => 78 | n => n, fun | 3 => 0 | 4 => 1 | n => n⟩
theorem types8 : U8Types Tryd.prog ren8 := ⟨Tryd.underlying5, Tryd.underlying74, Tryd.underlying77, Tryd.underlying78⟩
theorem tabs_of {W : World} (hL : laidMetH Tryd.prog laidL W) : Lib.Utf8Tabs 0 1 W := by
  have h1 := Lib.laidMet.reads hL (.tail _ (.head _))
  have h2 := Lib.laidMet.reads hL (.head _)
  rw [first_is] at h1
  rw [accept_is] at h2
  exact utf8Tabs_of_readsT types8 ⟨by kernel_rfl, by kernel_rfl, by kernel_rfl, by kernel_rfl, by kernel_rfl, by kernel_rfl, by kernel_rfl⟩ h1 h2
/-- THE WITNESS: the settled world, the two variables holding what their initialisers lay. -/
noncomputable def laidWorld (os : Os) : World :=
  let w0 := World.holding Tryd.prog os ⟨#[], #[], []⟩
  let put (h : Array Obj) (g : Nat) (cs : Array Value) : Array Obj := h.modify g fun
    | .cells _ t frozen => .cells cs t frozen
    | o => o
  let h1 := put w0.heap 0 (Lib.firstTab.map fun z => Value.int .u8 z).toArray
  let h2 := put h1 1 ((List.range 16).flatMap fun i => [Value.int .u8 (Lib.accLo i), Value.int .u8 (Lib.accHi i)]).toArray
  { w0 with heap := h2 }
theorem laid_met (os : Os) (args : Array Value) : laidMet Tryd.prog laidL ((laidWorld os).forCall (fun _ _ => 0) ⟨#[], args, []⟩).memory :=
  (LaidIn.of_run (l := laidL) [1, 0] 8 (by kernel_rfl) (by kernel_rfl) (by kernel_rfl) (by kernel_rfl)).met
end Go.Proofs.YtgfoeicfigfepaaDoor

/-
  A region that draws its order, whose operations only read old cells and whose callees only make memory: one walk in the order of the text (by the kit's theorem on quiet regions, at the class of all worlds in which what was there stands).
-/
import Derived.Test.YtlcpigkgbihebaaDoorMem
namespace Go.Proofs.YtlcpigkgbihebaaDoor
open Go.RowKit
/-- The worlds in which all that W holds stands as it was. -/
structure After (W : World) : Type where
  at_ : World
  is : Below W.heap.size W at_
theorem After.cell {W : World} {b o : Nat} {v : Value} (h : W.cell? ⟨b, o, none⟩ = some v) (hb : b < W.heap.size) : ∀ x : After W, x.at_.cell? ⟨b, o, none⟩ = some v := fun x => (x.is.cell (p := ⟨b, o, none⟩) hb).trans h
theorem After.some (W : World) : Nonempty (After W) := ⟨⟨W, Below.refl _ _⟩⟩
theorem wp_region_below {P : Program} {id : Nat} {Q : Exit → Act → World → Prop} {a : Act} {w : World} {l : List Oper} (hm : P.follows .mixedOrders = true) (hB : Region.lexB .any l.toArray = true)
    (h : wpQuiet P l.toArray (fun w' => ∃ x : After w, w' = x.at_) (fun a' => ∀ w', (∃ x : After w, w' = x.at_) → Q .normal a' w') l a) : (Code.region id l.toArray true).wp P Q a w :=
  wp_region_quiet (C := fun w' => ∃ x : After w, w' = x.at_) hm hB ⟨⟨_, (Below.refl w.heap.size w).drew⟩, rfl⟩ (by simpa using h)
/-- A callee's contract, met in such a world. -/
theorem after_calls {P : Program} {f : FuncId} {args : Array Value} {W : World} {x : After W} {v : Value} (h : Calls P f args x.at_ fun e w' => e = .returned v ∧ Below x.at_.heap.size x.at_ w') :
    Calls P f args x.at_ fun e w'' => e = .returned v ∧ ∃ y : After W, w'' = y.at_ := h.mono fun _ w'' ⟨he, hb⟩ => ⟨he, ⟨w'', Below.two x.is hb⟩, rfl⟩
end Go.Proofs.YtlcpigkgbihebaaDoor

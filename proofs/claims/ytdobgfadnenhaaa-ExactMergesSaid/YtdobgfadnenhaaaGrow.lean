/-
  Worlds in which one old block alone may have turned.
-/
import Derived.Test.YtdobgfadnenhaaaExactTotal
namespace Go.Proofs.Ytdobgfadnenhaaa
open Go.RowKit
theorem grow_below {a w w' : World} {row : Option Nat} (h : a.grownBy w row) (hb : Below w.heap.size w w') : a.grownBy w' row :=
  ⟨hb.os.trans h.os, hb.tape.trans h.tape, hb.output.trans h.output, Nat.le_trans h.size hb.size, fun i hi hn => (hb.block i (Nat.lt_of_lt_of_le hi h.size)).trans (h.block i hi hn)⟩
theorem grow_alloc {a w : World} {row : Option Nat} (h : a.grownBy w row) (o : Obj) : a.grownBy (w.alloc o) row := grow_below h ((Below.refl _ _).alloc (Nat.le_refl _) o)
theorem grow_drew {a w : World} {row : Option Nat} (h : a.grownBy w row) : a.grownBy w.drew row := ⟨h.os, h.tape, h.output, h.size, h.block⟩
theorem grow_set {a w : World} {g o : Nat} (h : a.grownBy w (some g)) (u : Value) : a.grownBy (w.setCell ⟨g, o, none⟩ u) (some g) :=
  ⟨h.os, h.tape, h.output, by simpa [World.setCell] using h.size, fun i hi hne => (Below.heap_setCell w ⟨g, o, none⟩ u i (fun e => hne (by rw [e]))).trans (h.block i hi hne)⟩
theorem grow_set_new {a w : World} {row : Option Nat} {b : Nat} (h : a.grownBy w row) (hb : a.heap.size ≤ b) (u : Value) : a.grownBy (w.setCell ⟨b, 0, none⟩ u) row :=
  ⟨h.os, h.tape, h.output, by simpa [World.setCell] using h.size, fun i hi hne => (Below.heap_setCell w ⟨b, 0, none⟩ u i (fun e => by have e' : i = b := e; omega)).trans (h.block i hi hne)⟩
theorem sl_set {w : World} {bA : Nat} {A : Option Addr} {l : List Int} {t : TypeId} {u : Value} (h : Sl w w.heap.size A l) (hx : Boxed w bA t u) (hu : ∀ n, u ≠ .int .u64 n) (v : Value) : Sl (w.setCell ⟨bA, 0, none⟩ v) (w.setCell ⟨bA, 0, none⟩ v).heap.size A l := by
  have := sl_box h hx hu v
  simpa [World.setCell] using this
theorem sl_not_box {w : World} {B bo b off : Nat} {A : Option Addr} {l : List Int} {t : TypeId} {u : Value} (h : Sl w B A l) (hx : Boxed w bo t u) (hu : ∀ n, u ≠ .int .u64 n) (hl : l ≠ []) (hA : A = some ⟨b, off, none⟩) : b ≠ bo := by
  rintro rfl
  obtain ⟨b', off', e, hb, hc⟩ := h (by simpa using hl)
  rw [hA] at e
  cases e
  have h0 : 0 < (l.map (Value.int .u64)).length := by
    cases l with
    | nil => exact absurd rfl hl
    | cons x r => simp
  have h1 := hc 0 _ (List.getElem?_eq_getElem h0)
  obtain ⟨n, _, e⟩ := List.mem_map.1 (List.getElem_mem h0)
  rw [← e, World.cell?, show w.heap[b]? = _ from hx] at h1
  simp only [Option.isSome_none, Nat.add_zero] at h1
  rcases Nat.eq_zero_or_pos off with h2 | h2
  · rw [h2] at h1
    simp at h1
    exact hu n h1
  · rw [if_neg (by simp)] at h1
    rw [Array.getElem?_eq_none (by simp; omega)] at h1
    cases h1
/-- A slice of numbers stands where only a box has turned. -/
theorem sl_grown {w w' : World} {bo : Nat} {A : Option Addr} {l : List Int} {t : TypeId} {u : Value} (h : Sl w w.heap.size A l) (hx : Boxed w bo t u) (hu : ∀ n, u ≠ .int .u64 n) (hg : w.grownBy w' (some bo)) : Sl w' w'.heap.size A l := fun hl => by
  have hl' : l ≠ [] := by rintro rfl; exact hl rfl
  obtain ⟨b, off, e, hb, hc⟩ := h hl
  have hne := sl_not_box h hx hu hl' e
  exact ⟨b, off, e, Nat.lt_of_lt_of_le hb hg.size, fun j v hj => (World.cell?_of_block (hg.block b hb (fun e => hne (by injection e)))).trans (hc j v hj)⟩
theorem boxed_grown {w w' : World} {bo b : Nat} {t : TypeId} {v : Value} (h : Boxed w b t v) (hg : w.grownBy w' (some bo)) (hne : b ≠ bo) : Boxed w' b t v := h.kept hg (fun e => hne (by injection e))
theorem below_grown {a w w' : World} {bo : Nat} (h : Below a.heap.size a w) (hg : w.grownBy w' (some bo)) (hbo : a.heap.size ≤ bo) : Below a.heap.size a w' := h.grown hg h.size (fun k e => by cases e; exact hbo)
end Go.Proofs.Ytdobgfadnenhaaa

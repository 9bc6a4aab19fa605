/-
  A block known whole: just these cells, none frozen; and how it stands behind draws, new blocks, stores elsewhere.
-/
import Derived.Test.YtlcpigkgbihebaaDoorMem
namespace Go.Proofs.YtlcpigkgbihebaaDoor
open Go.RowKit
def Blk (w : World) (g : Nat) (t : TypeId) (cs : Array Value) : Prop := w.heap[g]? = some (.cells cs t (0, 0))
section
variable {w w' : World} {g : Nat} {t : TypeId} {cs : Array Value}
theorem Blk.lt (h : Blk w g t cs) : g < w.heap.size := heap_lt h
theorem Blk.cell (h : Blk w g t cs) (i : Nat) : w.cell? ⟨g, i, none⟩ = cs[i]? := by
  unfold Blk at h; simp [World.cell?, h]
theorem Blk.at_ (h : Blk w g t cs) (i : Nat) {v : Value} (hv : cs[i]? = some v) : w.cell? ⟨g, i, none⟩ = some v := (h.cell i).trans hv
theorem Blk.c0 {a b c : Value} (h : Blk w g t #[a, b, c]) : w.cell? ⟨g, 0, none⟩ = some a := h.cell 0
theorem Blk.c1 {a b c : Value} (h : Blk w g t #[a, b, c]) : w.cell? ⟨g, 1, none⟩ = some b := h.cell 1
theorem Blk.c2 {a b c : Value} (h : Blk w g t #[a, b, c]) : w.cell? ⟨g, 2, none⟩ = some c := h.cell 2
theorem Blk.one {a : Value} (h : Blk w g t #[a]) : w.cell? ⟨g, 0, none⟩ = some a := h.cell 0
theorem Blk.set3 {a b c x y z : Value} (h : Blk w g t #[a, b, c]) : Blk (((w.setCell ⟨g, 0, none⟩ x).setCell ⟨g, 1, none⟩ y).setCell ⟨g, 2, none⟩ z) g t #[x, y, z] := by
  unfold Blk at h ⊢; simp [World.setCell, Array.getElem?_modify, h]
theorem Blk.frozen (h : Blk w g t cs) (i : Nat) : w.frozen? ⟨g, i, none⟩ = false := by
  unfold Blk at h; simp [World.frozen?, h]
theorem Blk.new (w : World) (t : TypeId) (cs : Array Value) : Blk (w.alloc (.cells cs t)) w.heap.size t cs := World.alloc_heap_new w _
theorem Blk.drew (h : Blk w g t cs) : Blk w.drew g t cs := h
theorem Blk.alloc (h : Blk w g t cs) (o : Obj) : Blk (w.alloc o) g t cs := (Below.heap_alloc w o g h.lt).trans h
theorem Blk.set_ (h : Blk w g t cs) (i : Nat) (u : Value) : Blk (w.setCell ⟨g, i, none⟩ u) g t (cs.setIfInBounds i u) := by
  unfold Blk at h ⊢; simp [World.setCell, Array.getElem?_modify, h]
theorem Blk.far (h : Blk w g t cs) {p : Addr} (hp : g ≠ p.block) (u : Value) : Blk (w.setCell p u) g t cs := (Below.heap_setCell w p u g hp).trans h
theorem Blk.below {B : Nat} (h : Blk w g t cs) (hb : Below B w w') (hg : g < B) : Blk w' g t cs := (hb.block g hg).trans h
theorem Blk.later (h : Blk w g t cs) (hb : Below w.heap.size w w') : Blk w' g t cs := (hb.block g h.lt).trans h
theorem Blk.grown {row : Option Nat} (h : Blk w g t cs) (hb : w.grownBy w' row) (hg : some g ≠ row) : Blk w' g t cs := (hb.block g h.lt hg).trans h
theorem Blk.kept {row : Option Nat} (h : Blk w g t cs) (hg : w.grownBy w' row) (hr : ∀ r, row = some r → ∃ o : Obj, w.heap[r]? = some o ∧ o.isCells = false) : Blk w' g t cs :=
  h.grown hg (fun e => by obtain ⟨o, ho, hc⟩ := hr _ e.symm; rw [show w.heap[g]? = _ from h] at ho; cases ho; cases hc)
/-- A row of numbers of 64 bits, whole, reads as a list. -/
theorem Blk.sl {l : List Int} (h : Blk w g t (l.map (Value.int .u64)).toArray) : Sl w w.heap.size (some ⟨g, 0, none⟩) l := fun _ =>
  ⟨g, 0, rfl, h.lt, fun j u hj => by rw [Nat.zero_add, h.cell]; simpa using hj⟩
/-- A slice of numbers does not lie in a block that holds none. -/
theorem sl_not_blk {B b off : Nat} {A : Option Addr} {l : List Int} (h : Sl w B A l) (hx : Blk w g t cs) (hu : ∀ v ∈ cs, ∀ n, v ≠ Value.int .u64 n) (hl : l ≠ []) (hA : A = some ⟨b, off, none⟩) : b ≠ g := by
  rintro rfl
  obtain ⟨b', off', e, hb, hc⟩ := h (by simpa using hl)
  rw [hA] at e
  cases e
  have h0 : 0 < (l.map (Value.int .u64)).length := by
    cases l with
    | nil => exact absurd rfl hl
    | cons x r => simp
  have h1 := hc 0 _ (List.getElem?_eq_getElem h0)
  obtain ⟨n, _, e⟩ := List.mem_map.1 (List.getElem_mem h0)
  rw [← e, hx.cell] at h1
  exact hu _ (Array.mem_of_getElem? h1) n rfl
/-- A slice of numbers stands where one block has turned that holds none. -/
theorem sl_turned {A : Option Addr} {l : List Int} (h : Sl w w.heap.size A l) (hx : Blk w g t cs) (hu : ∀ v ∈ cs, ∀ n, v ≠ Value.int .u64 n) (hg : w.grownBy w' (some g)) : Sl w' w'.heap.size A l := fun hl => by
  have hl' : l ≠ [] := by rintro rfl; exact hl rfl
  obtain ⟨b, off, e, hb, hc⟩ := h hl
  have hne := sl_not_blk h hx hu hl' e
  exact ⟨b, off, e, Nat.lt_of_lt_of_le hb hg.size, fun j v hj => (World.cell?_of_block (hg.block b hb (fun e => hne (by injection e)))).trans (hc j v hj)⟩
/-- A slice of numbers stands where one other block has turned. -/
theorem sl_other {A : Option Addr} {l : List Int} (h : Sl w w.heap.size A l) (hg : w.grownBy w' (some g)) (hne : ∀ ad, A = some ad → ad.block ≠ g) : Sl w' w'.heap.size A l := fun hl => by
  obtain ⟨b, off, e, hb, hc⟩ := h hl
  exact ⟨b, off, e, Nat.lt_of_lt_of_le hb hg.size, fun j v hj => (World.cell?_of_block (hg.block b hb (fun e' => hne _ e (by injection e')))).trans (hc j v hj)⟩
end
theorem Blk.held {w : World} {g base : Nat} {t : TypeId} {l : List Int} (h : Blk w g t (l.map (Value.int .u64)).toArray) (hb : base ≤ g) : Held w base (.slice (some ⟨g, 0, none⟩) l.length l.length) l :=
  ⟨_, _, rfl, Nat.le_refl _, (fun e => by cases e), h.sl, (fun ad e => by cases e; exact ⟨hb, _, _, h⟩)⟩
/-- A slice's reading stands where one block has turned that holds no numbers of 64 bits. -/
theorem held_turned {w w' : World} {base b : Nat} {t : TypeId} {cs cs' : Array Value} {v : Value} {l : List Int} (h : Held w base v l) (hx : Blk w b t cs) (hu : ∀ v ∈ cs, ∀ n, v ≠ Value.int .u64 n) (hg : w.grownBy w' (some b)) (hx' : Blk w' b t cs') : Held w' base v l := by
  obtain ⟨A, c, e, hc, hA, hS, hF⟩ := h
  refine ⟨A, c, e, hc, hA, sl_turned hS hx hu hg, fun ad ea => ?_⟩
  obtain ⟨h1, ds, t2, h2⟩ := hF ad ea
  refine ⟨h1, ?_⟩
  by_cases hb : ad.block = b
  · rw [hb]; exact ⟨_, _, hx'⟩
  · exact ⟨ds, t2, (hg.block _ (heap_lt h2) (fun e => hb (by injection e))).trans h2⟩
theorem grow_set3 (w : World) (g : Nat) (x y z : Value) : w.grownBy (((w.setCell ⟨g, 0, none⟩ x).setCell ⟨g, 1, none⟩ y).setCell ⟨g, 2, none⟩ z) (some g) := by
  have h1 : ∀ (w : World) (o : Nat) (u : Value), w.grownBy (w.setCell ⟨g, o, none⟩ u) (some g) := fun w o u => ⟨rfl, rfl, rfl, by simp [World.setCell], fun i hi hne => Below.heap_setCell w ⟨g, o, none⟩ u i (fun e => hne (by rw [e]))⟩
  have h2 : ∀ {a b c : World}, a.grownBy b (some g) → b.grownBy c (some g) → a.grownBy c (some g) := fun h k => ⟨k.os.trans h.os, k.tape.trans h.tape, k.output.trans h.output, Nat.le_trans h.size k.size, fun i hi hn => (k.block i (Nat.lt_of_lt_of_le hi h.size) hn).trans (h.block i hi hn)⟩
  exact h2 (h2 (h1 w 0 x) (h1 _ 1 y)) (h1 _ 2 z)
theorem grow_refl (w : World) (row : Option Nat) : w.grownBy w row := World.grownBy.refl w row
theorem grow_set1 (w : World) (g o : Nat) (u : Value) : w.grownBy (w.setCell ⟨g, o, none⟩ u) (some g) :=
  ⟨rfl, rfl, rfl, by simp [World.setCell], fun i hi hne => Below.heap_setCell w ⟨g, o, none⟩ u i (fun e => hne (by rw [e]))⟩
theorem grow_trans {a b c : World} {row : Option Nat} (h : a.grownBy b row) (k : b.grownBy c row) : a.grownBy c row :=
  ⟨k.os.trans h.os, k.tape.trans h.tape, k.output.trans h.output, Nat.le_trans h.size k.size, fun i hi hn => (k.block i (Nat.lt_of_lt_of_le hi h.size) hn).trans (h.block i hi hn)⟩
theorem grow_of_below {a w : World} (h : Below a.heap.size a w) (row : Option Nat) : a.grownBy w row := ⟨h.os, h.tape, h.output, h.size, fun i hi _ => h.block i hi⟩
theorem below_of_grow {a w : World} {row : Option Nat} {B : Nat} (h : a.grownBy w row) (hB : B ≤ a.heap.size) (hr : ∀ g, row = some g → B ≤ g) : Below B a w :=
  ⟨h.os, h.tape, h.output, h.size, fun i hi => h.block i (by omega) (fun e => by have := hr i e.symm; omega)⟩
/-- A block that was new when the call began turned, and nothing else that was there. -/
theorem below_turned {a w w' : World} {g : Nat} (h : Below a.heap.size a w) (hg : w.grownBy w' (some g)) (hn : a.heap.size ≤ g) : Below a.heap.size a w' := h.grown hg h.size (fun k e => by cases e; exact hn)
end Go.Proofs.YtlcpigkgbihebaaDoor

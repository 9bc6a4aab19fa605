/-
  What an iterator wants kept while the body of the loop writes one block; and what a round hands back.
-/
import Derived.RangeFuncNested
import Derived.RangeFuncBound
import Derived.RangeFuncCalls
import Derived.RangeFuncLeaves
import Derived.RangeFuncBox
import Derived.Test.YtlcpigkgbihebaaDoorBlk
namespace Go.Proofs.YtlcpigkgbihebaaDoor
open Go.RowKit
set_option linter.unusedVariables false
/-- A place below N. -/
abbrev At (N : Nat) := { p : Nat // p < N }
theorem exists_at {N : Nat} : ∀ (ps : List Nat), (∀ p ∈ ps, p < N) → ∃ zs : List (At N), zs.map (·.1) = ps
  | [], _ => ⟨[], rfl⟩
  | p :: ps, h => by
    obtain ⟨zs, hz⟩ := exists_at ps (fun q hq => h q (List.mem_cons_of_mem _ hq))
    exact ⟨⟨p, h p (List.mem_cons_self ..)⟩ :: zs, by simp [hz]⟩
/-- What lay below n₀, but for block g, lies as it lay. -/
def KeepBut (n₀ g : Nat) (A B : World) : Prop := A.heap.size ≤ B.heap.size ∧ ∀ i, i < n₀ → i ≠ g → B.heap[i]? = A.heap[i]?
theorem keepBut_refl (n₀ g : Nat) (A : World) : KeepBut n₀ g A A := ⟨Nat.le_refl _, fun _ _ _ => rfl⟩
theorem keepBut_t {n₀ g : Nat} {A B C : World} (h : KeepBut n₀ g A B) (k : KeepBut n₀ g B C) : KeepBut n₀ g A C := ⟨Nat.le_trans h.1 k.1, fun i h1 h2 => (k.2 i h1 h2).trans (h.2 i h1 h2)⟩
theorem keepBut_b {n₀ g : Nat} {w : World} (hn : n₀ ≤ w.heap.size) (W : World) (l : Nat) (o o' : Obj) (hl : w.heap.size ≤ l) (h : W.heap[l]? = some o) (_ : o.isCells = false) (_ : o.isWalk = false) : KeepBut n₀ g W (W.putObj l o') := by
  have h1 := belowK_b hn W l o o' hl h ‹_› ‹_›
  exact ⟨h1.size, fun i hi _ => h1.block i hi⟩
theorem keepBut_below {n₀ g : Nat} {A B : World} (hn : n₀ ≤ A.heap.size) (h : Below A.heap.size A B) : KeepBut n₀ g A B := ⟨h.size, fun i hi _ => h.block i (by omega)⟩
theorem keepBut_grow {n₀ g : Nat} {A B : World} (hn : n₀ ≤ A.heap.size) (h : A.grownBy B (some g)) : KeepBut n₀ g A B := ⟨h.size, fun i hi hne => h.block i (by omega) (fun e => hne (by injection e))⟩
theorem Blk.but {n₀ g b : Nat} {t : TypeId} {cs : Array Value} {A B : World} (h : Blk A b t cs) (hk : KeepBut n₀ g A B) (hb : b < n₀) (hg : b ≠ g) : Blk B b t cs := (hk.2 b hb hg).trans h
theorem abides_below {β : Type} {n : Nat} {J : β → World → Prop} (h : AbidesFrom n J) {s : β} {W W' : World} (hs : J s W) (hb : Below W.heap.size W W') : J s W' :=
  h s W W' none hs ⟨hb.os, hb.tape, hb.output, hb.size, fun i hi _ => hb.block i hi⟩ (fun r e => by cases e)

theorem yield_case {A B : World → Prop} : ∀ (e : Ending) (W' : World), (e = .returned (.bool true) ∧ A W' ∨ e = .returned (.bool false) ∧ B W') → ∃ b, e = .returned (.bool b) ∧ (bif b then A W' else B W')
  | _, _, .inl ⟨rfl, h⟩ => ⟨true, rfl, h⟩
  | _, _, .inr ⟨rfl, h⟩ => ⟨false, rfl, h⟩
theorem keeps_of_below {W W' : World} (h : Below W.heap.size W W') : KeepsOthers W W' :=
  ⟨h.size, fun k o hk _ => (h.block k (heap_lt hk)).trans hk⟩
theorem sl_but {X W : World} {g : Nat} {A : Option Addr} {m : List Int} (h : Sl X X.heap.size A m) (hk : KeepBut X.heap.size g X W) (hne : ∀ ad, A = some ad → ad.block ≠ g) : Sl W W.heap.size A m := fun hl => by
  obtain ⟨b, off, e, hb, hc⟩ := h hl
  exact ⟨b, off, e, Nat.lt_of_lt_of_le hb hk.1, fun j u hj => (World.cell?_of_block (hk.2 b hb (hne _ e))).trans (hc j u hj)⟩
end Go.Proofs.YtlcpigkgbihebaaDoor

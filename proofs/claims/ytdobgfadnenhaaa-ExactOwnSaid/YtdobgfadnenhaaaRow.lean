/-
  From the row's frame to this seat's words: a slice that came in reads as a list.
-/
import Derived.Test.YtdobgfadnenhaaaMem
namespace Go.Proofs.Ytdobgfadnenhaaa
open Go.RowKit

/-- A slice of numbers that came in, as the row's frame tells it, reads as a list. -/
theorem isRow_sl {w : World} {a : Option Addr} {len cap : Nat} {zs : List Int}
    (h : (a = none ∧ len = 0 ∧ cap = 0 ∧ zs = []) ∨ ∃ x, a = some x ∧ len ≤ cap ∧ cap ≤ maxLen ∧ zs.length = cap ∧ (∀ i, i < zs.length → w.cell? (x.add i) = some (.int .u64 (zs.getD i 0))) ∧ ∀ n ∈ zs, (Lit.int .u64 n).wf = true) :
    ∃ l : List Int, len = l.length ∧ l.length ≤ cap ∧ cap ≤ maxLen ∧ (a = none → cap = 0) ∧ Sl w w.heap.size a l ∧ Us l := by
  rcases h with ⟨rfl, rfl, rfl, rfl⟩ | ⟨x, rfl, hl, hm, hz, hc, hw⟩
  · exact ⟨[], rfl, Nat.le_refl _, by simp [maxLen], fun _ => rfl, Sl.nil, fun _ h => by simp at h⟩
  · refine ⟨zs.take len, by simp; omega, by simp; omega, hm, (fun h => by cases h), ?_, fun n hn => bounds_u64 (hw n (List.mem_of_mem_take hn))⟩
    intro hne
    have h0 : 0 < zs.length := by
      rcases Nat.eq_zero_or_pos zs.length with h0 | h0
      · exact absurd (by rw [List.eq_nil_of_length_eq_zero h0]; simp) hne
      · exact h0
    obtain ⟨b, off, sp⟩ := x
    have hsp : sp = none := by
      have := hc 0 h0
      cases sp with
      | none => rfl
      | some k =>
        simp only [Addr.add, if_true, World.cell?] at this
        split at this <;> simp at this
    subst hsp
    have hblk : b < w.heap.size := by
      have := hc 0 h0
      simp only [Addr.add, if_true, World.cell?] at this
      rcases Nat.lt_or_ge b w.heap.size with hlt | hge
      · exact hlt
      · rw [Array.getElem?_eq_none hge] at this; simp at this
    refine ⟨b, off, rfl, hblk, fun j u hj => ?_⟩
    rw [List.getElem?_map, List.getElem?_take] at hj
    split at hj
    · cases e : zs[j]? with
      | none => rw [e] at hj; simp at hj
      | some n =>
        rw [e] at hj
        have hjl : j < zs.length := (List.getElem?_eq_some_iff.1 e).1
        have := hc j hjl
        rw [addr_add] at this
        rw [this]
        simp [List.getD, e] at hj ⊢
        exact hj
    · simp at hj
end Go.Proofs.Ytdobgfadnenhaaa

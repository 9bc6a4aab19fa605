/-
  From the row's frame to this seat's words: a slice of texts that came in reads as a list.
-/
import Derived.Test.YtgfoeicfigfepaaDoorScBase
import Derived.Test.YtgfoeicfigfepaaDoorRows
import Derived.Deep.Strs
import Derived.OpenShut
import Derived.ShutString
import Derived.ProofKit
namespace Go.Proofs.YtgfoeicfigfepaaDoor
open Go.RowKit
set_option linter.unusedVariables false
/-- What the walk is told of a slice of texts that came in. -/
def IsStrs (w : World) (a : Option Addr) (len cap : Nat) : Prop :=
  len ≤ maxLen ∧ ∃ l : List ByteArray, l.length = len ∧ (∀ s ∈ l, s.size ≤ maxLen) ∧ Rd w w.heap.size a (l.map Value.string)
theorem strs_open {H : Type} {enc : TypeId × Value → H} {W : World} {x : DataW H × List MemPlace} {a : Option Addr} {len cap : Nat}
    (h : ∃ fuel, DataW.trod enc Tryd.prog W 0 (fun _ => true) true fuel 28 (Value.slice a len cap).cells.toList = some x) : IsStrs W a len cap := by
  obtain ⟨fuel, hf⟩ := h
  rcases Go.Deep.open_strs Tryd.underlying28 Tryd.underlying9 (by kernel_rfl) hf with ⟨hcs, _⟩ | ⟨y, l, c, m, Sx, hcs, _, hl, hm, hmm, _, hc⟩
  · simp [Value.cells] at hcs
    obtain ⟨rfl, rfl, rfl⟩ := hcs
    exact ⟨Nat.zero_le _, [], rfl, (fun s hs => by cases hs), Rd.none_⟩
  · simp [Value.cells] at hcs
    obtain ⟨rfl, rfl, rfl⟩ := hcs
    have hlm : len ≤ m := by rw [hmm]; simpa using hl
    refine ⟨Nat.le_trans hl hm, (List.range len).map Sx, by simp, fun s hs => ?_, fun hne => ?_⟩
    · obtain ⟨i, hi, rfl⟩ := List.mem_map.1 hs
      exact (hc i (by have := List.mem_range.1 hi; omega)).2
    · have h0 : 0 < len := by
        rcases Nat.eq_zero_or_pos len with h0 | h0
        · subst h0; exact absurd rfl hne
        · exact h0
      obtain ⟨b, off, sp⟩ := y
      have hc0 := (hc 0 (by omega)).1
      have hsp : sp = none := by
        cases sp with
        | none => rfl
        | some k =>
          simp only [Addr.add, if_true, World.cell?] at hc0
          split at hc0 <;> simp at hc0
      subst hsp
      have hblk : b < W.heap.size := by
        simp only [Addr.add, if_true, World.cell?] at hc0
        rcases Nat.lt_or_ge b W.heap.size with hlt | hge
        · exact hlt
        · rw [Array.getElem?_eq_none hge] at hc0; simp at hc0
      refine ⟨b, off, rfl, hblk, fun j u hj => ?_⟩
      have hj2 : j < len := by simpa using (List.getElem?_eq_some_iff.1 hj).1
      have hcj := (hc j (by omega)).1
      rw [addr_add] at hcj
      rw [hcj, ← hj]
      simp [hj2]
end Go.Proofs.YtgfoeicfigfepaaDoor

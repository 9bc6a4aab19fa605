/-
  From the row's frame to this seat's words: a slice that came in reads as a list.
-/
import Derived.Test.YtopddcabaiicgaaMem
import Derived.Lib.SmallJoins
namespace Go.Proofs.Ytopddcabaiicgaa
open Go.RowKit Go.Joins Go.ChangeShapes Go.WideShapes Go.Deep

/-- A slice of numbers that came in, as the row's frame tells it, reads as a list. -/
theorem isRow_sl {w : World} {a : Option Addr} {len cap : Nat} {zs : List Int}
    (h : (a = none ∧ len = 0 ∧ cap = 0 ∧ zs = []) ∨ ∃ x, a = some x ∧ len ≤ cap ∧ cap ≤ maxLen ∧ zs.length = cap ∧ (∀ i, i < zs.length → w.cell? (x.add i) = some (.int .u64 (zs.getD i 0))) ∧ ∀ n ∈ zs, (Lit.int .u64 n).wf = true) :
    ∃ l : List Int, len = l.length ∧ l.length ≤ cap ∧ cap ≤ maxLen ∧ (a = none → cap = 0) ∧ Sl w w.heap.size a l ∧ Us l := by
  rcases h with ⟨rfl, rfl, rfl, rfl⟩ | ⟨x, rfl, hl, hm, hz, hc, hw⟩
  · exact ⟨[], rfl, Nat.le_refl _, by simp [maxLen], fun _ => rfl, Sl.nil, fun _ h => by simp at h⟩
  · refine ⟨zs.take len, by simp; omega, by simp; omega, hm, (fun h => by cases h), ?_, fun n hn => bounds_u64 (hw n (List.mem_of_mem_take hn))⟩
    intro hne
    have h0 : 0 < zs.length := by
      rcases Nat.eq_zero_or_pos zs.length with h0 | h0
      · exact absurd (by rw [List.eq_nil_of_length_eq_zero h0]; simp) hne
      · exact h0
    obtain ⟨b, off, sp⟩ := x
    have hsp : sp = none := by
      have := hc 0 h0
      cases sp with
      | none => rfl
      | some k =>
        simp only [Addr.add, if_true, World.cell?] at this
        split at this <;> simp at this
    subst hsp
    have hblk : b < w.heap.size := by
      have := hc 0 h0
      simp only [Addr.add, if_true, World.cell?] at this
      rcases Nat.lt_or_ge b w.heap.size with hlt | hge
      · exact hlt
      · rw [Array.getElem?_eq_none hge] at this; simp at this
    refine ⟨b, off, rfl, hblk, fun j u hj => ?_⟩
    rw [List.getElem?_map, List.getElem?_take] at hj
    split at hj
    · cases e : zs[j]? with
      | none => rw [e] at hj; simp at hj
      | some n =>
        rw [e] at hj
        have hjl : j < zs.length := (List.getElem?_eq_some_iff.1 e).1
        have := hc j hjl
        rw [addr_add] at this
        rw [this]
        simp [List.getD, e] at hj ⊢
        exact hj
    · simp at hj

/-- A struct of one field, by value. -/
theorem open_agg1 {H : Type} {enc : TypeId × Value → H} {P : Program} {w : World} {base : Nat} {spare : Nat → Bool} {held : Bool} {r : Reach} {b0 : Nat} {t : TypeId} {f0 : Field} {v : Value} {d : DataW H} {p : List MemPlace}
    (hs : P.underlying t = some (.struct #[f0])) (hone : oneCellFields P #[f0] = true) (hC : P.cellsOf t = 1) (hv : Value.okWide P w r b0 t v) (h : DataW.Trod enc P w base spare held t v d p) :
    ∃ (v0 : Value) (y0 : DataW H × List MemPlace) (n : Nat), v = .agg #[v0] ∧ DataW.trod enc P w base spare held n f0.type [v0] = some y0 := by
  obtain ⟨cs, rfl, hsz⟩ := okWide_struct hs hv
  obtain ⟨l⟩ := cs
  match l, hsz.trans hC with
  | [c0], _ =>
    obtain ⟨fuel, hf⟩ := h
    obtain ⟨xs, n, _, hx, _, hlen, hg⟩ := DataW.trod_struct hs hf
    obtain ⟨o0, k0⟩ := hone_of hone 0 f0 rfl
    match xs, hlen with
    | [y0], _ => exact ⟨c0, y0, n, rfl, by simpa [Value.cells, o0, k0] using hg 0 f0 rfl⟩
end Go.Proofs.Ytopddcabaiicgaa

/-
  Merged out of: RowLabs.
-/
import Derived.Test.YtgfoeicfigfepaaDoorRows
import Derived.Deep.Slices
import Derived.Deep.Fields
import Derived.ChangeSame
import Derived.OpenShut
import Derived.ShutString
import Derived.ProofKit
import Derived.Lib.SmallJoins
import Derived.Test.YtgfoeicfigfepaaDoorScLab
namespace Go.Proofs.YtgfoeicfigfepaaDoor
section
open Go.RowKit Go.Joins Go.ChangeShapes Go.WideShapes Go.Deep
set_option linter.unusedVariables false
set_option linter.unusedSimpArgs false
section
variable {H : Type} {enc : TypeId × Value → H} {P : Program} {w : World} {base : Nat} {spare : Nat → Bool} {held : Bool}
theorem open_slice_fields {t e : TypeId} {fs : Array Field} {fuel : Nat} {cs : List Value} {x : DataW H × List MemPlace} (ht : P.underlying t = some (.slice e)) (he : P.underlying e = some (.struct fs))
    (hone : oneCellFields P fs = true) (hC : P.cellsOf e = fs.size) (h : DataW.trod enc P w base spare held fuel t cs = some x) :
    (cs = [.slice none 0 0] ∧ x = (.nil, [])) ∨
    ∃ (a : Addr) (len cap m : Nat) (D : Nat → DataW H) (Pl : Nat → List MemPlace), cs = [.slice (some a) len cap] ∧ base ≤ a.block ∧ len ≤ cap ∧ cap ≤ maxLen ∧ m = (if spare a.block then cap else len) ∧
      x = (.slice ((List.range len).map D) ((List.range (m - len)).map fun j => D (len + j)), MemPlace.row a (m * fs.size) ++ (List.range m).flatMap Pl) ∧
      ∀ i, i < m → ∃ (ys : List (DataW H × List MemPlace)) (n : Nat), D i = .agg (ys.map (·.1)) ∧ Pl i = ys.flatMap (·.2) ∧ ys.length = fs.size ∧
        ∀ (j : Nat) (f : Field), fs[j]? = some f → ∃ (v : Value) (y : DataW H × List MemPlace), w.cell? (a.add (i * fs.size + j)) = some v ∧ ys[j]? = some y ∧ DataW.trod enc P w base spare held n f.type [v] = some y := by
  rcases open_slice ht h with h0 | ⟨a, len, cap, m, n, D, Pl, hcs, hb, hl, hm, hmm, hx, hi⟩
  · exact .inl h0
  · refine .inr ⟨a, len, cap, m, D, Pl, hcs, hb, hl, hm, hmm, by rw [hC] at hx; exact hx, fun i him => ?_⟩
    obtain ⟨cs', hc, ht'⟩ := hi i him
    rw [hC] at hc
    obtain ⟨ys, n', hn', hy, hlen, hyl, hf⟩ := DataW.trod_struct he ht'
    obtain ⟨_, hcl, hat⟩ := World.cells?_some hc
    simp only [Prod.mk.injEq] at hy
    refine ⟨ys, n', hy.1, hy.2, hyl, fun j f hj => ?_⟩
    obtain ⟨ho, hk⟩ := hone_of hone j f hj
    have hjl : j < fs.size := (Array.getElem?_eq_some_iff.1 hj).1
    have hcell := hat j hjl
    have hv : cs'[j]? = some (cs'[j]'(by omega)) := List.getElem?_eq_getElem (by omega)
    have h1 := hf j f hj
    rw [ho, hk] at h1
    have hone' : (cs'.drop j).take 1 = [cs'[j]'(by omega)] := by
      rw [List.drop_eq_getElem_cons (by omega)]
      rfl
    rw [hone'] at h1
    have hys : ys[j]? = some (ys[j]'(by omega)) := List.getElem?_eq_getElem (by omega)
    refine ⟨_, _, ?_, hys, h1.trans hys⟩
    rw [← Go.Deep.add_add, hcell, hv]
end
/-- What the walk is told of a slice of labels that came in. -/
def IsLabs (w : World) (a : Option Addr) (len cap : Nat) : Prop :=
  (a = none ∧ len = 0 ∧ cap = 0) ∨ ∃ x, a = some x ∧ len ≤ cap ∧ cap ≤ maxLen ∧ ∀ i, i < cap → ∃ s t : ByteArray, w.cell? (x.add (i * 2)) = some (.string s) ∧ w.cell? (x.add (i * 2 + 1)) = some (.string t) ∧ s.size ≤ maxLen ∧ t.size ≤ maxLen
theorem labs_open {H : Type} {enc : TypeId × Value → H} {W : World} {x : DataW H × List MemPlace} {a : Option Addr} {len cap : Nat}
    (h : ∃ fuel, DataW.trod enc Tryd.prog W 0 (fun _ => true) true fuel 29 (Value.slice a len cap).cells.toList = some x) : IsLabs W a len cap := by
  obtain ⟨fuel, hf⟩ := h
  rcases open_slice_fields Tryd.underlying29 Tryd.underlying37 (by kernel_rfl) (by kernel_rfl) hf with ⟨hcs, _⟩ | ⟨x, l, c, m, D, Pl, hcs, _, hl, hm, hmm, _, hf2⟩
  · simp [Value.cells] at hcs
    obtain ⟨rfl, rfl, rfl⟩ := hcs
    exact .inl ⟨rfl, rfl, rfl⟩
  · simp [Value.cells] at hcs
    obtain ⟨rfl, rfl, rfl⟩ := hcs
    refine .inr ⟨x, rfl, hl, hm, fun i hi => ?_⟩
    obtain ⟨ys, n, _, _, _, hfs⟩ := hf2 i (by rw [hmm]; simpa using hi)
    obtain ⟨v0, y0, c0, _, t0⟩ := hfs 0 _ rfl
    obtain ⟨v1, y1, c1, _, t1⟩ := hfs 1 _ rfl
    obtain ⟨n0, e0, _, g0⟩ := DataW.trod_string Tryd.underlying9 t0
    obtain ⟨n1, e1, _, g1⟩ := DataW.trod_string Tryd.underlying9 t1
    simp only [List.cons.injEq, and_true] at e0 e1
    subst e0 e1
    exact ⟨n0, n1, c0, c1, g0, g1⟩
theorem isLabs_le {w : World} {a : Option Addr} {len cap : Nat} (h : IsLabs w a len cap) : len ≤ maxLen := by
  rcases h with ⟨_, rfl, _⟩ | ⟨x, _, hl, hm, _⟩
  · simp
  · omega
theorem isLabs_lb {w : World} {a : Option Addr} {len cap : Nat} (h : IsLabs w a len cap) (k : Nat) (hk : k ≤ len) :
    ∃ l : List Lab, l.length = k ∧ (∀ y ∈ l, y.1.size ≤ maxLen ∧ y.2.size ≤ maxLen) ∧ Lb w w.heap.size a l := by
  rcases h with ⟨rfl, rfl, rfl⟩ | ⟨x, rfl, hl, hm, hc⟩
  · exact ⟨[], by simp; omega, (fun _ h => by simp at h), Rd.none_⟩
  · have hl' : ∀ n, n ≤ len → ∃ l : List Lab, l.length = n ∧ (∀ y ∈ l, y.1.size ≤ maxLen ∧ y.2.size ≤ maxLen) ∧ ∀ i, i < n → w.cell? (x.add (i * 2)) = some (.string (lth l i).1) ∧ w.cell? (x.add (i * 2 + 1)) = some (.string (lth l i).2) := by
      intro n
      induction n with
      | zero => exact fun _ => ⟨[], rfl, (fun _ h => by simp at h), fun i hi => by omega⟩
      | succ n ih =>
        intro hn
        obtain ⟨l, hll, hU, hcl⟩ := ih (by omega)
        obtain ⟨hh, nn, c1, c2, u1, u2⟩ := hc n (by omega)
        refine ⟨l ++ [(hh, nn)], by simp [hll], ?_, fun i hi => ?_⟩
        · intro y hy
          rcases List.mem_append.1 hy with h | h
          · exact hU y h
          · simp at h; subst h; exact ⟨u1, u2⟩
        · by_cases hin : i < n
          · have : lth (l ++ [(hh, nn)]) i = lth l i := by unfold lth; rw [List.getElem?_append_left (by omega)]
            rw [this]; exact hcl i hin
          · obtain rfl : i = n := by omega
            have : lth (l ++ [(hh, nn)]) i = (hh, nn) := by unfold lth; rw [List.getElem?_append_right (by omega), hll]; simp
            rw [this]; exact ⟨c1, c2⟩
    obtain ⟨l, hll, hU, hcl⟩ := hl' k hk
    refine ⟨l, hll, hU, ?_⟩
    intro hne
    have h0 : 0 < l.length := by
      rcases Nat.eq_zero_or_pos l.length with h0 | h0
      · exact absurd (by rw [List.eq_nil_of_length_eq_zero h0]; rfl) hne
      · exact h0
    obtain ⟨b, off, sp⟩ := x
    have hc0 := (hcl 0 (by omega)).1
    have hsp : sp = none := by
      cases sp with
      | none => rfl
      | some k =>
        simp only [Nat.zero_mul, Addr.add, if_true, World.cell?] at hc0
        split at hc0 <;> simp at hc0
    subst hsp
    have hblk : b < w.heap.size := by
      simp only [Nat.zero_mul, Addr.add, if_true, World.cell?] at hc0
      rcases Nat.lt_or_ge b w.heap.size with hlt | hge
      · exact hlt
      · rw [Array.getElem?_eq_none hge] at hc0; simp at hc0
    refine ⟨b, off, rfl, hblk, fun j u hj => ?_⟩
    have hjl : j < 2 * l.length := by rw [← length_flatL]; exact (List.getElem?_eq_some_iff.1 hj).1
    obtain ⟨f1, f2⟩ := flatL_at l (j / 2) (by omega)
    obtain ⟨g1, g2⟩ := hcl (j / 2) (by omega)
    rw [addr_add] at g1 g2
    rcases Nat.mod_two_eq_zero_or_one j with h | h
    · have e : j / 2 * 2 = j := by omega
      rw [e] at f1 g1
      rw [g1, ← f1]; exact hj
    · have e : j / 2 * 2 + 1 = j := by omega
      rw [e] at f2 g2
      rw [g2, ← f2]; exact hj
end
end Go.Proofs.YtgfoeicfigfepaaDoor

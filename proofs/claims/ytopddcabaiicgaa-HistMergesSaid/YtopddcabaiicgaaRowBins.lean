/-
  From the row's frame to this seat's words: a slice of bins (structs of a place and a number of 64 bits) that came in reads as a list.
-/
import Derived.Test.YtopddcabaiicgaaRowItems
import Derived.Test.YtopddcabaiicgaaBins
import Derived.Test.YtopddcabaiicgaaHistAdd
namespace Go.Proofs.Ytopddcabaiicgaa
open Go.RowKit Go.Joins Go.ChangeShapes Go.WideShapes Go.Deep
set_option linter.unusedVariables false
/-- What the walk is told of a slice of bins that came in. -/
def IsBins (w : World) (a : Option Addr) (len cap : Nat) : Prop :=
  (a = none ∧ len = 0 ∧ cap = 0) ∨ ∃ x, a = some x ∧ len ≤ cap ∧ cap ≤ maxLen ∧ ∀ i, i < cap → ∃ h n : Int, w.cell? (x.add (i * 2)) = some (.int .i64 h) ∧ w.cell? (x.add (i * 2 + 1)) = some (.int .u64 n) ∧ I64 h ∧ U n
theorem isBins_sb {w : World} {a : Option Addr} {len cap : Nat} (h : IsBins w a len cap) :
    ∃ l : Bins, len = l.length ∧ l.length ≤ cap ∧ cap ≤ maxLen ∧ Sb w w.heap.size a l ∧ UBs l ∧ (cap ≠ 0 → ∃ b off, a = some ⟨b, off, none⟩) := by
  rcases h with ⟨rfl, rfl, rfl⟩ | ⟨x, rfl, hl, hm, hc⟩
  · exact ⟨[], rfl, Nat.le_refl _, by simp [maxLen], Rd.none_, (fun _ h => by simp at h), fun h => absurd rfl h⟩
  · have hl' : ∀ n, n ≤ len → ∃ l : Bins, l.length = n ∧ UBs l ∧ ∀ i, i < n → w.cell? (x.add (i * 2)) = some (.int .i64 (bth l i).1) ∧ w.cell? (x.add (i * 2 + 1)) = some (.int .u64 (bth l i).2) := by
      intro n
      induction n with
      | zero => exact fun _ => ⟨[], rfl, (fun _ h => by simp at h), fun i hi => by omega⟩
      | succ n ih =>
        intro hn
        obtain ⟨l, hll, hU, hcl⟩ := ih (by omega)
        obtain ⟨hh, nn, c1, c2, u1, u2⟩ := hc n (by omega)
        refine ⟨l ++ [(hh, nn)], by simp [hll], ?_, fun i hi => ?_⟩
        · intro y hy
          rcases List.mem_append.1 hy with h | h
          · exact hU y h
          · simp at h; subst h; exact ⟨u1, u2⟩
        · by_cases hin : i < n
          · have : bth (l ++ [(hh, nn)]) i = bth l i := by unfold bth; rw [List.getElem?_append_left (by omega)]
            rw [this]; exact hcl i hin
          · obtain rfl : i = n := by omega
            have : bth (l ++ [(hh, nn)]) i = (hh, nn) := by unfold bth; rw [List.getElem?_append_right (by omega), hll]; simp
            rw [this]; exact ⟨c1, c2⟩
    obtain ⟨l, hll, hU, hcl⟩ := hl' len (Nat.le_refl _)
    refine ⟨l, hll.symm, by omega, hm, ?_, hU, fun h0 => ?_⟩
    rotate_left
    · obtain ⟨b, off, sp⟩ := x
      obtain ⟨_, _, hc0, _⟩ := hc 0 (by omega)
      cases sp with
      | none => exact ⟨b, off, rfl⟩
      | some k =>
        simp only [Nat.zero_mul, Addr.add, if_true, World.cell?] at hc0
        split at hc0 <;> simp at hc0
    intro hne
    have h0 : 0 < l.length := by
      rcases Nat.eq_zero_or_pos l.length with h0 | h0
      · exact absurd (by rw [List.eq_nil_of_length_eq_zero h0]; rfl) hne
      · exact h0
    obtain ⟨b, off, sp⟩ := x
    have hc0 := (hcl 0 (by omega)).1
    have hsp : sp = none := by
      cases sp with
      | none => rfl
      | some k =>
        simp only [Nat.zero_mul, Addr.add, if_true, World.cell?] at hc0
        split at hc0 <;> simp at hc0
    subst hsp
    have hblk : b < w.heap.size := by
      simp only [Nat.zero_mul, Addr.add, if_true, World.cell?] at hc0
      rcases Nat.lt_or_ge b w.heap.size with hlt | hge
      · exact hlt
      · rw [Array.getElem?_eq_none hge] at hc0; simp at hc0
    refine ⟨b, off, rfl, hblk, fun j u hj => ?_⟩
    have hjl : j < 2 * l.length := by have h := (List.getElem?_eq_some_iff.1 hj).1; rw [length_flatB] at h; omega
    obtain ⟨f1, f2⟩ := flatB_at l (j / 2) (by omega)
    obtain ⟨g1, g2⟩ := hcl (j / 2) (by omega)
    rw [addr_add] at g1 g2
    rcases Nat.mod_two_eq_zero_or_one j with h | h
    · have e : j / 2 * 2 = j := by omega
      rw [e] at f1 g1
      rw [g1, ← f1]; exact hj
    · have e : j / 2 * 2 + 1 = j := by omega
      rw [e] at f2 g2
      rw [g2, ← f2]; exact hj
end Go.Proofs.Ytopddcabaiicgaa

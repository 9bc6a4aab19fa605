/-
  Words for a slice of labels: structs of two texts.
-/
import Derived.Test.YtlcpigkgbihebaaDoorMem
namespace Go.Proofs.YtlcpigkgbihebaaDoor
open Go.RowKit
abbrev Lab := ByteArray × ByteArray
/-- The cells of labels. -/
def flatL (l : List Lab) : List Value := l.flatMap fun x => [.string x.1, .string x.2]
def lth (l : List Lab) (k : Nat) : Lab := (l[k]?).getD (ByteArray.empty, ByteArray.empty)
/-- A slice of labels reads as l. -/
def Lb (w : World) (B : Nat) (A : Option Addr) (l : List Lab) : Prop := Rd w B A (flatL l)
theorem length_flatL (l : List Lab) : (flatL l).length = 2 * l.length := by
  induction l with
  | nil => rfl
  | cons x l ih => simp only [flatL, List.flatMap_cons, List.length_append, List.length_cons, List.length_nil] at ih ⊢; omega
theorem flatL_at : ∀ (l : List Lab) (j : Nat), j < l.length → (flatL l)[j * 2]? = some (.string (lth l j).1) ∧ (flatL l)[j * 2 + 1]? = some (.string (lth l j).2)
  | [], _, h => by simp at h
  | x :: l, 0, _ => by simp [flatL, lth]
  | x :: l, j + 1, h => by
    have := flatL_at l j (by simpa using h)
    have e1 : (flatL (x :: l))[(j + 1) * 2]? = (flatL l)[j * 2]? := by
      show ([_, _] ++ flatL l)[(j + 1) * 2]? = _
      rw [List.getElem?_append_right (by simp; omega)]
      congr 1
      simp; omega
    have e2 : (flatL (x :: l))[(j + 1) * 2 + 1]? = (flatL l)[j * 2 + 1]? := by
      show ([_, _] ++ flatL l)[(j + 1) * 2 + 1]? = _
      rw [List.getElem?_append_right (by simp; omega)]
      congr 1
      simp; omega
    have e3 : lth (x :: l) (j + 1) = lth l j := by simp [lth]
    rw [e1, e2, e3]
    exact this
theorem take_lth_succ {l : List Lab} {k : Nat} (h : k < l.length) : l.take (k + 1) = l.take k ++ [lth l k] := by
  rw [List.take_succ_eq_append_getElem h]; simp [lth, h]
section
variable {w w' : World} {B B' : Nat} {A : Option Addr} {l : List Lab}
theorem Lb.at_ (h : Lb w B A l) (hl : 0 < l.length) : ∃ b off, A = some ⟨b, off, none⟩ ∧ b < B ∧ ∀ j, j < l.length → w.cell? ⟨b, off + j * 2, none⟩ = some (.string (lth l j).1) ∧ w.cell? ⟨b, off + j * 2 + 1, none⟩ = some (.string (lth l j).2) := by
  obtain ⟨b, off, e, hb, hc⟩ := Rd.at_ h (by rw [length_flatL]; omega)
  refine ⟨b, off, e, hb, fun j hj => ?_⟩
  obtain ⟨h1, h2⟩ := flatL_at l j hj
  exact ⟨hc _ _ h1, by rw [Nat.add_assoc]; exact hc _ _ h2⟩
theorem Lb.later {w w' : World} {A : Option Addr} {l : List Lab} (h : Lb w w.heap.size A l) (hb : Below w.heap.size w w') : Lb w' w'.heap.size A l := (Rd.below h hb).more hb.size
theorem flatL_take (l : List Lab) (n : Nat) : flatL (l.take n) = (flatL l).take (2 * n) := by
  induction l generalizing n with
  | nil => simp [flatL]
  | cons x l ih =>
    cases n with
    | zero => simp [flatL]
    | succ n =>
      have : 2 * (n + 1) = 2 * n + 1 + 1 := by omega
      rw [this]
      simp only [List.take_succ_cons, flatL, List.flatMap_cons, List.cons_append, List.nil_append] at ih ⊢
      rw [ih]
theorem flatL_drop (l : List Lab) (n : Nat) : flatL (l.drop n) = (flatL l).drop (2 * n) := by
  induction l generalizing n with
  | nil => simp [flatL]
  | cons x l ih =>
    cases n with
    | zero => simp [flatL]
    | succ n =>
      have : 2 * (n + 1) = 2 * n + 1 + 1 := by omega
      rw [this]
      simp only [List.drop_succ_cons, flatL, List.flatMap_cons, List.cons_append, List.nil_append] at ih ⊢
      rw [ih]
theorem Lb.take (h : Lb w B A l) (n : Nat) : Lb w B A (l.take n) := by
  unfold Lb; rw [flatL_take]; exact Rd.take h _
theorem Lb.drop_ {b off : Nat} (h : Lb w B (some ⟨b, off, none⟩) l) (k : Nat) : Lb w B (some ⟨b, off + k * 2, none⟩) (l.drop k) := fun hl => by
  rw [flatL_drop] at hl
  have hl' : flatL l ≠ [] := by intro e; rw [e] at hl; simp at hl
  obtain ⟨b', off', e, hb, hc⟩ := h hl'
  cases e
  refine ⟨b, off + k * 2, rfl, hb, fun j u hj => ?_⟩
  rw [flatL_drop, List.getElem?_drop] at hj
  have := hc (2 * k + j) u hj
  rwa [show off + (2 * k + j) = off + k * 2 + j by omega] at this
end
end Go.Proofs.YtlcpigkgbihebaaDoor

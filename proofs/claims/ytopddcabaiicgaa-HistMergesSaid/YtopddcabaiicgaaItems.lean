/-
  Words for a slice of items: structs of two numbers of 64 bits.
-/
import Derived.Test.YtopddcabaiicgaaMem
namespace Go.Proofs.Ytopddcabaiicgaa
open Go.RowKit
/-- The cells of items. -/
def flat (l : List (Int × Int)) : List Value := l.flatMap fun x => [.int .u64 x.1, .int .u64 x.2]
def ith (l : List (Int × Int)) (k : Nat) : Int × Int := (l[k]?).getD (0, 0)
def UI (l : List (Int × Int)) : Prop := ∀ x ∈ l, U x.1 ∧ U x.2
/-- A slice of items reads as l. -/
def Si (w : World) (B : Nat) (A : Option Addr) (l : List (Int × Int)) : Prop := Rd w B A (flat l)
theorem length_flat (l : List (Int × Int)) : (flat l).length = 2 * l.length := by
  induction l with
  | nil => rfl
  | cons x l ih => simp only [flat, List.flatMap_cons, List.length_append, List.length_cons, List.length_nil] at ih ⊢; omega
theorem flat_at : ∀ (l : List (Int × Int)) (j : Nat), j < l.length → (flat l)[j * 2]? = some (.int .u64 (ith l j).1) ∧ (flat l)[j * 2 + 1]? = some (.int .u64 (ith l j).2)
  | [], _, h => by simp at h
  | x :: l, 0, _ => by simp [flat, ith]
  | x :: l, j + 1, h => by
    have := flat_at l j (by simpa using h)
    have e1 : (flat (x :: l))[(j + 1) * 2]? = (flat l)[j * 2]? := by
      show ([_, _] ++ flat l)[(j + 1) * 2]? = _
      rw [List.getElem?_append_right (by simp; omega)]
      congr 1
      simp; omega
    have e2 : (flat (x :: l))[(j + 1) * 2 + 1]? = (flat l)[j * 2 + 1]? := by
      show ([_, _] ++ flat l)[(j + 1) * 2 + 1]? = _
      rw [List.getElem?_append_right (by simp; omega)]
      congr 1
      simp; omega
    have e3 : ith (x :: l) (j + 1) = ith l j := by simp [ith]
    rw [e1, e2, e3]
    exact this
theorem ith_U {l : List (Int × Int)} (h : UI l) (j : Nat) : U (ith l j).1 ∧ U (ith l j).2 := by
  unfold ith
  cases e : l[j]? with
  | none => simp [U]
  | some x => exact h x (List.mem_of_getElem? e)
theorem UI.take {l : List (Int × Int)} (h : UI l) (n : Nat) : UI (l.take n) := fun x hx => h x (List.mem_of_mem_take hx)
theorem UI.drop {l : List (Int × Int)} (h : UI l) (n : Nat) : UI (l.drop n) := fun x hx => h x (List.mem_of_mem_drop hx)
theorem take_ith_succ {l : List (Int × Int)} {k : Nat} (h : k < l.length) : l.take (k + 1) = l.take k ++ [ith l k] := by
  rw [List.take_succ_eq_append_getElem h]; simp [ith, h]
section
variable {w w' : World} {B B' : Nat} {A : Option Addr} {l : List (Int × Int)}
theorem Si.at_ (h : Si w B A l) (hl : 0 < l.length) : ∃ b off, A = some ⟨b, off, none⟩ ∧ b < B ∧ ∀ j, j < l.length → w.cell? ⟨b, off + j * 2, none⟩ = some (.int .u64 (ith l j).1) ∧ w.cell? ⟨b, off + j * 2 + 1, none⟩ = some (.int .u64 (ith l j).2) := by
  obtain ⟨b, off, e, hb, hc⟩ := Rd.at_ h (by rw [length_flat]; omega)
  refine ⟨b, off, e, hb, fun j hj => ?_⟩
  obtain ⟨h1, h2⟩ := flat_at l j hj
  exact ⟨hc _ _ h1, by rw [Nat.add_assoc]; exact hc _ _ h2⟩
theorem Si.later {w w' : World} {A : Option Addr} {l : List (Int × Int)} (h : Si w w.heap.size A l) (hb : Below w.heap.size w w') : Si w' w'.heap.size A l := (Rd.below h hb).more hb.size
theorem flat_take (l : List (Int × Int)) (n : Nat) : flat (l.take n) = (flat l).take (2 * n) := by
  induction l generalizing n with
  | nil => simp [flat]
  | cons x l ih =>
    cases n with
    | zero => simp [flat]
    | succ n =>
      have : 2 * (n + 1) = 2 * n + 1 + 1 := by omega
      rw [this]
      simp only [List.take_succ_cons, flat, List.flatMap_cons, List.cons_append, List.nil_append] at ih ⊢
      rw [ih]
theorem flat_drop (l : List (Int × Int)) (n : Nat) : flat (l.drop n) = (flat l).drop (2 * n) := by
  induction l generalizing n with
  | nil => simp [flat]
  | cons x l ih =>
    cases n with
    | zero => simp [flat]
    | succ n =>
      have : 2 * (n + 1) = 2 * n + 1 + 1 := by omega
      rw [this]
      simp only [List.drop_succ_cons, flat, List.flatMap_cons, List.cons_append, List.nil_append] at ih ⊢
      rw [ih]
theorem Si.take (h : Si w B A l) (n : Nat) : Si w B A (l.take n) := by
  unfold Si; rw [flat_take]; exact Rd.take h _
theorem Si.drop_ {b off : Nat} (h : Si w B (some ⟨b, off, none⟩) l) (k : Nat) : Si w B (some ⟨b, off + k * 2, none⟩) (l.drop k) := fun hl => by
  rw [flat_drop] at hl
  have hl' : flat l ≠ [] := by intro e; rw [e] at hl; simp at hl
  obtain ⟨b', off', e, hb, hc⟩ := h hl'
  cases e
  refine ⟨b, off + k * 2, rfl, hb, fun j u hj => ?_⟩
  rw [flat_drop, List.getElem?_drop] at hj
  have := hc (2 * k + j) u hj
  rwa [show off + (2 * k + j) = off + k * 2 + j by omega] at this
end
end Go.Proofs.Ytopddcabaiicgaa

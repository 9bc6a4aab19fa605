/-
  Words for a slice of bins: structs of an int and a number of 64 bits.
-/
import Derived.Test.YtopddcabaiicgaaMem
namespace Go.Proofs.Ytopddcabaiicgaa
open Go.RowKit
def I64 (x : Int) : Prop := -9223372036854775808 ≤ x ∧ x ≤ 9223372036854775807
/-- The cells of bins. -/
def flatB (l : List (Int × Int)) : List Value := l.flatMap fun x => [.int .i64 x.1, .int .u64 x.2]
def bth (l : List (Int × Int)) (k : Nat) : Int × Int := (l[k]?).getD (0, 0)
def UBs (l : List (Int × Int)) : Prop := ∀ x ∈ l, I64 x.1 ∧ U x.2
/-- A slice of items reads as l. -/
def Sb (w : World) (B : Nat) (A : Option Addr) (l : List (Int × Int)) : Prop := Rd w B A (flatB l)
theorem length_flatB (l : List (Int × Int)) : (flatB l).length = 2 * l.length := by
  induction l with
  | nil => rfl
  | cons x l ih => simp only [flatB, List.flatMap_cons, List.length_append, List.length_cons, List.length_nil] at ih ⊢; omega
theorem flatB_at : ∀ (l : List (Int × Int)) (j : Nat), j < l.length → (flatB l)[j * 2]? = some (.int .i64 (bth l j).1) ∧ (flatB l)[j * 2 + 1]? = some (.int .u64 (bth l j).2)
  | [], _, h => by simp at h
  | x :: l, 0, _ => by simp [flatB, bth]
  | x :: l, j + 1, h => by
    have := flatB_at l j (by simpa using h)
    have e1 : (flatB (x :: l))[(j + 1) * 2]? = (flatB l)[j * 2]? := by
      show ([_, _] ++ flatB l)[(j + 1) * 2]? = _
      rw [List.getElem?_append_right (by simp; omega)]
      congr 1
      simp; omega
    have e2 : (flatB (x :: l))[(j + 1) * 2 + 1]? = (flatB l)[j * 2 + 1]? := by
      show ([_, _] ++ flatB l)[(j + 1) * 2 + 1]? = _
      rw [List.getElem?_append_right (by simp; omega)]
      congr 1
      simp; omega
    have e3 : bth (x :: l) (j + 1) = bth l j := by simp [bth]
    rw [e1, e2, e3]
    exact this
theorem bth_U {l : List (Int × Int)} (h : UBs l) (j : Nat) : I64 (bth l j).1 ∧ U (bth l j).2 := by
  unfold bth
  cases e : l[j]? with
  | none => simp [U, I64]
  | some x => exact h x (List.mem_of_getElem? e)
theorem UBs.take {l : List (Int × Int)} (h : UBs l) (n : Nat) : UBs (l.take n) := fun x hx => h x (List.mem_of_mem_take hx)
theorem UBs.drop {l : List (Int × Int)} (h : UBs l) (n : Nat) : UBs (l.drop n) := fun x hx => h x (List.mem_of_mem_drop hx)
theorem take_bth_succ {l : List (Int × Int)} {k : Nat} (h : k < l.length) : l.take (k + 1) = l.take k ++ [bth l k] := by
  rw [List.take_succ_eq_append_getElem h]; simp [bth, h]
section
variable {w w' : World} {B B' : Nat} {A : Option Addr} {l : List (Int × Int)}
theorem Sb.at_ (h : Sb w B A l) (hl : 0 < l.length) : ∃ b off, A = some ⟨b, off, none⟩ ∧ b < B ∧ ∀ j, j < l.length → w.cell? ⟨b, off + j * 2, none⟩ = some (.int .i64 (bth l j).1) ∧ w.cell? ⟨b, off + j * 2 + 1, none⟩ = some (.int .u64 (bth l j).2) := by
  obtain ⟨b, off, e, hb, hc⟩ := Rd.at_ h (by rw [length_flatB]; omega)
  refine ⟨b, off, e, hb, fun j hj => ?_⟩
  obtain ⟨h1, h2⟩ := flatB_at l j hj
  exact ⟨hc _ _ h1, by rw [Nat.add_assoc]; exact hc _ _ h2⟩
theorem Sb.later {w w' : World} {A : Option Addr} {l : List (Int × Int)} (h : Sb w w.heap.size A l) (hb : Below w.heap.size w w') : Sb w' w'.heap.size A l := (Rd.below h hb).more hb.size
theorem flatB_take (l : List (Int × Int)) (n : Nat) : flatB (l.take n) = (flatB l).take (2 * n) := by
  induction l generalizing n with
  | nil => simp [flatB]
  | cons x l ih =>
    cases n with
    | zero => simp [flatB]
    | succ n =>
      have : 2 * (n + 1) = 2 * n + 1 + 1 := by omega
      rw [this]
      simp only [List.take_succ_cons, flatB, List.flatMap_cons, List.cons_append, List.nil_append] at ih ⊢
      rw [ih]
theorem flatB_drop (l : List (Int × Int)) (n : Nat) : flatB (l.drop n) = (flatB l).drop (2 * n) := by
  induction l generalizing n with
  | nil => simp [flatB]
  | cons x l ih =>
    cases n with
    | zero => simp [flatB]
    | succ n =>
      have : 2 * (n + 1) = 2 * n + 1 + 1 := by omega
      rw [this]
      simp only [List.drop_succ_cons, flatB, List.flatMap_cons, List.cons_append, List.nil_append] at ih ⊢
      rw [ih]
theorem Sb.take (h : Sb w B A l) (n : Nat) : Sb w B A (l.take n) := by
  unfold Sb; rw [flatB_take]; exact Rd.take h _
theorem Sb.drop_ {b off : Nat} (h : Sb w B (some ⟨b, off, none⟩) l) (k : Nat) : Sb w B (some ⟨b, off + k * 2, none⟩) (l.drop k) := fun hl => by
  rw [flatB_drop] at hl
  have hl' : flatB l ≠ [] := by intro e; rw [e] at hl; simp at hl
  obtain ⟨b', off', e, hb, hc⟩ := h hl'
  cases e
  refine ⟨b, off + k * 2, rfl, hb, fun j u hj => ?_⟩
  rw [flatB_drop, List.getElem?_drop] at hj
  have := hc (2 * k + j) u hj
  rwa [show off + (2 * k + j) = off + k * 2 + j by omega] at this
end
end Go.Proofs.Ytopddcabaiicgaa

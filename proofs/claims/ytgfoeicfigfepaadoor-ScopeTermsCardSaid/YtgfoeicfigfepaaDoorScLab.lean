/-
  Merged out of: Labs Runes Runes2 LabWalk1 LabIter RangeBox LabRight LabGet.
-/
import Derived.Lib.DecodeNEq
import Derived.Lib.Strings
import Derived.Test.YtgfoeicfigfepaaDoorShelf
import Derived.Test.YtgfoeicfigfepaaDoorRows
import Derived.Lib.OthersKept
import Derived.WalkLawsBesides
import Derived.Shelf.Abstract
import Derived.Shelf.RegionOpen
import Derived.OwnWalkIn
import Derived.TacticsInMore
import Derived.LoopNIn
import Derived.LoopIn
import Derived.Test.YtgfoeicfigfepaaDoorScBase
namespace Go.Proofs.YtgfoeicfigfepaaDoor
section
open Go.RowKit
abbrev Lab := ByteArray × ByteArray
/-- The cells of labels. -/
def flatL (l : List Lab) : List Value := l.flatMap fun x => [.string x.1, .string x.2]
def lth (l : List Lab) (k : Nat) : Lab := (l[k]?).getD (ByteArray.empty, ByteArray.empty)
/-- A slice of labels reads as l. -/
def Lb (w : World) (B : Nat) (A : Option Addr) (l : List Lab) : Prop := Rd w B A (flatL l)
theorem length_flatL (l : List Lab) : (flatL l).length = 2 * l.length := by
  induction l with
  | nil => rfl
  | cons x l ih => simp only [flatL, List.flatMap_cons, List.length_append, List.length_cons, List.length_nil] at ih ⊢; omega
theorem flatL_at : ∀ (l : List Lab) (j : Nat), j < l.length → (flatL l)[j * 2]? = some (.string (lth l j).1) ∧ (flatL l)[j * 2 + 1]? = some (.string (lth l j).2)
  | [], _, h => by simp at h
  | x :: l, 0, _ => by simp [flatL, lth]
  | x :: l, j + 1, h => by
    have := flatL_at l j (by simpa using h)
    have e1 : (flatL (x :: l))[(j + 1) * 2]? = (flatL l)[j * 2]? := by
      show ([_, _] ++ flatL l)[(j + 1) * 2]? = _
      rw [List.getElem?_append_right (by simp; omega)]
      congr 1
      simp; omega
    have e2 : (flatL (x :: l))[(j + 1) * 2 + 1]? = (flatL l)[j * 2 + 1]? := by
      show ([_, _] ++ flatL l)[(j + 1) * 2 + 1]? = _
      rw [List.getElem?_append_right (by simp; omega)]
      congr 1
      simp; omega
    have e3 : lth (x :: l) (j + 1) = lth l j := by simp [lth]
    rw [e1, e2, e3]
    exact this
theorem take_lth_succ {l : List Lab} {k : Nat} (h : k < l.length) : l.take (k + 1) = l.take k ++ [lth l k] := by
  rw [List.take_succ_eq_append_getElem h]; simp [lth, h]
section
variable {w w' : World} {B B' : Nat} {A : Option Addr} {l : List Lab}
theorem Lb.at_ (h : Lb w B A l) (hl : 0 < l.length) : ∃ b off, A = some ⟨b, off, none⟩ ∧ b < B ∧ ∀ j, j < l.length → w.cell? ⟨b, off + j * 2, none⟩ = some (.string (lth l j).1) ∧ w.cell? ⟨b, off + j * 2 + 1, none⟩ = some (.string (lth l j).2) := by
  obtain ⟨b, off, e, hb, hc⟩ := Rd.at_ h (by rw [length_flatL]; omega)
  refine ⟨b, off, e, hb, fun j hj => ?_⟩
  obtain ⟨h1, h2⟩ := flatL_at l j hj
  exact ⟨hc _ _ h1, by rw [Nat.add_assoc]; exact hc _ _ h2⟩
theorem Lb.later {w w' : World} {A : Option Addr} {l : List Lab} (h : Lb w w.heap.size A l) (hb : Below w.heap.size w w') : Lb w' w'.heap.size A l := (Rd.below h hb).more hb.size
theorem flatL_take (l : List Lab) (n : Nat) : flatL (l.take n) = (flatL l).take (2 * n) := by
  induction l generalizing n with
  | nil => simp [flatL]
  | cons x l ih =>
    cases n with
    | zero => simp [flatL]
    | succ n =>
      have : 2 * (n + 1) = 2 * n + 1 + 1 := by omega
      rw [this]
      simp only [List.take_succ_cons, flatL, List.flatMap_cons, List.cons_append, List.nil_append] at ih ⊢
      rw [ih]
theorem flatL_drop (l : List Lab) (n : Nat) : flatL (l.drop n) = (flatL l).drop (2 * n) := by
  induction l generalizing n with
  | nil => simp [flatL]
  | cons x l ih =>
    cases n with
    | zero => simp [flatL]
    | succ n =>
      have : 2 * (n + 1) = 2 * n + 1 + 1 := by omega
      rw [this]
      simp only [List.drop_succ_cons, flatL, List.flatMap_cons, List.cons_append, List.nil_append] at ih ⊢
      rw [ih]
theorem Lb.take (h : Lb w B A l) (n : Nat) : Lb w B A (l.take n) := by
  unfold Lb; rw [flatL_take]; exact Rd.take h _
theorem Lb.drop_ {b off : Nat} (h : Lb w B (some ⟨b, off, none⟩) l) (k : Nat) : Lb w B (some ⟨b, off + k * 2, none⟩) (l.drop k) := fun hl => by
  rw [flatL_drop] at hl
  have hl' : flatL l ≠ [] := by intro e; rw [e] at hl; simp at hl
  obtain ⟨b', off', e, hb, hc⟩ := h hl'
  cases e
  refine ⟨b, off + k * 2, rfl, hb, fun j u hj => ?_⟩
  rw [flatL_drop, List.getElem?_drop] at hj
  have := hc (2 * k + j) u hj
  rwa [show off + (2 * k + j) = off + k * 2 + j by omega] at this
end
end
section
/-- The rune at a text's head, and how many bytes it has (at a wrong one: 65533, 1). -/
def decL (l : List UInt8) : Nat × Nat := Lib.decodeN l.length (l.getD 0 0).toNat (l.getD 1 0).toNat (l.getD 2 0).toNat (l.getD 3 0).toNat
/-- The bytes of a text. -/
def tx (s : ByteArray) : List UInt8 := s.data.toList
theorem get_drop (s : ByteArray) (i k : Nat) : s.get! (i + k) = ((tx s).drop i).getD k 0 := by
  rw [List.getD_eq_getElem?_getD, List.getElem?_drop, tx, Array.getElem?_toList]
  show s.data.getD (i + k) default = _
  rw [Array.getD_eq_getD_getElem?]
  rfl
theorem dec_at (s : ByteArray) (i : Nat) : Utf8.decode s i = decL ((tx s).drop i) := by
  rw [Lib.decode_at, decL]
  have h0 := get_drop s i 0
  rw [Nat.add_zero] at h0
  rw [h0, get_drop, get_drop, get_drop, List.length_drop, tx, Array.length_toList]
  rfl
theorem decN_bd (n b0 b1 b2 b3 : Nat) (h0 : b0 < 256) : (Lib.decodeN n b0 b1 b2 b3).1 ≤ 1114111 ∧ 1 ≤ (Lib.decodeN n b0 b1 b2 b3).2 ∧ (Lib.decodeN n b0 b1 b2 b3).2 ≤ 4 ∧ (1 ≤ n → (Lib.decodeN n b0 b1 b2 b3).2 ≤ n) := by
  unfold Lib.decodeN
  repeat' split
  all_goals (simp only; omega)
theorem decL_bd (l : List UInt8) : (decL l).1 ≤ 1114111 ∧ 1 ≤ (decL l).2 ∧ (decL l).2 ≤ 4 ∧ (l ≠ [] → (decL l).2 ≤ l.length) := by
  have h := decN_bd l.length (l.getD 0 0).toNat (l.getD 1 0).toNat (l.getD 2 0).toNat (l.getD 3 0).toNat (UInt8.toNat_lt _)
  refine ⟨h.1, h.2.1, h.2.2.1, fun hn => h.2.2.2 ?_⟩
  rcases l with _ | ⟨x, l⟩
  · exact absurd rfl hn
  · simp
def cpN : Nat → List UInt8 → List (Nat × Nat)
  | 0, _ => []
  | n + 1, l => if l = [] then [] else decL l :: cpN n (l.drop (decL l).2)
/-- A text's runes, as a range over it tells them. -/
def cp (l : List UInt8) : List (Nat × Nat) := cpN l.length l
theorem cpN_nil (n : Nat) : cpN n [] = [] := by cases n <;> simp [cpN]
theorem cpN_more : ∀ (n m : Nat) (l : List UInt8), l.length ≤ n → l.length ≤ m → cpN n l = cpN m l
  | 0, m, l, h, _ => by
    have : l = [] := List.eq_nil_of_length_eq_zero (by omega)
    subst this; rw [cpN_nil, cpN_nil]
  | n + 1, 0, l, _, h => by
    have : l = [] := List.eq_nil_of_length_eq_zero (by omega)
    subst this; rw [cpN_nil, cpN_nil]
  | n + 1, m + 1, l, h, k => by
    unfold cpN
    split
    · rfl
    · have hb := decL_bd l
      rw [cpN_more n m (l.drop (decL l).2) (by rw [List.length_drop]; omega) (by rw [List.length_drop]; omega)]
theorem cp_nil : cp [] = [] := rfl
theorem cp_cons {l : List UInt8} (h : l ≠ []) : cp l = decL l :: cp (l.drop (decL l).2) := by
  have hb := decL_bd l
  have hl : 0 < l.length := List.length_pos_iff.2 h
  unfold cp
  obtain ⟨n, hn⟩ : ∃ n, l.length = n + 1 := ⟨l.length - 1, by omega⟩
  conv => lhs; rw [hn]; unfold cpN
  rw [if_neg h, cpN_more n _ _ (by rw [List.length_drop]; omega) (Nat.le_refl _)]
/-- Is a rune that a range told a right one? -/
def okR (x : Nat × Nat) : Bool := !(x.1 == 65533 && x.2 == 1)
/-- Is a text one of right runes? -/
def validL (l : List UInt8) : Bool := (cp l).all okR
theorem cp_length (l : List UInt8) : (cp l).length ≤ l.length := by
  have : ∀ n l, (cpN n l).length ≤ n := by
    intro n
    induction n with
    | zero => intro l; simp [cpN]
    | succ n ih => intro l; unfold cpN; split
                   · simp
                   · rw [List.length_cons]; have := ih (l.drop (decL l).2); omega
  exact this _ _
theorem tx_len (s : ByteArray) : (tx s).length = s.size := Array.length_toList
theorem tx_toList (s : ByteArray) : s.toList = tx s := Lib.toList_data s
theorem tx_inj {a b : ByteArray} (h : tx a = tx b) : a = b := by
  obtain ⟨⟨a⟩⟩ := a
  obtain ⟨⟨b⟩⟩ := b
  have h : a = b := h
  rw [h]
/-- What Runes tells. -/
def runesF (l : List UInt8) : Int × Bool := if validL l = true then (((cp l).length : Nat), true) else (0, false)
def nameRune (x : Nat × Nat) : Bool := decide (97 ≤ x.1) && decide (x.1 ≤ 122)
def valueRune (x : Nat × Nat) : Bool := decide (32 ≤ x.1) && x.1 != 127
def nameB (l : List UInt8) : Bool := !(l == []) && decide (l.length ≤ 12) && (cp l).all nameRune
def valueB (l : List UInt8) : Bool := validL l && decide ((cp l).length ≤ 24) && (cp l).all valueRune
end
section
set_option linter.unusedVariables false
set_option linter.unusedSimpArgs false
theorem decN_more {n n' b0 b1 b2 b3 c1 c2 c3 : Nat} (hn : n ≤ n') (h1 : 1 < n → c1 = b1) (h2 : 2 < n → c2 = b2) (h3 : 3 < n → c3 = b3) (h : Lib.decodeN n b0 b1 b2 b3 ≠ (65533, 1)) : Lib.decodeN n' b0 c1 c2 c3 = Lib.decodeN n b0 b1 b2 b3 := by
  by_cases a0 : b0 < 128
  · simp [Lib.decodeN, a0]
  by_cases a1 : b0 / 32 = 6
  · have a2 : ¬ b0 / 16 = 14 := by omega
    have a3 : ¬ b0 / 8 = 30 := by omega
    by_cases k1 : 1 < n ∧ b1 / 64 = 2
    · have e1 := h1 k1.1
      subst e1
      have k1' : 1 < n' ∧ c1 / 64 = 2 := ⟨by omega, k1.2⟩
      simp only [Lib.decodeN, a0, a1, k1, k1', if_true, if_false, and_self, true_and]
    · exact absurd (by simp only [Lib.decodeN, a0, a1, a2, a3, k1, if_false, and_false, false_and]) h
  by_cases a2 : b0 / 16 = 14
  · have a3 : ¬ b0 / 8 = 30 := by omega
    by_cases k1 : (1 < n ∧ b1 / 64 = 2) ∧ (2 < n ∧ b2 / 64 = 2)
    · have e1 := h1 k1.1.1
      have e2 := h2 k1.2.1
      subst e1 e2
      have k1' : (1 < n' ∧ c1 / 64 = 2) ∧ (2 < n' ∧ c2 / 64 = 2) := ⟨⟨by omega, k1.1.2⟩, ⟨by omega, k1.2.2⟩⟩
      simp only [Lib.decodeN, a0, a1, a2, k1, k1', if_true, if_false, and_self, true_and, false_and]
    · exact absurd (by simp only [Lib.decodeN, a0, a1, a2, a3, k1, if_false, and_false, false_and, true_and]) h
  by_cases a3 : b0 / 8 = 30
  · by_cases k1 : (1 < n ∧ b1 / 64 = 2) ∧ (2 < n ∧ b2 / 64 = 2) ∧ (3 < n ∧ b3 / 64 = 2)
    · have e1 := h1 k1.1.1
      have e2 := h2 k1.2.1.1
      have e3 := h3 k1.2.2.1
      subst e1 e2 e3
      have k1' : (1 < n' ∧ c1 / 64 = 2) ∧ (2 < n' ∧ c2 / 64 = 2) ∧ (3 < n' ∧ c3 / 64 = 2) := ⟨⟨by omega, k1.1.2⟩, ⟨by omega, k1.2.1.2⟩, ⟨by omega, k1.2.2.2⟩⟩
      simp only [Lib.decodeN, a0, a1, a2, a3, k1, k1', if_true, if_false, and_self, true_and, false_and]
    · exact absurd (by simp only [Lib.decodeN, a0, a1, a2, a3, k1, if_false, and_false, false_and, true_and]) h
  exact absurd (by simp only [Lib.decodeN, a0, a1, a2, a3, if_false, false_and]) h
/-- What is wrong stays wrong, where no continuation comes behind. -/
theorem decN_bad {n n' b0 b1 b2 b3 c1 c2 c3 : Nat} (hn : n ≤ n') (hp : 1 ≤ n) (h1 : 1 < n → c1 = b1) (h2 : 2 < n → c2 = b2) (h3 : 3 < n → c3 = b3) (g1 : n = 1 → n < n' → ¬ c1 / 64 = 2) (g2 : n = 2 → n < n' → ¬ c2 / 64 = 2) (g3 : n = 3 → n < n' → ¬ c3 / 64 = 2) (h : Lib.decodeN n b0 b1 b2 b3 = (65533, 1)) : Lib.decodeN n' b0 c1 c2 c3 = (65533, 1) := by
  by_cases a0 : b0 < 128
  · simp only [Lib.decodeN, a0, if_true] at h ⊢
    exact h
  by_cases a1 : b0 / 32 = 6
  · have a2 : ¬ b0 / 16 = 14 := by omega
    have a3 : ¬ b0 / 8 = 30 := by omega
    by_cases k1 : 1 < n' ∧ c1 / 64 = 2
    · have hn1 : 1 < n := by
        rcases Nat.lt_or_ge 1 n with h | h
        · exact h
        · exact absurd k1.2 (g1 (by omega) (by omega))
      have e1 := h1 hn1
      subst e1
      have k1' : 1 < n ∧ c1 / 64 = 2 := ⟨hn1, k1.2⟩
      simp only [Lib.decodeN, a0, a1, k1, k1', if_true, if_false, and_self, true_and] at h ⊢
      exact h
    · simp only [Lib.decodeN, a0, a1, a2, a3, k1, if_false, and_false, false_and]
  by_cases a2 : b0 / 16 = 14
  · have a3 : ¬ b0 / 8 = 30 := by omega
    by_cases k1 : (1 < n' ∧ c1 / 64 = 2) ∧ (2 < n' ∧ c2 / 64 = 2)
    · have hn1 : 2 < n := by
        rcases Nat.lt_or_ge 2 n with h | h
        · exact h
        · by_cases e : n = 1
          · exact absurd k1.1.2 (g1 e (by omega))
          · exact absurd k1.2.2 (g2 (by omega) (by omega))
      have e1 := h1 (by omega)
      have e2 := h2 hn1
      subst e1 e2
      have k1' : (1 < n ∧ c1 / 64 = 2) ∧ (2 < n ∧ c2 / 64 = 2) := ⟨⟨by omega, k1.1.2⟩, ⟨by omega, k1.2.2⟩⟩
      simp only [Lib.decodeN, a0, a1, a2, k1, k1', if_true, if_false, and_self, true_and, false_and] at h ⊢
      exact h
    · simp only [Lib.decodeN, a0, a1, a2, a3, k1, if_false, and_false, false_and, true_and]
  by_cases a3 : b0 / 8 = 30
  · by_cases k1 : (1 < n' ∧ c1 / 64 = 2) ∧ (2 < n' ∧ c2 / 64 = 2) ∧ (3 < n' ∧ c3 / 64 = 2)
    · have hn1 : 3 < n := by
        rcases Nat.lt_or_ge 3 n with h | h
        · exact h
        · by_cases e : n = 1
          · exact absurd k1.1.2 (g1 e (by omega))
          · by_cases e2 : n = 2
            · exact absurd k1.2.1.2 (g2 e2 (by omega))
            · exact absurd k1.2.2.2 (g3 (by omega) (by omega))
      have e1 := h1 (by omega)
      have e2 := h2 (by omega)
      have e3 := h3 hn1
      subst e1 e2 e3
      have k1' : (1 < n ∧ c1 / 64 = 2) ∧ (2 < n ∧ c2 / 64 = 2) ∧ (3 < n ∧ c3 / 64 = 2) := ⟨⟨by omega, k1.1.2⟩, ⟨by omega, k1.2.1.2⟩, ⟨by omega, k1.2.2.2⟩⟩
      simp only [Lib.decodeN, a0, a1, a2, a3, k1, k1', if_true, if_false, and_self, true_and, false_and] at h ⊢
      exact h
    · simp only [Lib.decodeN, a0, a1, a2, a3, k1, if_false, and_false, false_and, true_and]
  simp only [Lib.decodeN, a0, a1, a2, a3, if_false, false_and]
theorem getD_left {a b : List UInt8} {i : Nat} (h : i < a.length) : (a ++ b).getD i 0 = a.getD i 0 := by
  rw [List.getD_eq_getElem?_getD, List.getD_eq_getElem?_getD, List.getElem?_append_left h]
theorem getD_right {a b : List UInt8} {i : Nat} (h : i = a.length) : (a ++ b).getD i 0 = b.getD 0 0 := by
  rw [List.getD_eq_getElem?_getD, List.getD_eq_getElem?_getD, List.getElem?_append_right (by omega), h, Nat.sub_self]
theorem okR_iff (x : Nat × Nat) : okR x = false ↔ x = (65533, 1) := by
  obtain ⟨a, b⟩ := x
  simp [okR]
theorem dec_ok_append {a : List UInt8} (b : List UInt8) (ha : a ≠ []) (h : okR (decL a) = true) : decL (a ++ b) = decL a := by
  have hl : 0 < a.length := List.length_pos_iff.2 ha
  unfold decL
  rw [getD_left hl]
  refine decN_more (by rw [List.length_append]; omega) (fun h => by rw [getD_left h]) (fun h => by rw [getD_left h]) (fun h => by rw [getD_left h]) (fun e => ?_)
  have := (okR_iff (decL a)).2 e
  rw [h] at this
  cases this
/-- A right text begins with no continuation. -/
theorem valid_head {b : List UInt8} (hb : b ≠ []) (h : okR (decL b) = true) : ¬ (b.getD 0 0).toNat / 64 = 2 := by
  intro e
  have : okR (decL b) = false := by
    rw [okR_iff]
    unfold decL
    have a0 : ¬ (b.getD 0 0).toNat < 128 := by omega
    have a1 : ¬ (b.getD 0 0).toNat / 32 = 6 := by omega
    have a2 : ¬ (b.getD 0 0).toNat / 16 = 14 := by omega
    have a3 : ¬ (b.getD 0 0).toNat / 8 = 30 := by omega
    simp only [Lib.decodeN, a0, a1, a2, a3, if_false, false_and]
  rw [h] at this
  cases this
theorem dec_bad_append {a b : List UInt8} (ha : a ≠ []) (hb : b ≠ [] → okR (decL b) = true) (h : okR (decL a) = false) : okR (decL (a ++ b)) = false := by
  have hl : 0 < a.length := List.length_pos_iff.2 ha
  rw [okR_iff] at h ⊢
  unfold decL at h ⊢
  rw [getD_left hl]
  have hc : a.length < (a ++ b).length → ¬ (b.getD 0 0).toNat / 64 = 2 := fun hlt => by
    have hbn : b ≠ [] := by rintro rfl; simp at hlt
    exact valid_head hbn (hb hbn)
  refine decN_bad (by rw [List.length_append]; omega) hl (fun h => by rw [getD_left h]) (fun h => by rw [getD_left h]) (fun h => by rw [getD_left h]) (fun e k => by rw [getD_right e.symm]; exact hc k) (fun e k => by rw [getD_right e.symm]; exact hc k) (fun e k => by rw [getD_right e.symm]; exact hc k) h
theorem valid_cons {l : List UInt8} (h : l ≠ []) : validL l = (okR (decL l) && validL (l.drop (decL l).2)) := by
  unfold validL; rw [cp_cons h]; rfl
theorem drop_append_le {a b : List UInt8} {n : Nat} (h : n ≤ a.length) : (a ++ b).drop n = a.drop n ++ b := List.drop_append_of_le_length h
theorem cp_append : ∀ (n : Nat) (a b : List UInt8), a.length ≤ n → validL a = true → cp (a ++ b) = cp a ++ cp b
  | 0, a, b, h, _ => by
    have : a = [] := List.eq_nil_of_length_eq_zero (by omega)
    subst this; rfl
  | n + 1, a, b, h, hv => by
    by_cases ha : a = []
    · subst ha; rfl
    · rw [valid_cons ha, Bool.and_eq_true] at hv
      have hd := dec_ok_append b ha hv.1
      have hbd := decL_bd a
      have hle := hbd.2.2.2 ha
      rw [cp_cons (by simp [ha]), cp_cons ha, hd, drop_append_le hle, cp_append n _ _ (by rw [List.length_drop]; omega) hv.2]
      rfl
theorem valid_append {a b : List UInt8} (h : validL a = true) : validL (a ++ b) = validL b := by
  have e := cp_append a.length a b (Nat.le_refl _) h
  unfold validL at h ⊢
  rw [e, List.all_append, h, Bool.true_and]
theorem valid_bad : ∀ (n : Nat) (a b : List UInt8), a.length ≤ n → validL a = false → validL b = true → validL (a ++ b) = false
  | 0, a, b, h, hv, _ => by
    have : a = [] := List.eq_nil_of_length_eq_zero (by omega)
    subst this; simp [validL, cp_nil] at hv
  | n + 1, a, b, h, hv, hb => by
    by_cases ha : a = []
    · subst ha; simp [validL, cp_nil] at hv
    · rw [valid_cons (by simp [ha])]
      rw [valid_cons ha] at hv
      cases hd : okR (decL a) with
      | true =>
        rw [hd, Bool.true_and] at hv
        have hle := (decL_bd a).2.2.2 ha
        have hbd := decL_bd a
        rw [dec_ok_append b ha hd, hd, Bool.true_and, drop_append_le hle]
        exact valid_bad n _ _ (by rw [List.length_drop]; omega) hv hb
      | false =>
        rw [dec_bad_append ha (fun hbn => by rw [valid_cons hbn, Bool.and_eq_true] at hb; exact hb.1) hd]
        rfl
/-- Two texts, one behind the other. -/
theorem runes_append (a b : List UInt8) : (validL a = true → validL b = true → runesF (a ++ b) = ((runesF a).1 + (runesF b).1, true)) ∧ (validL a = true → validL b = false → runesF (a ++ b) = (0, false)) ∧ (validL a = false → validL b = true → validL (a ++ b) = false) := by
  refine ⟨fun ha hb => ?_, fun ha hb => ?_, fun ha hb => valid_bad _ a b (Nat.le_refl _) ha hb⟩
  · rw [runesF, valid_append ha, if_pos hb, cp_append _ a b (Nat.le_refl _) ha, runesF, if_pos ha, runesF, if_pos hb, List.length_append]
    simp
  · rw [runesF, valid_append ha, hb, if_neg (by simp)]
end
section
open Go.RowKit
set_option linter.unusedVariables false
set_option linter.unusedSimpArgs false
/-- The two tables of unicode/utf8 lie as Go lays them. -/
def Tb (w : World) : Prop := Lib.Utf8Tabs 0 1 w
theorem Tb.later {w w' : World} (h : Tb w) (hb : Below w.heap.size w w') : Tb w' := Utf8Tabs_below h hb
theorem decode_any (s : ByteArray) (w : World) (hs : 0 < s.size) (hT : Tb w) :
    Calls Tryd.prog 13 #[.string s] w fun e w' => e = .returned (.tuple #[.int .i32 (decL (tx s)).1, .int .i64 (decL (tx s)).2]) ∧ Below w.heap.size w w' := by
  have h := Tryd.utf8_DecodeRuneInString s w hT
  rw [Lib.decodeGo, if_neg (by omega), dec_at] at h
  exact h
/-- An iterator over a text stands at a place; all that was ahead of the call stands. -/
def It (w : World) (k : Nat) (s : ByteArray) (pos : Nat) (wr : World) : Prop := wr.heap[k]? = some (.stringIter s pos) ∧ Below w.heap.size w wr
theorem It.mk0 (w : World) (s : ByteArray) : It w w.heap.size s 0 (w.iter s 0) := ⟨World.iter_heap w s 0, below_al (below_0 w) _⟩
theorem It.move {w wr : World} {k : Nat} {s : ByteArray} {pos : Nat} (h : It w k s pos wr) (hk : w.heap.size ≤ k) (q : Nat) : It w k s q (wr.iterAt k s q) := ⟨Lib.iterAt_heap wr k s pos q h.1, Lib.below_iterAt h.2 hk s q⟩
theorem It.later {w wr w' : World} {k : Nat} {s : ByteArray} {pos : Nat} (h : It w k s pos wr) (hb : Below wr.heap.size wr w') : It w k s pos w' := ⟨(hb.block k (Array.getElem?_eq_some_iff.1 h.1).1).trans h.1, Below.two h.2 hb⟩
theorem It.pos {w wr : World} {k : Nat} {s : ByteArray} {pos : Nat} (h : It w k s pos wr) : wr.iterPos k = pos := by simp [World.iterPos, h.1]
/-- What a range over a text has gone through. -/
structure Went (s : ByteArray) (pos : Nat) (pre : List (Nat × Nat)) : Prop where
  le : pos ≤ s.size
  is : cp (tx s) = pre ++ cp ((tx s).drop pos)
theorem Went.zero (s : ByteArray) : Went s 0 [] := ⟨Nat.zero_le _, rfl⟩
theorem drop_ne {s : ByteArray} {pos : Nat} (h : pos < s.size) : (tx s).drop pos ≠ [] := by
  intro e
  have := congrArg List.length e
  rw [List.length_drop, tx_len] at this
  simp at this; omega
theorem Went.next {s : ByteArray} {pos : Nat} {pre : List (Nat × Nat)} (h : Went s pos pre) (hp : pos < s.size) : Went s (pos + (decL ((tx s).drop pos)).2) (pre ++ [decL ((tx s).drop pos)]) := by
  have hb := (decL_bd ((tx s).drop pos)).2.2.2 (drop_ne hp)
  rw [List.length_drop, tx_len] at hb
  refine ⟨by omega, ?_⟩
  rw [h.is, cp_cons (drop_ne hp), List.drop_drop, List.append_assoc]
  rfl
theorem Went.done {s : ByteArray} {pos : Nat} {pre : List (Nat × Nat)} (h : Went s pos pre) (hp : ¬ pos < s.size) : cp (tx s) = pre := by
  have : (tx s).drop pos = [] := List.drop_eq_nil_of_le (by rw [tx_len]; have := h.le; omega)
  rw [h.is, this, cp_nil, List.append_nil]
theorem Went.len {s : ByteArray} {pos : Nat} {pre : List (Nat × Nat)} (h : Went s pos pre) : pre.length ≤ s.size := by
  have := cp_length (tx s)
  rw [h.is, List.length_append, tx_len] at this
  omega
theorem runesF_bad {s : ByteArray} {pos : Nat} {pre : List (Nat × Nat)} (h : Went s pos pre) (hp : pos < s.size) (hb : okR (decL ((tx s).drop pos)) = false) : runesF (tx s) = (0, false) := by
  rw [runesF, if_neg]
  unfold validL
  rw [(h.next hp).is]
  simp [hb]
theorem runesF_ok {s : ByteArray} {pos : Nat} {pre : List (Nat × Nat)} (h : Went s pos pre) (hp : ¬ pos < s.size) (hb : pre.all okR = true) : runesF (tx s) = ((pre.length : Int), true) := by
  rw [runesF, validL, h.done hp, if_pos hb]
theorem ret_two {a b : Int} {p q : Bool} (h : (a, p) = (b, q)) : Ending.returned (.tuple #[.int .i64 a, .bool p]) = .returned (.tuple #[.int .i64 b, .bool q]) := by
  rw [Prod.mk.injEq] at h; rw [h.1, h.2]
set_option maxRecDepth 100000 in
set_option maxHeartbeats 2000000 in
theorem runes_any (s : ByteArray) (w : World) (hs : s.size ≤ 4294967296) (hT : Tb w) :
    Calls Tryd.prog 6 #[.string s] w fun e w' => e = .returned (.tuple #[.int .i64 (runesF (tx s)).1, .bool (runesF (tx s)).2]) ∧ Below w.heap.size w w' := by
  have HT := Lib.hid hT
  clear hT
  go_enter Tryd.func6, Tryd.ntmps6
  go_wp2_with fail
  go_loopw [4] (fun n wr => ∃ (pos : Nat) (pre : List (Nat × Nat)), n = .int .i64 pre.length ∧ Hid (Went s pos pre) ∧ Hid (pre.all okR = true) ∧ Hid (It w w.heap.size s pos wr)) (fun _ wr => s.size - wr.iterPos w.heap.size)
  case atStart => exact ⟨0, [], rfl, Went.zero s, rfl, It.mk0 w s⟩
  case round =>
    obtain ⟨pos, pre, rfl, HW, HO, HI⟩ := hrel
    have hlen := HW.out.len
    have hposm := HI.out.pos
    have HP := Lib.hid hposm
    clear hposm
    by_cases hp : pos < s.size
    · have hnx : ∀ ty, (Instr.next (.pointer (some ⟨w.heap.size, 0, none⟩)) true ty).run Tryd.prog wr = _ := fun ty => Lib.run_next_any_at wr w.heap.size s pos ty HI.out.1 hp
      rw [dec_at] at hnx
      have HI2 := Lib.hid (HI.out.move (Nat.le_refl _) (pos + (decL ((tx s).drop pos)).2))
      have HW2 := Lib.hid (HW.out.next hp)
      obtain ⟨d1, d2, d3, _⟩ := decL_bd ((tx s).drop pos)
      have hB : Hid (okR (decL ((tx s).drop pos)) = false → runesF (tx s) = (0, false)) := fun h => runesF_bad HW.out hp h
      have HX : Hid (tx (s.extract pos s.size) = (tx s).drop pos) := by
        show (s.extract pos s.size).data.toList = s.data.toList.drop pos
        rw [Lib.extract_data, List.take_of_length_le]
        rw [List.length_drop]
        exact Nat.le_of_eq (congrArg (· - pos) (tx_len s))
      have hxs : 0 < (s.extract pos s.size).size := by rw [← tx_len, HX.out, List.length_drop, tx_len]; omega
      have QD : Hid (∀ w1, Tb w1 → Calls Tryd.prog 13 #[.string (s.extract pos s.size)] w1 fun e w' => e = .returned (.tuple #[.int .i32 (decL ((tx s).drop pos)).1, .int .i64 (decL ((tx s).drop pos)).2]) ∧ Below w1.heap.size w1 w') := fun w1 h => by
        have := decode_any (s.extract pos s.size) w1 hxs h
        rw [HX.out] at this
        exact this
      generalize decL ((tx s).drop pos) = d at *
      have HT2 := Lib.hid (HT.out.later HI2.out.2)
      have hp2 : (0 : Int) ≤ (pos : Int) := by omega
      have hp3 : (pos : Int) ≤ (s.size : Int) := by omega
      generalize hwi : wr.iterAt w.heap.size s (pos + d.2) = wi at *
      clear hwi
      by_cases c1 : d.1 = 65533
      · have e1 : ((d.1 : Int) == 65533) = true := by simp; omega
        by_cases c2 : d.2 = 1
        · have e2 : ((d.2 : Int) == 1) = true := by simp; omega
          have HR := Lib.hid (hB.out (by simp [okR, c1, c2]))
          clear c1 c2 hB
          go_wp2_with fail
          refine (QD.out _ HT2.out).mono ?_
          rintro e w1 ⟨rfl, hb1⟩
          go_wp2_with fail
          go_ret2
          exact ⟨ret_two (by rw [HR.out]), Below.two HI2.out.2 hb1⟩
        · have e2 : ((d.2 : Int) == 1) = false := by simp; omega
          have HO2 : Hid ((pre ++ [d]).all okR = true) := by show _ = _; rw [List.all_append, HO.out]; simp [okR, c2]
          clear c1 c2 hB
          go_wp2_with fail
          refine (QD.out _ HT2.out).mono ?_
          rintro e w1 ⟨rfl, hb1⟩
          have HI3 := Lib.hid (HI2.out.later hb1)
          clear hb1
          go_wp2_with fail
          go_roundw
          case rel => exact ⟨pos + d.2, pre ++ [d], by rw [List.length_append]; go_num, HW2.out, HO2.out, HI3.out⟩
          case measure => rw [HI3.out.pos, HP.out]; omega
      · have e1 : ((d.1 : Int) == 65533) = false := by simp; omega
        have HO2 : Hid ((pre ++ [d]).all okR = true) := by show _ = _; rw [List.all_append, HO.out]; simp [okR, c1]
        clear c1 hB
        go_wp2_with fail
        go_roundw
        case rel => exact ⟨pos + d.2, pre ++ [d], by rw [List.length_append]; go_num, HW2.out, HO2.out, HI2.out⟩
        case measure => rw [HI2.out.pos, HP.out]; omega
    · have hnx : ∀ ty, (Instr.next (.pointer (some ⟨w.heap.size, 0, none⟩)) true ty).run Tryd.prog wr = _ := fun ty => Lib.run_next_end_at wr w.heap.size s pos ty HI.out.1 hp
      have HR := Lib.hid (runesF_ok HW.out hp HO.out)
      go_wp2_with fail
      go_ret2
      exact ⟨ret_two (by rw [HR.out]), HI.out.2⟩
theorem isNameRune_any (x : Nat × Nat) (w : World) (hx : x.1 ≤ 1114111) :
    Calls Tryd.prog 30 #[.int .i32 x.1] w fun e w' => e = .returned (.bool (nameRune x)) ∧ w = w' := by
  by_cases h1 : (97 : Int) ≤ (x.1 : Int)
  · have d1 : decide ((97 : Int) ≤ (x.1 : Int)) = true := by simp [h1]
    go_enter Tryd.func30, Tryd.ntmps30
    go_wp2_with fail
    go_ret
    exact ⟨ret_bool (by rw [Bool.eq_iff_iff]; simp [nameRune]; omega), rfl⟩
  · have d1 : decide ((97 : Int) ≤ (x.1 : Int)) = false := by simp; omega
    go_enter Tryd.func30, Tryd.ntmps30
    go_wp2_with fail
    go_ret
    exact ⟨ret_bool (by rw [Bool.eq_iff_iff]; simp [nameRune]; omega), rfl⟩
theorem isValueRune_any (x : Nat × Nat) (w : World) (hx : x.1 ≤ 1114111) :
    Calls Tryd.prog 31 #[.int .i32 x.1] w fun e w' => e = .returned (.bool (valueRune x)) ∧ w = w' := by
  by_cases h1 : (32 : Int) ≤ (x.1 : Int)
  · have d1 : decide ((32 : Int) ≤ (x.1 : Int)) = true := by simp [h1]
    go_enter Tryd.func31, Tryd.ntmps31
    go_wp2_with fail
    go_ret
    exact ⟨ret_bool (by rw [Bool.eq_iff_iff]; simp [valueRune]; omega), rfl⟩
  · have d1 : decide ((32 : Int) ≤ (x.1 : Int)) = false := by simp; omega
    go_enter Tryd.func31, Tryd.ntmps31
    go_wp2_with fail
    go_ret
    exact ⟨ret_bool (by rw [Bool.eq_iff_iff]; simp [valueRune]; omega), rfl⟩
/-- All of a text is of good runes just if .. -/
theorem all_bad {s : ByteArray} {pos : Nat} {pre : List (Nat × Nat)} {p : Nat × Nat → Bool} (h : Went s pos pre) (hp : pos < s.size) (hb : p (decL ((tx s).drop pos)) = false) : (cp (tx s)).all p = false := by
  rw [(h.next hp).is]; simp [hb]
theorem isName_short (s : ByteArray) (w : World) (h : (tx s == [] || !decide ((tx s).length ≤ 12)) = true) :
    Calls Tryd.prog 20 #[.string s] w fun e w' => e = .returned (.bool (nameB (tx s))) ∧ Below w.heap.size w w' := by
  by_cases h1 : tx s = []
  · have e1 : (s.toList == []) = true := by rw [tx_toList, h1]; rfl
    have e2 : s.toList = [] := by rw [tx_toList, h1]
    go_enter Tryd.func20, Tryd.ntmps20
    go_wp2_with fail
    go_ret
    exact ⟨ret_bool (by simp [nameB, h1]), below_0 _⟩
  · have e1 : s.toList.isEmpty = false := by rw [tx_toList]; cases e : tx s with
      | nil => exact absurd e h1
      | cons x l => rfl
    have e1' : ¬ s.toList = [] := by rw [tx_toList]; exact h1
    have e1'' : (s.toList == []) = false := by simpa using e1'
    have e2 : 12 < s.size := by rw [← tx_len]; simp [h1] at h; exact h
    have e3 : decide ((12 : Int) < (s.size : Int)) = true := by simp; omega
    have e4 : decide (12 < s.size) = true := by simp; omega
    go_enter Tryd.func20, Tryd.ntmps20
    go_wp2_with fail
    go_ret
    refine ⟨ret_bool ?_, below_0 _⟩
    have : decide ((tx s).length ≤ 12) = false := by rw [tx_len]; simp; omega
    simp [nameB, this]
set_option maxRecDepth 100000 in
set_option maxHeartbeats 2000000 in
theorem isName_any (s : ByteArray) (w : World) :
    Calls Tryd.prog 20 #[.string s] w fun e w' => e = .returned (.bool (nameB (tx s))) ∧ Below w.heap.size w w' := by
  cases hsh : (tx s == [] || !decide ((tx s).length ≤ 12)) with
  | true => exact isName_short s w hsh
  | false =>
    have h1 : tx s ≠ [] := by intro e; rw [e] at hsh; simp at hsh
    have e1 : s.toList.isEmpty = false := by rw [tx_toList]; cases e : tx s with
      | nil => exact absurd e h1
      | cons x l => rfl
    have e1' : ¬ s.toList = [] := by rw [tx_toList]; exact h1
    have e1'' : (s.toList == []) = false := by simpa using e1'
    have e2 : s.size ≤ 12 := by rw [← tx_len]; simp at hsh; exact hsh.2
    have e3 : decide ((12 : Int) < (s.size : Int)) = false := by simp; omega
    have e4 : decide (12 < s.size) = false := by simp; omega
    have HN : Hid (nameB (tx s) = (cp (tx s)).all nameRune) := by
      show _ = _
      have : decide ((tx s).length ≤ 12) = true := by rw [tx_len]; simp; omega
      rw [nameB, this]; simp [h1]
    have HE1 := Lib.hid e1'
    clear hsh h1
    go_enter Tryd.func20, Tryd.ntmps20
    go_wp2_with fail
    go_loopw [] (fun wr => ∃ (pos : Nat) (pre : List (Nat × Nat)), Hid (Went s pos pre) ∧ Hid (pre.all nameRune = true) ∧ Hid (It w w.heap.size s pos wr)) (fun wr => s.size - wr.iterPos w.heap.size)
    case atStart => exact ⟨0, [], Went.zero s, rfl, It.mk0 w s⟩
    case round =>
      obtain ⟨pos, pre, HW, HO, HI⟩ := hrel
      have HP := Lib.hid HI.out.pos
      by_cases hp : pos < s.size
      · have hnx : ∀ ty, (Instr.next (.pointer (some ⟨w.heap.size, 0, none⟩)) true ty).run Tryd.prog wr = _ := fun ty => Lib.run_next_any_at wr w.heap.size s pos ty HI.out.1 hp
        rw [dec_at] at hnx
        have HI2 := Lib.hid (HI.out.move (Nat.le_refl _) (pos + (decL ((tx s).drop pos)).2))
        have HW2 := Lib.hid (HW.out.next hp)
        obtain ⟨d1, d2, d3, _⟩ := decL_bd ((tx s).drop pos)
        have hB : Hid (nameRune (decL ((tx s).drop pos)) = false → (cp (tx s)).all nameRune = false) := fun h => all_bad HW.out hp h
        generalize decL ((tx s).drop pos) = d at *
        generalize hwi : wr.iterAt w.heap.size s (pos + d.2) = wi at *
        clear hwi
        have QN : Hid (∀ w1, Calls Tryd.prog 30 #[.int .i32 d.1] w1 fun e w' => e = .returned (.bool (nameRune d)) ∧ w1 = w') := fun w1 => isNameRune_any d w1 d1
        cases hn : nameRune d with
        | true =>
          rw [hn] at QN
          have HO2 : Hid ((pre ++ [d]).all nameRune = true) := by show _ = _; rw [List.all_append, HO.out]; simp [hn]
          clear hn hB
          go_wp2_with fail
          refine (QN.out _).mono ?_
          rintro e w1 ⟨rfl, rfl⟩
          go_wp2_with fail
          go_roundw
          case rel => exact ⟨pos + d.2, pre ++ [d], HW2.out, HO2.out, HI2.out⟩
          case measure => rw [HI2.out.pos, HP.out]; omega
        | false =>
          rw [hn] at QN
          have HR := Lib.hid (hB.out hn)
          clear hn hB
          go_wp2_with fail
          refine (QN.out _).mono ?_
          rintro e w1 ⟨rfl, rfl⟩
          go_wp2_with fail
          go_ret
          exact ⟨ret_bool (by rw [HN.out, HR.out]), HI2.out.2⟩
      · have hnx : ∀ ty, (Instr.next (.pointer (some ⟨w.heap.size, 0, none⟩)) true ty).run Tryd.prog wr = _ := fun ty => Lib.run_next_end_at wr w.heap.size s pos ty HI.out.1 hp
        have HR : Hid ((cp (tx s)).all nameRune = true) := by show _ = _; rw [HW.out.done hp, HO.out]
        go_wp2_with fail
        go_ret
        exact ⟨ret_bool (by rw [HN.out, HR.out]), HI.out.2⟩
set_option maxRecDepth 100000 in
set_option maxHeartbeats 2000000 in
theorem isValue_any (s : ByteArray) (w : World) (hs : s.size ≤ 4294967296) (hT : Tb w) :
    Calls Tryd.prog 21 #[.string s] w fun e w' => e = .returned (.bool (valueB (tx s))) ∧ Below w.heap.size w w' := by
  have QR : Hid (∀ w1, Tb w1 → Calls Tryd.prog 6 #[.string s] w1 fun e w' => e = .returned (.tuple #[.int .i64 (runesF (tx s)).1, .bool (runesF (tx s)).2]) ∧ Below w1.heap.size w1 w') := fun w1 h => runes_any s w1 hs h
  have HT := Lib.hid hT
  clear hT
  cases hv : validL (tx s) with
  | false =>
    have HN : Hid (valueB (tx s) = false) := by show _ = _; rw [valueB, hv]; rfl
    have hr : runesF (tx s) = (0, false) := by rw [runesF, if_neg (by rw [hv]; simp)]
    rw [hr] at QR
    clear hr hv
    go_enter Tryd.func21, Tryd.ntmps21
    go_wp2_with fail
    refine (QR.out _ HT.out).mono ?_
    rintro e w1 ⟨rfl, hb1⟩
    go_wp2_with fail
    go_ret
    exact ⟨ret_bool (by rw [HN.out]), hb1⟩
  | true =>
    have hr : runesF (tx s) = (((cp (tx s)).length : Int), true) := by rw [runesF, if_pos hv]
    rw [hr] at QR
    have hcl := cp_length (tx s)
    rw [tx_len] at hcl
    by_cases h24 : (cp (tx s)).length ≤ 24
    · have HN : Hid (valueB (tx s) = (cp (tx s)).all valueRune) := by show _ = _; rw [valueB, hv]; simp [h24]
      have d24 : decide ((24 : Int) < ((cp (tx s)).length : Int)) = false := by simp; omega
      have d24' : decide (24 < (cp (tx s)).length) = false := by simp; omega
      generalize (cp (tx s)).length = n at *
      clear hr hv
      go_enter Tryd.func21, Tryd.ntmps21
      go_wp2_with fail
      refine (QR.out _ HT.out).mono ?_
      rintro e w1 ⟨rfl, hb1⟩
      have HB1 := Lib.hid hb1
      clear hb1
      go_wp2_with fail
      go_loopw [] (fun wr => ∃ (pos : Nat) (pre : List (Nat × Nat)), Hid (Went s pos pre) ∧ Hid (pre.all valueRune = true) ∧ Hid (It w1 w1.heap.size s pos wr)) (fun wr => s.size - wr.iterPos w1.heap.size)
      case atStart => exact ⟨0, [], Went.zero s, rfl, It.mk0 w1 s⟩
      case round =>
        obtain ⟨pos, pre, HW, HO, HI⟩ := hrel
        have HP := Lib.hid HI.out.pos
        by_cases hp : pos < s.size
        · have hnx : ∀ ty, (Instr.next (.pointer (some ⟨w1.heap.size, 0, none⟩)) true ty).run Tryd.prog wr = _ := fun ty => Lib.run_next_any_at wr w1.heap.size s pos ty HI.out.1 hp
          rw [dec_at] at hnx
          have HI2 := Lib.hid (HI.out.move (Nat.le_refl _) (pos + (decL ((tx s).drop pos)).2))
          have HW2 := Lib.hid (HW.out.next hp)
          obtain ⟨d1, d2, d3, _⟩ := decL_bd ((tx s).drop pos)
          have hB : Hid (valueRune (decL ((tx s).drop pos)) = false → (cp (tx s)).all valueRune = false) := fun h => all_bad HW.out hp h
          generalize decL ((tx s).drop pos) = d at *
          generalize hwi : wr.iterAt w1.heap.size s (pos + d.2) = wi at *
          clear hwi
          have QN : Hid (∀ w1, Calls Tryd.prog 31 #[.int .i32 d.1] w1 fun e w' => e = .returned (.bool (valueRune d)) ∧ w1 = w') := fun w1 => isValueRune_any d w1 d1
          cases hn : valueRune d with
          | true =>
            rw [hn] at QN
            have HO2 : Hid ((pre ++ [d]).all valueRune = true) := by show _ = _; rw [List.all_append, HO.out]; simp [hn]
            clear hn hB
            go_wp2_with fail
            refine (QN.out _).mono ?_
            rintro e w2 ⟨rfl, rfl⟩
            go_wp2_with fail
            go_roundw
            case rel => exact ⟨pos + d.2, pre ++ [d], HW2.out, HO2.out, HI2.out⟩
            case measure => rw [HI2.out.pos, HP.out]; omega
          | false =>
            rw [hn] at QN
            have HR := Lib.hid (hB.out hn)
            clear hn hB
            go_wp2_with fail
            refine (QN.out _).mono ?_
            rintro e w2 ⟨rfl, rfl⟩
            go_wp2_with fail
            go_ret
            exact ⟨ret_bool (by rw [HN.out, HR.out]), Below.two HB1.out HI2.out.2⟩
        · have hnx : ∀ ty, (Instr.next (.pointer (some ⟨w1.heap.size, 0, none⟩)) true ty).run Tryd.prog wr = _ := fun ty => Lib.run_next_end_at wr w1.heap.size s pos ty HI.out.1 hp
          have HR : Hid ((cp (tx s)).all valueRune = true) := by show _ = _; rw [HW.out.done hp, HO.out]
          go_wp2_with fail
          go_ret
          exact ⟨ret_bool (by rw [HN.out, HR.out]), Below.two HB1.out HI.out.2⟩
    · have HN : Hid (valueB (tx s) = false) := by show _ = _; rw [valueB, hv]; simp [h24]
      have d24 : decide ((24 : Int) < ((cp (tx s)).length : Int)) = true := by simp; omega
      have d24' : decide (24 < (cp (tx s)).length) = true := by simp; omega
      generalize (cp (tx s)).length = n at *
      clear hr hv
      go_enter Tryd.func21, Tryd.ntmps21
      go_wp2_with fail
      refine (QR.out _ HT.out).mono ?_
      rintro e w1 ⟨rfl, hb1⟩
      go_wp2_with fail
      go_ret
      exact ⟨ret_bool (by rw [HN.out]), hb1⟩
end
section
open Go.RowKit Go.Shelf
set_option linter.unusedVariables false
attribute [local go_sem] Oper.semAt_some
theorem Blk.p0 {w : World} {g : Nat} {t : TypeId} {a b : Value} (h : Blk w g t #[a, b]) : w.cell? ⟨g, 0, none⟩ = some a := h.cell 0
theorem Blk.p1 {w : World} {g : Nat} {t : TypeId} {a b : Value} (h : Blk w g t #[a, b]) : w.cell? ⟨g, 1, none⟩ = some b := h.cell 1
theorem blk_new2 (w : World) (o : Obj) (t : TypeId) (cs : Array Value) : Blk ((w.alloc o).alloc (.cells cs t)) (w.heap.size + 1) t cs := by
  have h := Blk.new (w.alloc o) t cs
  have e : (w.alloc o).heap.size = w.heap.size + 1 := by simp
  rwa [e] at h
theorem blk_new3 (w : World) (o o' : Obj) (t : TypeId) (cs : Array Value) : Blk (((w.alloc o).alloc o').alloc (.cells cs t)) (w.heap.size + 1 + 1) t cs := by
  have h := blk_new2 (w.alloc o) o' t cs
  have e : (w.alloc o).heap.size = w.heap.size + 1 := by simp
  rwa [e] at h
/-- What lay below n₀, at the blocks that p tells, lies as it lay. -/
def KeepP (n₀ : Nat) (p : Nat → Prop) (A B : World) : Prop := A.heap.size ≤ B.heap.size ∧ ∀ i, i < n₀ → p i → B.heap[i]? = A.heap[i]?
theorem keepP_refl (n₀ : Nat) (p : Nat → Prop) (A : World) : KeepP n₀ p A A := ⟨Nat.le_refl _, fun _ _ _ => rfl⟩
theorem keepP_t {n₀ : Nat} {p : Nat → Prop} {A B C : World} (h : KeepP n₀ p A B) (k : KeepP n₀ p B C) : KeepP n₀ p A C := ⟨Nat.le_trans h.1 k.1, fun i h1 h2 => (k.2 i h1 h2).trans (h.2 i h1 h2)⟩
theorem keepP_b {n₀ : Nat} {p : Nat → Prop} {w : World} (hn : n₀ ≤ w.heap.size) (W : World) (l : Nat) (o o' : Obj) (hl : w.heap.size ≤ l) (h : W.heap[l]? = some o) (_ : o.isCells = false) (_ : o.isWalk = false) : KeepP n₀ p W (W.putObj l o') := by
  have h1 := belowK_b hn W l o o' hl h ‹_› ‹_›
  exact ⟨h1.size, fun i hi _ => h1.block i hi⟩
theorem keepP_below {n₀ : Nat} {p : Nat → Prop} {A B : World} (hn : n₀ ≤ A.heap.size) (h : Below A.heap.size A B) : KeepP n₀ p A B := ⟨h.size, fun i hi _ => h.block i (by omega)⟩
theorem Blk.onP {n₀ b : Nat} {p : Nat → Prop} {t : TypeId} {cs : Array Value} {A B : World} (h : Blk A b t cs) (hk : KeepP n₀ p A B) (hb : b < n₀) (hg : p b) : Blk B b t cs := (hk.2 b hb hg).trans h
theorem values_any (A : Option Addr) (n cap : Nat) (w : World) :
    Calls Tryd.prog 29 #[.slice A n cap] w fun e w' => e = .returned (.func (.func 34) #[] #[.pointer (some ⟨w.heap.size, 0, none⟩)]) ∧ w.alloc (.cells #[.slice A n cap] 29) = w' := by
  go_enter Tryd.func29, Tryd.ntmps29
  go_wp2
  go_ret
  exact ⟨rfl, rfl⟩
theorem each_any (A : Option Addr) (n cap : Nat) (w : World) :
    Calls Tryd.prog 19 #[.slice A n cap] w fun e w' => e = .returned (.func (.func 34) #[] #[.pointer (some ⟨w.heap.size, 0, none⟩)]) ∧ w.alloc (.cells #[.slice A n cap] 29) = w' := by
  go_enter Tryd.func19, Tryd.ntmps19
  go_wp2_with fail
  refine (values_any A n cap _).mono ?_
  rintro e w' ⟨rfl, rfl⟩
  go_wp2_with fail
  go_ret
  exact ⟨rfl, rfl⟩
/-- What the iterator tells at a place. -/
abbrev labV (x : Lab) : Array Value := #[.agg #[.string x.1, .string x.2]]
set_option maxRecDepth 100000 in
set_option maxHeartbeats 4000000 in
theorem values1_in (n : Nat) (hn : 1 ≤ n) (ll Bs n₀ cap b off : Nat) (p : Nat → Prop) (l : List Lab) (zs : List (At l.length)) (hzs : zs.map (·.1) = List.range l.length) (hreach : l.length ≤ 4294967296) (hBs : Bs < n₀) (hg : p Bs) (hb : b < n₀) (hbg : p b) (J Jx : List (At l.length) → World → Prop) (W : World) (hn0 : n₀ ≤ W.heap.size) {nJ : Nat} (hJ : AbidesFrom nJ J)
    (hY : ∀ pre x W, J pre W → pre.length < l.length → YieldAt Fence.wide (n - 1) Tryd.prog ll (labV (lth l x.1)) W fun e W' =>
      (e = .returned (.bool true) ∧ J (pre ++ [x]) W' ∧ KeepP n₀ p W W') ∨ (e = .returned (.bool false) ∧ Jx (pre ++ [x]) W'))
    (hB : Blk W Bs 29 #[.slice (some ⟨b, off, none⟩) l.length cap]) (hc : ∀ j, j < l.length → W.cell? ⟨b, off + j * 2, none⟩ = some (.string (lth l j).1) ∧ W.cell? ⟨b, off + j * 2 + 1, none⟩ = some (.string (lth l j).2)) (h0 : J [] W) :
    CallsIn Fence.wide n Tryd.prog 34 #[.func (.yield ll) #[] #[], .pointer (some ⟨Bs, 0, none⟩)] W fun e W' => (∃ v, e = .returned v) ∧
      ((∃ ys, ys = zs ∧ J ys W') ∨ (∃ pre, pre <+: zs ∧ Jx pre W')) := by
  have hlen : zs.length = l.length := by rw [← List.length_map (f := (·.1)), hzs, List.length_range]
  have HL := Lib.hid hlen
  have HZ := Lib.hid hzs
  have HC := Lib.hid hc
  have HB := Lib.hid hB
  have hcb := hB.one
  clear hzs hlen hc hB
  refine callsIn_of_wp Tryd.func34 rfl trivial ?_ rfl
  simp only [Tryd.ntmps34, List.size_toArray, List.length_cons, List.length_nil, Nat.reduceAdd, Nat.reduceSub, Array.replicate_succ, Array.replicate_zero, List.push_toArray, List.append_toArray, List.nil_append, List.cons_append]
  gi_wp2
  clear hcb
  gi_loopw [7] (fun i wr => ∃ k : Nat, k ≤ l.length ∧ i = .int .i64 k ∧ J (zs.take k) wr ∧ KeepP n₀ p W wr)
    (fun i _ => l.length - (RowKit.intOf i).toNat)
  case atStart => exact ⟨0, Nat.zero_le _, rfl, h0, keepP_refl _ _ _⟩
  case round =>
    obtain ⟨k, hk, rfl, hJs, hnx⟩ := hrel
    by_cases hlt : k < l.length
    · have hlt' : k < zs.length := by rw [HL.out]; exact hlt
      obtain ⟨h1, h2⟩ := HC.out k hlt
      have i1 : wr.cell? ⟨b, off + k * 2, none⟩ = _ := (World.cell?_of_block (hnx.2 b hb hbg)).trans h1
      have i2 : wr.cell? ⟨b, off + k * 2 + 1, none⟩ = _ := (World.cell?_of_block (hnx.2 b hb hbg)).trans h2
      have hx : (zs[k]).1 = k := by
        have := congrArg (fun t => t[k]?) HZ.out
        simp [hlt', hlt] at this
        exact this
      have ht : zs.take (k + 1) = zs.take k ++ [zs[k]] := List.take_succ_eq_append_getElem hlt'
      have HT := Lib.hid ht
      have HY : Hid (∀ W, J (zs.take k) W → YieldAt Fence.wide (n - 1) Tryd.prog ll #[.agg #[.string (lth l k).1, .string (lth l k).2]] W fun e W' =>
        (e = .returned (.bool true) ∧ J (zs.take (k + 1)) W' ∧ KeepP n₀ p W W') ∨ (e = .returned (.bool false) ∧ Jx (zs.take (k + 1)) W')) := fun W hW => by
        have := hY (zs.take k) (zs[k]) W hW (by simp; omega)
        rw [hx, labV, ← HT.out] at this
        exact this
      have hbw : b < wr.heap.size := by have := hnx.1; omega
      generalize lth l k = it at *
      have hi1 : (0 : Int) ≤ (k : Int) := by omega
      have hi2 : (k : Int) < (l.length : Int) := by omega
      clear h1 h2 hx ht HT hlt'
      have hba := below_al (below_0 wr) (.cells #[.string it.1, .string it.2] 37)
      have hJ1 := abides_below hJ hJs hba
      have KB := Lib.hid (keepP_below (n₀ := n₀) (p := p) (by have := hnx.1; omega) hba)
      obtain ⟨fn, tmps, assign, body, hy, hR⟩ := HY.out _ hJ1
      clear hba hJs hJ1
      gi_wp2
      refine hR.mono ?_
      rintro e W3 (⟨rfl, hJ3, hk3⟩ | ⟨rfl, hJx3⟩)
      · clear hy hR
        gi_wp2
        go_roundw
        case rel => exact ⟨k + 1, by omega, by simp, hJ3, keepP_t hnx (keepP_t KB.out hk3)⟩
        case measure => simp [RowKit.intOf]; omega
      · clear hy hR
        gi_wp2
        refine bodyPost_ret (results_none rfl _ _ _) rfl ?_
        exact ⟨⟨_, rfl⟩, .inr ⟨_, List.take_prefix _ _, hJx3⟩⟩
    · obtain rfl : k = l.length := by omega
      gi_wp2
      go_end0
      exact ⟨⟨_, rfl⟩, .inl ⟨_, List.take_of_length_le (by rw [HL.out]; exact Nat.le_refl _), hJs⟩⟩
set_option maxHeartbeats 1000000 in
theorem values0_in (n : Nat) (hn : 1 ≤ n) (ll Bs cap : Nat) (A : Option Addr) {N : Nat} (zs : List (At N)) (hz : zs = []) (J Jx : List (At N) → World → Prop) (W : World) (hB : Blk W Bs 29 #[.slice A 0 cap]) (h0 : J [] W) :
    CallsIn Fence.wide n Tryd.prog 34 #[.func (.yield ll) #[] #[], .pointer (some ⟨Bs, 0, none⟩)] W fun e W' => (∃ v, e = .returned v) ∧
      ((∃ ys, ys = zs ∧ J ys W') ∨ (∃ pre, pre <+: zs ∧ Jx pre W')) := by
  have hcb := hB.one
  have HZ := Lib.hid hz
  clear hz
  refine callsIn_of_wp Tryd.func34 rfl trivial ?_ rfl
  simp only [Tryd.ntmps34, List.size_toArray, List.length_cons, List.length_nil, Nat.reduceAdd, Nat.reduceSub, Array.replicate_succ, Array.replicate_zero, List.push_toArray, List.append_toArray, List.nil_append, List.cons_append]
  gi_wp2
  gi_loopw [7] (fun i wr => i = .int .i64 0 ∧ wr = W) (fun _ _ => 0)
  case atStart => exact ⟨rfl, rfl⟩
  case round =>
    obtain ⟨rfl, rfl⟩ := hrel
    gi_wp2
    go_end0
    exact ⟨⟨_, rfl⟩, .inl ⟨_, rfl, by rw [HZ.out]; exact h0⟩⟩
theorem values_stops (n : Nat) (hn : 1 ≤ n) (Bs cap : Nat) (p : Nat → Prop) (A : Option Addr) (l : List Lab) (zs : List (At l.length)) (hzs : zs.map (·.1) = List.range l.length) (hreach : l.length ≤ 4294967296) (w : World) (hg : p Bs) (hne : l.length ≠ 0 → ∀ ad, A = some ad → p ad.block)
    (hB : Blk w Bs 29 #[.slice A l.length cap]) (hS : Lb w w.heap.size A l) :
    SeqStopsK Fence.wide n Tryd.prog 34 #[.pointer (some ⟨Bs, 0, none⟩)] (fun x : At l.length => labV (lth l x.1)) (KeepP w.heap.size p) (fun ys => ys = zs) (fun pre => pre <+: zs) l.length w := fun ll J Jx W hW hJ _ hY h0 => by
  by_cases h : l.length = 0
  · have hz : zs = [] := by
      have : (zs.map (·.1)).length = 0 := by rw [hzs]; simp [h]
      exact List.eq_nil_of_length_eq_zero (by simpa using this)
    have hB' := hB.later hW
    rw [h] at hB'
    exact values0_in n hn ll Bs cap A zs hz J Jx W hB' h0
  · obtain ⟨b, off, rfl, hb, hc⟩ := hS.at_ (by omega)
    exact values1_in n hn ll Bs w.heap.size cap b off p l zs hzs hreach hB.lt hg hb (hne h _ rfl) J Jx W hW.size hJ hY (hB.later hW) (fun j hj => ⟨(hW.cell (p := ⟨b, off + j * 2, none⟩) hb).trans (hc j hj).1, (hW.cell (p := ⟨b, off + j * 2 + 1, none⟩) hb).trans (hc j hj).2⟩) h0
end
section
open Go.RowKit
set_option linter.unusedVariables false
variable {F : Fence} {n : Nat} {P : Program}
theorem rangeFunc_box {α : Type} {g : Operand} {ps : Array Tmp} {assign body : Code} {Q : Exit → Act → World → Prop} {a : Act} {w : World}
    (hro : F.round = none) (h1 : 1 ≤ n) {gf : Nat} {lb : Array Value} (hg : a.eval g = .func (.func gf) #[] lb) (hFg : F.fn gf) (eg : ∀ args w, (callFunc gf args).run P w = .ok (.enter gf args) w)
    {encs : α → Array Value} {Kp : World → World → Prop} {S Sp : List α → Prop} {N : Nat} {w0 : World} (hseq : SeqStopsK F (n - 1) P gf lb encs Kp S Sp N w0)
    (hKt : ∀ {A B C : World}, Kp A B → Kp B C → Kp A C) (hKb : ∀ (W : World) (l : Nat) (o o' : Obj), w.heap.size ≤ l → W.heap[l]? = some o → o.isCells = false → o.isWalk = false → Kp W (W.putObj l o')) (hKa : ∀ (W : World) (o : Obj), w.heap.size < W.heap.size → Kp W (W.alloc o))
    (hb0 : Below w0.heap.size w0 w) (hps : ∀ x, (encs x).size = ps.size)
    (I : List α → World → Prop) (Ix : Code → List α → World → Prop) (hI : OwnFrom w.heap.size I) (hIx : ∀ c, OwnFrom w.heap.size (Ix c)) (h0 : I [] w) (a₁ : α → Nat → Act) (o₁ : α → Obj)
    (hassign : ∀ (l : Nat) (x : α) (W : World) (K : Act → World → Prop), K (a₁ x W.heap.size) (W.alloc (o₁ x)) →
      assign.wpIn (F.inRound l) (n - 1 - 1) P (Exit.then K (fun _ _ _ => False)) { tmps := (ps.zip (encs x)).foldl (fun t (p, v) => t.setIfInBounds p v) a.tmps, defers := [] } W)
    (hbody : ∀ (l : Nat) (pre : List α) (x : α) (W : World) (b : Nat), I pre W → w.heap.size + 1 < b → W.heap[b]? = some (o₁ x) → pre.length < N → body.wpIn (F.inRound l) (n - 1 - 1) P (ownPostK Kp I Ix (pre ++ [x]) W) (a₁ x b) W)
    (hdone : ∀ (D : Nat) (xs : List α) (W : World), w.heap.size ≤ D → S xs → I xs W → W.heap[D]? = some (.deferred (some [])) → Q .normal { a with defers := { target := .collected D, args := #[] } :: a.defers } W)
    (hstop : ∀ (D : Nat) (c : Code) (pre : List α) (W : World), w.heap.size ≤ D → Sp pre → Ix c pre W → W.heap[D]? = some (.deferred (some [])) → c.wpIn F n P Q { a with defers := { target := .collected D, args := #[] } :: a.defers } W) :
    (Code.rangeFunc g ps assign body).wpIn F n P Q a w := by
  refine wpIn_rangeFunc ?_
  intro fn hfn
  rw [hro]
  obtain ⟨rec, hrec⟩ : ∃ rec : LoopState → Option Code → Loop, rec = fun st pe => { state := st, pending := pe, fn, tmps := a.tmps, params := ps, assign, body, defers := w.heap.size } := ⟨_, rfl⟩
  obtain ⟨W1, hW1⟩ : ∃ W1, (w.alloc (.deferred (some []))).alloc (.loop (rec .ready none)) = W1 := ⟨_, rfl⟩
  have hz1 : W1.heap.size = w.heap.size + 2 := by rw [← hW1]; simp
  have hL1 : W1.heap[w.heap.size + 1]? = some (.loop (rec .ready none)) := by
    rw [← hW1]; have := World.alloc_heap_new (w.alloc (.deferred (some []))) (.loop (rec .ready none)); rwa [World.size_alloc] at this
  have hK1 : W1.heap[w.heap.size]? = some (.deferred (some [])) := by
    rw [← hW1]; exact (Below.heap_alloc _ _ _ (by simp)).trans (World.alloc_heap_new w _)
  have hI1 : I [] W1 := by rw [← hW1]; exact hI.alloc _ (hI.alloc _ h0)
  have hb1 : Below w0.heap.size w0 W1 := by rw [← hW1]; exact Below.two hb0 (below_al (below_al (below_0 w) _) _)
  refine ⟨w.heap.size + 1, [{ target := .collected w.heap.size, args := #[] }], W1, { target := .fn (.func gf) lb, args := #[.func (.yield (w.heap.size + 1)) #[] #[]] }, W1, gf,
    #[.func (.yield (w.heap.size + 1)) #[] #[]] ++ lb, W1, ?_, ?_, ?_, ?_, fun _ => h1, ?_⟩
  · rw [← hW1, hrec]; exact run_enterLoop_outer _ _ _ _ _
  · simp only [resolve, hg]
    simp [go_sem]
  · intro f' hf'; simp [Target.leads] at hf'; subst hf'; exact hFg
  · simp [invoke, go_sem, eg]
  · have hnw : ∀ {A B : World} {row : Option Nat}, (∀ r, row = some r → W1.heap.size ≤ r ∧ ∃ o : Obj, A.heap[r]? = some o ∧ o.isWalk = true) → (∀ r, row = some r → w.heap.size ≤ r ∧ ∃ o : Obj, A.heap[r]? = some o ∧ o.isCells = false) :=
      fun hr r e => by obtain ⟨hB, o, ho, hw⟩ := hr r e; exact ⟨by omega, o, ho, Obj.not_cells_of_walk hw⟩
    refine (hseq (w.heap.size + 1)
      (fun pre W => I pre W ∧ W.heap[w.heap.size + 1]? = some (.loop (rec .ready none)) ∧ W.heap[w.heap.size]? = some (.deferred (some [])))
      (fun pre W => ∃ c, Ix c pre W ∧ W.heap[w.heap.size + 1]? = some (.loop (rec .done (some c))) ∧ W.heap[w.heap.size]? = some (.deferred (some [])))
      W1 hb1
      (fun s A B row hs hg' hr => ⟨hI s A B row hs.1 hg' (hnw (B := B) hr), (grownBy_keeps hg' (fun r e => (hr r e).2) hs.2.1 rfl).trans hs.2.1, (grownBy_keeps hg' (fun r e => (hr r e).2) hs.2.2 rfl).trans hs.2.2⟩)
      (fun s A B row hs hg' hr => by
        obtain ⟨c, hc, hl, hk⟩ := hs
        exact ⟨c, hIx c s A B row hc hg' (hnw (B := B) hr), (grownBy_keeps hg' (fun r e => (hr r e).2) hl rfl).trans hl, (grownBy_keeps hg' (fun r e => (hr r e).2) hk rfl).trans hk⟩)
      ?_ ⟨hI1, hL1, hK1⟩).mono ?_
    · rintro pre x V ⟨hiV, hlV, hkV⟩ hlen
      have hltV : w.heap.size + 1 < V.heap.size := (Array.getElem?_eq_some_iff.1 hlV).1
      have hy := run_yield (P := P) (args := encs x) hlV (by rw [hrec]; exact hps x)
      rw [hrec] at hy
      obtain ⟨W, hW⟩ : ∃ W, V.alloc (o₁ x) = W := ⟨_, rfl⟩
      have hl : W.heap[w.heap.size + 1]? = some (.loop (rec .ready none)) := by rw [← hW]; exact (Below.heap_alloc _ _ _ hltV).trans hlV
      have hk : W.heap[w.heap.size]? = some (.deferred (some [])) := by rw [← hW]; exact (Below.heap_alloc _ _ _ (by omega)).trans hkV
      have hi : I pre W := by rw [← hW]; exact hI.alloc _ hiV
      have hnew : W.heap[V.heap.size]? = some (o₁ x) := by rw [← hW]; exact World.alloc_heap_new _ _
      have hlt : w.heap.size + 1 < W.heap.size := (Array.getElem?_eq_some_iff.1 hl).1
      have hkv : Kp V W := by rw [← hW]; exact hKa _ _ (by omega)
      refine ⟨fn, _, assign, body, hy, roundIn_of_wpIn hfn (hassign _ x V _ ?_)⟩
      rw [hW]
      refine ⟨_, run_beginRound hl (by rw [hrec]), ?_⟩
      have hl2 : (W.putObj (w.heap.size + 1) (.loop { rec .ready none with state := .busy })).heap[w.heap.size + 1]? = some (.loop { rec .ready none with state := .busy }) := World.putObj_heap_same hlt
      have hk2 : (W.putObj (w.heap.size + 1) (.loop { rec .ready none with state := .busy })).heap[w.heap.size]? = some (.deferred (some [])) := (World.putObj_heap_other (by omega)).trans hk
      have hw2 : Kp V (W.putObj (w.heap.size + 1) (.loop { rec .ready none with state := .busy })) := hKt hkv (hKb _ _ _ _ (by omega) hl rfl rfl)
      refine wpIn_mono (hbody _ pre x _ V.heap.size (hI.putObj _ hi (by omega) hl rfl) hltV ((World.putObj_heap_other (by omega)).trans hnew) hlen) ?_
      have fin : ∀ (jump : Option Code) (W3 : World), KeepsOthers (W.putObj (w.heap.size + 1) (.loop { rec .ready none with state := .busy })) W3 →
          (Instr.endRound (w.heap.size + 1) jump).run P W3 = .ok (.bool jump.isNone) (W3.putObj (w.heap.size + 1) (.loop (rec (if jump.isNone then .ready else .done) jump))) ∧
          W3.heap[w.heap.size + 1]? = some (.loop { rec .ready none with state := .busy }) ∧
          (W3.putObj (w.heap.size + 1) (.loop (rec (if jump.isNone then .ready else .done) jump))).heap[w.heap.size + 1]? = some (.loop (rec (if jump.isNone then .ready else .done) jump)) ∧
          (W3.putObj (w.heap.size + 1) (.loop (rec (if jump.isNone then .ready else .done) jump))).heap[w.heap.size]? = some (.deferred (some [])) := fun jump W3 hk3 => by
        have hl3 := hk3.same _ _ hl2 rfl
        have := run_endRound (P := P) jump hl3
        rw [hrec] at this ⊢
        exact ⟨this, by rw [hrec] at hl3; exact hl3, World.putObj_heap_same (Array.getElem?_eq_some_iff.1 hl3).1, (World.putObj_heap_other (by omega)).trans (hk3.same _ _ hk2 rfl)⟩
      have out : ∀ (c : Code) (W3 : World), KeepsOthers (W.putObj (w.heap.size + 1) (.loop { rec .ready none with state := .busy })) W3 → Ix c (pre ++ [x]) W3 →
          ∃ c', Ix c' (pre ++ [x]) (W3.putObj (w.heap.size + 1) (.loop (rec .done (some c)))) ∧ (W3.putObj (w.heap.size + 1) (.loop (rec .done (some c)))).heap[w.heap.size + 1]? = some (.loop (rec .done (some c'))) ∧ (W3.putObj (w.heap.size + 1) (.loop (rec .done (some c)))).heap[w.heap.size]? = some (.deferred (some [])) := fun c W3 hk3 hi3 => by
        obtain ⟨_, hl3, hl4, hk4⟩ := fin (some c) W3 hk3
        exact ⟨c, (hIx _).putObj _ hi3 (by omega) hl3 rfl, hl4, hk4⟩
      rintro e a3 W3 hp
      cases e with
      | normal =>
        obtain ⟨hk3, hkp3, hi3⟩ := hp
        obtain ⟨hr, hl3, hl4, hk4⟩ := fin none W3 hk3
        exact ⟨_, _, hr, .inl ⟨rfl, ⟨hI.putObj _ hi3 (by omega) hl3 rfl, hl4, hk4⟩, hKt (hKt hw2 hkp3) (hKb _ _ _ _ (by omega) hl3 rfl rfl)⟩⟩
      | ret => exact ⟨_, _, (fin (some .ret) W3 hp.1).1, .inr ⟨rfl, out _ _ hp.1 hp.2⟩⟩
      | exit id => exact ⟨_, _, (fin (some (.exit id)) W3 hp.1).1, .inr ⟨rfl, out _ _ hp.1 hp.2⟩⟩
      | goto t => exact ⟨_, _, (fin (some (.goto t)) W3 hp.1).1, .inr ⟨rfl, out _ _ hp.1 hp.2⟩⟩
      | panic ch => exact hp.elim
      | outgrown => exact hp.elim
    · rintro e W2 ⟨⟨v, rfl⟩, (⟨xs, hS, hi, hl, hk⟩ | ⟨pre, hSp, c, hi, hl, hk⟩)⟩
      · exact ⟨none, _, by have := run_endLoop (P := P) hl (by rw [hrec]; simp); rw [hrec] at this; exact this, hdone _ xs _ (Nat.le_refl _) hS (hI.putObj _ hi (by omega) hl rfl) ((World.putObj_heap_other (by omega)).trans hk)⟩
      · exact ⟨some c, _, by have := run_endLoop (P := P) hl (by rw [hrec]; simp); rw [hrec] at this; exact this, hstop _ c pre _ (Nat.le_refl _) hSp ((hIx c).putObj _ hi (by omega) hl rfl) ((World.putObj_heap_other (by omega)).trans hk)⟩
end
section
open Go.RowKit
set_option linter.unusedVariables false
set_option linter.unusedSimpArgs false
attribute [local go_sem] Oper.semAt_some
theorem ls_later {w w' : World} {A : Option Addr} {l : List Lab} (h : Lb w w.heap.size A l) (hb : Below w.heap.size w w') : Lb w' w'.heap.size A l := Lb.later h hb
def leqB (a b : List UInt8) : Bool := Op.bytesLess a b || a == b
/-- May a label stand behind one of that name? -/
def okStep (pv : List UInt8) (x : Lab) : Bool := nameB (tx x.1) && (!(leqB (tx x.1) pv) && valueB (tx x.2))
def chainB : List UInt8 → List Lab → Bool
  | _, [] => true
  | pv, x :: l => okStep pv x && chainB (tx x.1) l
/-- Are labels a set? -/
def setB (l : List Lab) : Bool := decide (1 ≤ l.length) && decide (l.length ≤ 6) && chainB [] l
def lastNm (l : List Lab) : ByteArray := (l.getLast?).elim ⟨#[]⟩ fun p => p.1
theorem lastNm_snoc (l : List Lab) (x : Lab) : lastNm (l ++ [x]) = x.1 := by simp [lastNm]
theorem chainB_snoc : ∀ (l : List Lab) (pv : List UInt8) (x : Lab), chainB pv (l ++ [x]) = (chainB pv l && okStep ((l.getLast?).elim pv fun p => tx p.1) x)
  | [], pv, x => by simp [chainB]
  | y :: l, pv, x => by
    rw [List.cons_append, chainB, chainB, chainB_snoc l (tx y.1) x, Bool.and_assoc]
    congr 3
    cases l with
    | nil => rfl
    | cons z l =>
      rw [List.getLast?_cons_cons]
      cases e : (z :: l).getLast? with
      | none => simp at e
      | some q => rfl
theorem chainB_last (l : List Lab) (x : Lab) : chainB [] (l ++ [x]) = (chainB [] l && okStep (tx (lastNm l)) x) := by
  rw [chainB_snoc]
  congr 2
  unfold lastNm
  cases l.getLast? <;> rfl
theorem chainB_more : ∀ (l t : List Lab) (pv : List UInt8), chainB pv l = false → chainB pv (l ++ t) = false
  | [], _, _, h => by simp [chainB] at h
  | y :: l, t, pv, h => by
    rw [List.cons_append, chainB]
    rw [chainB] at h
    cases e : okStep pv y with
    | false => rfl
    | true => rw [e] at h; rw [Bool.true_and] at h ⊢; exact chainB_more l t _ h
/-- The labels at places. -/
def mapL {N : Nat} (l : List Lab) (pre : List (At N)) : List Lab := pre.map fun p => lth l p.1
theorem mapL_snoc {N : Nat} (l : List Lab) (pre : List (At N)) (x : At N) : mapL l (pre ++ [x]) = mapL l pre ++ [lth l x.1] := by simp [mapL]
theorem mapL_all {l : List Lab} {zs : List (At l.length)} (hz : zs.map (·.1) = List.range l.length) : mapL l zs = l := by
  have : mapL l zs = (zs.map (·.1)).map (lth l) := by simp [mapL]
  rw [this, hz]
  apply List.ext_getElem?
  intro i
  by_cases h : i < l.length
  · simp [h, lth]
  · simp [h]
theorem mapL_pre {l : List Lab} {zs pre : List (At l.length)} (hz : zs.map (·.1) = List.range l.length) (hp : pre <+: zs) : ∃ t, l = mapL l pre ++ t := by
  obtain ⟨t, rfl⟩ := hp
  exact ⟨mapL l t, (mapL_all hz).symm.trans (by simp [mapL])⟩
def RgI (w : World) (l : List Lab) (pre : List (At l.length)) (W : World) : Prop :=
  Blk W w.heap.size 4 #[.bool true] ∧ Blk W (w.heap.size + 1) 9 #[.string (lastNm (mapL l pre))] ∧ chainB [] (mapL l pre) = true ∧ Below w.heap.size w W
def RgX (w : World) (l : List Lab) (c : Code) (pre : List (At l.length)) (W : World) : Prop :=
  c = .exit 0 ∧ Blk W w.heap.size 4 #[.bool false] ∧ chainB [] (mapL l pre) = false ∧ Below w.heap.size w W
theorem RgI_own {w : World} {l : List Lab} {Bd : Nat} (hB : w.heap.size ≤ Bd) : OwnFrom Bd (RgI w l) := by
  rintro s W W' row ⟨h1, h2, h3, h4⟩ hg hr
  exact ⟨h1.kept hg (fun r e => (hr r e).2), h2.kept hg (fun r e => (hr r e).2), h3, h4.grown hg h4.size (fun k e => Nat.le_trans hB (hr k e).1)⟩
theorem RgX_own {w : World} {l : List Lab} {c : Code} {Bd : Nat} (hB : w.heap.size ≤ Bd) : OwnFrom Bd (RgX w l c) := by
  rintro s W W' row ⟨h0, h1, h2, h4⟩ hg hr
  exact ⟨h0, h1.kept hg (fun r e => (hr r e).2), h2, h4.grown hg h4.size (fun k e => Nat.le_trans hB (hr k e).1)⟩
theorem keepP_set {n₀ : Nat} {p : Nat → Prop} {w : World} {g o : Nat} {u : Value} (hp : ¬ p g) : KeepP n₀ p w (w.setCell ⟨g, o, none⟩ u) :=
  ⟨by simp [World.setCell], fun i _ hi => Below.heap_setCell w ⟨g, o, none⟩ u i (by rintro rfl; exact hp hi)⟩
set_option maxRecDepth 100000 in
set_option maxHeartbeats 4000000 in
theorem right_in (A : Option Addr) (l : List Lab) (cap : Nat) (h1 : 1 ≤ l.length) (h6 : l.length ≤ 6) (hs : ∀ x ∈ l, (x.2).size ≤ 4294967296) (w : World) (hT : Tb w) (hS : Lb w w.heap.size A l) :
    CallsIn Fence.wide 6 Tryd.prog 12 #[.slice A l.length cap] w fun e w' => e = .returned (.bool (setB l)) ∧ Below w.heap.size w w' := by
  have T : Below w.heap.size w ((w.alloc (.cells #[.bool true] 4)).alloc (.cells #[.string ⟨#[]⟩] 9)) := below_al (below_al (below_0 _) _) _
  have X := Lib.hid ((Blk.new w 4 #[.bool true]).alloc (.cells #[.string ⟨#[]⟩] 9))
  have Y := Lib.hid (blk_new2 w (.cells #[.bool true] 4) 9 #[.string ⟨#[]⟩])
  have HS := Lib.hid (ls_later hS T)
  have HT := Lib.hid hT
  have NE : Hid (l.length ≠ 0 → ∀ ad, A = some ad → ad.block < w.heap.size) := fun h ad e => by
    obtain ⟨b, off, e', hb, _⟩ := hS.at_ (by omega)
    rw [e'] at e; cases e; exact hb
  have HSZ : Hid (∀ k, (lth l k).2.size ≤ 4294967296) := fun k => by
    unfold lth
    cases e : l[k]? with
    | none => simp
    | some x => exact hs x (List.mem_of_getElem? e)
  clear hS hT hs
  have d1 : ((l.length : Int) == 0) = false := by rw [beq_eq_false_iff_ne]; omega
  have d1' : (l.length == 0) = false := by rw [beq_eq_false_iff_ne]; omega
  have d6 : decide ((6 : Int) < (l.length : Int)) = false := by simp; omega
  have d6' : decide (6 < l.length) = false := by simp; omega
  refine callsIn_of_wp_marks Tryd.func12 rfl trivial ?_ rfl
  simp only [Tryd.ntmps12, List.size_toArray, List.length_cons, List.length_nil, Nat.reduceAdd, Nat.reduceSub, Array.replicate_succ, Array.replicate_zero, List.push_toArray, List.append_toArray, List.nil_append, List.cons_append]
  refine wpIn_wide.2 ?_
  go_wp2_with fail
  go_step3
  go_wp2_with fail
  go_step3
  generalize (w.alloc (.cells #[.bool true] 4)).alloc (.cells #[.string ⟨#[]⟩] 9) = w1 at *
  go_wp2_with fail
  refine (each_any _ _ _ _).mono ?_
  rintro e w' ⟨rfl, rfl⟩
  have hba := below_al (below_0 w1) (.cells #[.slice A l.length cap] 29)
  have Z := Lib.hid (Blk.new w1 29 #[.slice A l.length cap])
  have WZ := Lib.hid Y.out.lt
  replace X := Lib.hid (X.out.later hba)
  replace Y := Lib.hid (Y.out.later hba)
  replace HS := Lib.hid (ls_later HS.out hba)
  replace T := Below.two T hba
  clear hba
  go_wp2_with fail
  generalize w1.alloc (.cells #[.slice A l.length cap] 29) = V at *
  have xz := X.out.lt
  have yz := Y.out.lt
  have wz := WZ.out
  have vz := Z.out.lt
  obtain ⟨zs, hzs⟩ := exists_at (N := l.length) (List.range l.length) (fun p hp => List.mem_range.1 hp)
  have HZ := Lib.hid hzs
  have hst : RgI w l [] V := ⟨X.out, Y.out, rfl, T⟩
  clear hzs
  refine (wpIn_wide (n := 6)).1 ?_
  refine rangeFunc_box rfl (by omega) (gf := 34) (lb := #[.pointer (some ⟨w1.heap.size, 0, none⟩)]) rfl trivial (enters_of Tryd.func34 (by kernel_rfl) rfl)
    (values_stops 5 (by omega) w1.heap.size cap (fun i => i ≠ w.heap.size ∧ i ≠ w.heap.size + 1) A l zs HZ.out (by omega) V ⟨by omega, by omega⟩ (fun h ad e => by have := NE.out h ad e; exact ⟨by omega, by omega⟩) Z.out HS.out)
    (fun h k => keepP_t h k) (keepP_b (by omega)) (fun W o h => keepP_below (by omega) (below_al (below_0 W) o)) (Below.refl _ _) (fun _ => rfl)
    (RgI w l) (RgX w l) (RgI_own (by omega)) (fun c => RgX_own (by omega)) hst
    (fun x b => { tmps := #[.slice A l.length cap, undef, .bool false, .pointer (some ⟨w.heap.size, 0, none⟩), .pointer (some ⟨w.heap.size + 1, 0, none⟩), .pointer (some ⟨b, 0, none⟩), .slice A l.length cap, .int .i64 l.length, .bool false, .bool false, .slice A l.length cap, .int .i64 l.length, .bool false, .bool false, .slice A l.length cap,
      .func (.func 34) #[] #[.pointer (some ⟨w1.heap.size, 0, none⟩)], .agg #[.string (lth l x.1).1, .string (lth l x.1).2], undef, undef, undef, undef, undef, undef, undef, undef, undef, undef, undef, undef, undef, undef, undef, undef, undef, undef, undef], defers := [] })
    (fun x => .cells #[.string (lth l x.1).1, .string (lth l x.1).2] 37) ?assign ?body ?done ?stop
  case assign =>
    intro l x W K hK
    gi_wp2
    exact hK
  case body =>
    rintro l' pre x W b ⟨hX, hY, hall, hb⟩ hbz hN hlt
    have HX := Lib.hid hX
    have HY := Lib.hid hY
    have HN : Hid (Blk W b 37 #[.string (lth l x.1).1, .string (lth l x.1).2]) := hN
    have HB := Lib.hid hb
    have HG2 : Hid (chainB [] (mapL l (pre ++ [x])) = okStep (tx (lastNm (mapL l pre))) (lth l x.1)) := by show _ = _; rw [mapL_snoc, chainB_last, hall, Bool.true_and]
    have KO : KeepsOthers W W := KeepsOthers.refl _
    have KP : Hid (KeepP V.heap.size (fun i => i ≠ w.heap.size ∧ i ≠ w.heap.size + 1) W W) := keepP_refl _ _ _
    have HTW : Tb W := HT.out.later hb
    have HVL := HSZ.out x.1
    clear hX hY hN hb hall
    have HNX : Hid (lastNm (mapL l (pre ++ [x])) = (lth l x.1).1) := by show _ = _; rw [mapL_snoc, lastNm_snoc]
    generalize lth l x.1 = it at *
    generalize lastNm (mapL l pre) = pv at *
    obtain ⟨nm, hnm⟩ : ∃ q, nameB (tx it.1) = q := ⟨_, rfl⟩
    obtain ⟨vl, hvl⟩ : ∃ q, valueB (tx it.2) = q := ⟨_, rfl⟩
    have QN : Hid (∀ w1, Calls Tryd.prog 20 #[.string it.1] w1 fun e w' => e = .returned (.bool nm) ∧ Below w1.heap.size w1 w') := fun w1 => by have := isName_any it.1 w1; rwa [hnm] at this
    have QV : Hid (∀ w1, Tb w1 → Calls Tryd.prog 21 #[.string it.2] w1 fun e w' => e = .returned (.bool vl) ∧ Below w1.heap.size w1 w') := fun w1 h => by have := isValue_any it.2 w1 HVL h; rwa [hvl] at this
    rw [okStep, hnm, hvl] at HG2
    have HLQ : Hid (leqB (tx it.1) (tx pv) = (Op.bytesLess it.1.toList pv.toList || it.1.toList == pv.toList)) := by show _ = _; rw [tx_toList, tx_toList]; rfl
    clear hnm hvl
    cases nm with
    | false =>
      have HBAD : Hid (chainB [] (mapL l (pre ++ [x])) = false) := by show _ = _; rw [HG2.out]; rfl
      have x0 := HX.out.one
      have fx := HX.out.frozen 0
      have y0 := HY.out.one
      have fy := HY.out.frozen 0
      have n0 := HN.out.p0
      have n1 := HN.out.p1
      have zx := HX.out.lt
      have zy := HY.out.lt
      have zn := HN.out.lt
      gi_wp2_with fail
      refine ⟨trivial, ?_⟩
      refine (CallsIn.inRound l' (callsIn_wide.2 (QN.out _))).mono ?_
      rintro e W1 ⟨rfl, hb1⟩
      clear x0 fx y0 fy n0 n1 zx zy zn
      replace KP := Lib.hid (keepP_t KP.out (keepP_below (by have := HN.out.lt; omega) hb1))
      replace HX := Lib.hid (HX.out.later hb1)
      replace HY := Lib.hid (HY.out.later hb1)
      replace HN := Lib.hid (HN.out.later hb1)
      replace HB := Lib.hid (Below.two HB.out hb1)
      replace KO := KO.trans (keeps_of_below hb1)
      clear hb1
      have x0 := HX.out.one
      have fx := HX.out.frozen 0
      have y0 := HY.out.one
      have fy := HY.out.frozen 0
      have n0 := HN.out.p0
      have n1 := HN.out.p1
      have zx := HX.out.lt
      have zy := HY.out.lt
      have zn := HN.out.lt
      gi_wp2_with fail
      refine ⟨trivial, ?_⟩
      gi_wp2_with fail
      exact ⟨KO.trans (KeepsOthers.setCell _ _ _), rfl, HX.out.set_ 0 _, HBAD.out, HB.out.setCell (Nat.le_refl _) _⟩
    | true =>
      cases c1 : Op.bytesLess it.1.toList pv.toList with
      | true =>
        have HBAD : Hid (chainB [] (mapL l (pre ++ [x])) = false) := by show _ = _; rw [HG2.out, HLQ.out, c1]; simp
        have x0 := HX.out.one
        have fx := HX.out.frozen 0
        have y0 := HY.out.one
        have fy := HY.out.frozen 0
        have n0 := HN.out.p0
        have n1 := HN.out.p1
        have zx := HX.out.lt
        have zy := HY.out.lt
        have zn := HN.out.lt
        gi_wp2_with fail
        refine ⟨trivial, ?_⟩
        refine (CallsIn.inRound l' (callsIn_wide.2 (QN.out _))).mono ?_
        rintro e W1 ⟨rfl, hb1⟩
        clear x0 fx y0 fy n0 n1 zx zy zn
        replace KP := Lib.hid (keepP_t KP.out (keepP_below (by have := HN.out.lt; omega) hb1))
        replace HX := Lib.hid (HX.out.later hb1)
        replace HY := Lib.hid (HY.out.later hb1)
        replace HN := Lib.hid (HN.out.later hb1)
        replace HB := Lib.hid (Below.two HB.out hb1)
        replace KO := KO.trans (keeps_of_below hb1)
        clear hb1
        have x0 := HX.out.one
        have fx := HX.out.frozen 0
        have y0 := HY.out.one
        have fy := HY.out.frozen 0
        have n0 := HN.out.p0
        have n1 := HN.out.p1
        have zx := HX.out.lt
        have zy := HY.out.lt
        have zn := HN.out.lt
        gi_wp2_with fail
        refine ⟨trivial, ?_⟩
        gi_wp2_with fail
        exact ⟨KO.trans (KeepsOthers.setCell _ _ _), rfl, HX.out.set_ 0 _, HBAD.out, HB.out.setCell (Nat.le_refl _) _⟩
      | false =>
        cases c2 : (it.1.toList == pv.toList) with
        | true =>
          have HBAD : Hid (chainB [] (mapL l (pre ++ [x])) = false) := by show _ = _; rw [HG2.out, HLQ.out, c1, c2]; simp
          have x0 := HX.out.one
          have fx := HX.out.frozen 0
          have y0 := HY.out.one
          have fy := HY.out.frozen 0
          have n0 := HN.out.p0
          have n1 := HN.out.p1
          have zx := HX.out.lt
          have zy := HY.out.lt
          have zn := HN.out.lt
          gi_wp2_with fail
          refine ⟨trivial, ?_⟩
          refine (CallsIn.inRound l' (callsIn_wide.2 (QN.out _))).mono ?_
          rintro e W1 ⟨rfl, hb1⟩
          clear x0 fx y0 fy n0 n1 zx zy zn
          replace KP := Lib.hid (keepP_t KP.out (keepP_below (by have := HN.out.lt; omega) hb1))
          replace HX := Lib.hid (HX.out.later hb1)
          replace HY := Lib.hid (HY.out.later hb1)
          replace HN := Lib.hid (HN.out.later hb1)
          replace HB := Lib.hid (Below.two HB.out hb1)
          replace KO := KO.trans (keeps_of_below hb1)
          clear hb1
          have x0 := HX.out.one
          have fx := HX.out.frozen 0
          have y0 := HY.out.one
          have fy := HY.out.frozen 0
          have n0 := HN.out.p0
          have n1 := HN.out.p1
          have zx := HX.out.lt
          have zy := HY.out.lt
          have zn := HN.out.lt
          gi_wp2_with fail
          refine ⟨trivial, ?_⟩
          gi_wp2_with fail
          exact ⟨KO.trans (KeepsOthers.setCell _ _ _), rfl, HX.out.set_ 0 _, HBAD.out, HB.out.setCell (Nat.le_refl _) _⟩
        | false =>
          have x0 := HX.out.one
          have fx := HX.out.frozen 0
          have y0 := HY.out.one
          have fy := HY.out.frozen 0
          have n0 := HN.out.p0
          have n1 := HN.out.p1
          have zx := HX.out.lt
          have zy := HY.out.lt
          have zn := HN.out.lt
          gi_wp2_with fail
          refine ⟨trivial, ?_⟩
          refine (CallsIn.inRound l' (callsIn_wide.2 (QN.out _))).mono ?_
          rintro e W1 ⟨rfl, hb1⟩
          clear x0 fx y0 fy n0 n1 zx zy zn
          have HTW1 := HTW.later hb1
          replace KP := Lib.hid (keepP_t KP.out (keepP_below (by have := HN.out.lt; omega) hb1))
          replace HX := Lib.hid (HX.out.later hb1)
          replace HY := Lib.hid (HY.out.later hb1)
          replace HN := Lib.hid (HN.out.later hb1)
          replace HB := Lib.hid (Below.two HB.out hb1)
          replace KO := KO.trans (keeps_of_below hb1)
          clear hb1
          have x0 := HX.out.one
          have fx := HX.out.frozen 0
          have y0 := HY.out.one
          have fy := HY.out.frozen 0
          have n0 := HN.out.p0
          have n1 := HN.out.p1
          have zx := HX.out.lt
          have zy := HY.out.lt
          have zn := HN.out.lt
          gi_wp2_with fail
          refine ⟨trivial, ?_⟩
          refine (CallsIn.inRound l' (callsIn_wide.2 (QV.out _ HTW1))).mono ?_
          rintro e W2 ⟨rfl, hb2⟩
          clear x0 fx y0 fy n0 n1 zx zy zn
          replace KP := Lib.hid (keepP_t KP.out (keepP_below (by have := HN.out.lt; omega) hb2))
          replace HX := Lib.hid (HX.out.later hb2)
          replace HY := Lib.hid (HY.out.later hb2)
          replace HN := Lib.hid (HN.out.later hb2)
          replace HB := Lib.hid (Below.two HB.out hb2)
          replace KO := KO.trans (keeps_of_below hb2)
          clear hb2
          have x0 := HX.out.one
          have fx := HX.out.frozen 0
          have y0 := HY.out.one
          have fy := HY.out.frozen 0
          have n0 := HN.out.p0
          have n1 := HN.out.p1
          have zx := HX.out.lt
          have zy := HY.out.lt
          have zn := HN.out.lt
          cases vl with
          | false =>
            have HBAD : Hid (chainB [] (mapL l (pre ++ [x])) = false) := by show _ = _; rw [HG2.out]; simp
            gi_wp2_with fail
            exact ⟨KO.trans (KeepsOthers.setCell _ _ _), rfl, HX.out.set_ 0 _, HBAD.out, HB.out.setCell (Nat.le_refl _) _⟩
          | true =>
            have HGD : Hid (chainB [] (mapL l (pre ++ [x])) = true) := by show _ = _; rw [HG2.out, HLQ.out, c1, c2]; rfl
            gi_wp2_with fail
            refine ⟨KO.trans (KeepsOthers.setCell _ _ _), keepP_t KP.out (keepP_set (by simp)), HX.out.far (by show w.heap.size ≠ w.heap.size + 1; omega) _, ?_, HGD.out, HB.out.setCell (Nat.le_succ _) _⟩
            rw [HNX.out]; exact HY.out.set_ 0 _
  case done =>
    rintro D ys W hD rfl ⟨hX, _, hall, hb⟩ hK
    have HE : Hid (setB l = true) := by
      show _ = _
      rw [mapL_all HZ.out] at hall
      unfold setB; rw [hall]; simp; omega
    have x0 := hX.one
    clear hX hall
    go_wp2_with fail
    try rw [Exit.noGoto_ret]
    refine ⟨by simp, .inl ⟨_, _, rfl, run_takeDeferred hK, ?_⟩⟩
    exact ⟨.bool true, by simp [results, Tryd.results12, go_sem], by rw [HE.out], hb.trans (belowK_b (w := w) (Nat.le_refl _) _ D _ _ (by omega) hK rfl rfl)⟩
  case stop =>
    rintro D c' pre W hD hpre ⟨rfl, hX, hall, hb⟩ hK
    have HE : Hid (setB l = false) := by
      show _ = _
      obtain ⟨t, ht⟩ := mapL_pre HZ.out hpre
      unfold setB; rw [show chainB [] l = false by rw [ht]; exact chainB_more _ _ _ hall]; simp
    have x0 := hX.one
    clear hX hall
    refine wpIn_wide.2 ?_
    go_wp2_with fail
    try rw [Exit.noGoto_ret]
    refine ⟨by simp, .inl ⟨_, _, rfl, run_takeDeferred hK, ?_⟩⟩
    exact ⟨.bool false, by simp [results, Tryd.results12, go_sem], by rw [HE.out], hb.trans (belowK_b (w := w) (Nat.le_refl _) _ D _ _ (by omega) hK rfl rfl)⟩
theorem right_any (A : Option Addr) (l : List Lab) (cap : Nat) (hs : ∀ x ∈ l, (x.2).size ≤ 4294967296) (w : World) (hT : Tb w) (hS : Lb w w.heap.size A l) :
    Calls Tryd.prog 12 #[.slice A l.length cap] w fun e w' => e = .returned (.bool (setB l)) ∧ Below w.heap.size w w' := by
  by_cases h : 1 ≤ l.length ∧ l.length ≤ 6
  · exact callsIn_wide.1 (right_in A l cap h.1 h.2 hs w hT hS)
  · have HE : Hid (setB l = false) := by
      show _ = _
      unfold setB; simp; omega
    by_cases h0 : l.length = 0
    · have d0 : ((l.length : Int) == 0) = true := by rw [beq_iff_eq]; omega
      have d0' : (l.length == 0) = true := by rw [beq_iff_eq]; omega
      have HN := Lib.hid h0
      generalize l.length = n at *
      clear h h0 hS
      go_enter Tryd.func12, Tryd.ntmps12
      go_wp2_with fail
      go_step3
      go_wp2_with fail
      rw [Exit.noGoto_ret]
      go_ret
      exact ⟨by rw [HE.out]; rfl, below_0 _⟩
    · have d0 : ((l.length : Int) == 0) = false := by rw [beq_eq_false_iff_ne]; omega
      have d0' : (l.length == 0) = false := by rw [beq_eq_false_iff_ne]; omega
      have d6 : decide ((6 : Int) < (l.length : Int)) = true := by simp; omega
      have d6' : decide (6 < l.length) = true := by simp; omega
      clear hS
      generalize l.length = n at *
      go_enter Tryd.func12, Tryd.ntmps12
      go_wp2_with fail
      go_step3
      go_wp2_with fail
      rw [Exit.noGoto_ret]
      go_ret
      exact ⟨by rw [HE.out]; rfl, below_0 _⟩
end
section
open Go.RowKit
set_option linter.unusedVariables false
set_option linter.unusedSimpArgs false
attribute [local go_sem] Oper.semAt_some
/-- A name's value. -/
def getL (l : List Lab) (n : ByteArray) : ByteArray × Bool := match l.find? fun x => x.1.toList == n.toList with
  | some x => (x.2, true)
  | none => (⟨#[]⟩, false)
theorem getL_nil (n : ByteArray) : getL [] n = (⟨#[]⟩, false) := rfl
theorem getL_snoc {l : List Lab} {n : ByteArray} (h : (getL l n).2 = false) (x : Lab) : getL (l ++ [x]) n = if x.1.toList == n.toList then (x.2, true) else (⟨#[]⟩, false) := by
  unfold getL at h ⊢
  rw [List.find?_append]
  cases e : l.find? fun x => x.1.toList == n.toList with
  | some y => rw [e] at h; cases h
  | none =>
    simp only [Option.none_or, List.find?_cons, List.find?_nil]
    cases e2 : x.1.toList == n.toList <;> rfl
theorem getL_none {l : List Lab} {n : ByteArray} (h : (getL l n).2 = false) : getL l n = (⟨#[]⟩, false) := by
  unfold getL at h ⊢
  cases e : l.find? fun x => x.1.toList == n.toList with
  | some y => rw [e] at h; cases h
  | none => rfl
theorem getL_more {l : List Lab} {n : ByteArray} (h : (getL l n).2 = true) (t : List Lab) : getL (l ++ t) n = getL l n := by
  unfold getL at h ⊢
  rw [List.find?_append]
  cases e : l.find? fun x => x.1.toList == n.toList with
  | some y => rfl
  | none => rw [e] at h; cases h
def GtI (w : World) (n : ByteArray) (l : List Lab) (pre : List (At l.length)) (W : World) : Prop :=
  Blk W w.heap.size 9 #[.string n] ∧ Blk W (w.heap.size + 1) 9 #[.string ⟨#[]⟩] ∧ Blk W (w.heap.size + 1 + 1) 4 #[.bool false] ∧ (getL (mapL l pre) n).2 = false ∧ Below w.heap.size w W
def GtX (w : World) (n : ByteArray) (l : List Lab) (c : Code) (pre : List (At l.length)) (W : World) : Prop :=
  c = .ret ∧ Blk W (w.heap.size + 1) 9 #[.string (getL (mapL l pre) n).1] ∧ Blk W (w.heap.size + 1 + 1) 4 #[.bool true] ∧ (getL (mapL l pre) n).2 = true ∧ Below w.heap.size w W
theorem GtI_own {w : World} {n : ByteArray} {l : List Lab} {Bd : Nat} (hB : w.heap.size ≤ Bd) : OwnFrom Bd (GtI w n l) := by
  rintro s W W' row ⟨h1, h2, h3, h5, h4⟩ hg hr
  exact ⟨h1.kept hg (fun r e => (hr r e).2), h2.kept hg (fun r e => (hr r e).2), h3.kept hg (fun r e => (hr r e).2), h5, h4.grown hg h4.size (fun k e => Nat.le_trans hB (hr k e).1)⟩
theorem GtX_own {w : World} {n : ByteArray} {l : List Lab} {c : Code} {Bd : Nat} (hB : w.heap.size ≤ Bd) : OwnFrom Bd (GtX w n l c) := by
  rintro s W W' row ⟨h0, h1, h2, h3, h4⟩ hg hr
  exact ⟨h0, h1.kept hg (fun r e => (hr r e).2), h2.kept hg (fun r e => (hr r e).2), h3, h4.grown hg h4.size (fun k e => Nat.le_trans hB (hr k e).1)⟩
set_option maxRecDepth 100000 in
set_option maxHeartbeats 4000000 in
theorem get_in (A : Option Addr) (l : List Lab) (cap : Nat) (n : ByteArray) (h6 : l.length ≤ 4294967296) (w : World) (hS : Lb w w.heap.size A l) :
    CallsIn Fence.wide 6 Tryd.prog 18 #[.slice A l.length cap, .string n] w fun e w' => e = .returned (.tuple #[.string (getL l n).1, .bool (getL l n).2]) ∧ Below w.heap.size w w' := by
  have T : Below w.heap.size w (((w.alloc (.cells #[.string n] 9)).alloc (.cells #[.string ⟨#[]⟩] 9)).alloc (.cells #[.bool false] 4)) := below_al (below_al (below_al (below_0 _) _) _) _
  have X := Lib.hid (((Blk.new w 9 #[.string n]).alloc (.cells #[.string ⟨#[]⟩] 9)).alloc (.cells #[.bool false] 4))
  have Y := Lib.hid ((blk_new2 w (.cells #[.string n] 9) 9 #[.string ⟨#[]⟩]).alloc (.cells #[.bool false] 4))
  have Y2 := Lib.hid (blk_new3 w (.cells #[.string n] 9) (.cells #[.string ⟨#[]⟩] 9) 4 #[.bool false])
  have HS := Lib.hid (ls_later hS T)
  have NE : Hid (l.length ≠ 0 → ∀ ad, A = some ad → ad.block < w.heap.size) := fun h ad e => by
    obtain ⟨b, off, e', hb, _⟩ := hS.at_ (by omega)
    rw [e'] at e; cases e; exact hb
  clear hS
  refine callsIn_of_wp_marks Tryd.func18 rfl trivial ?_ rfl
  simp only [Tryd.ntmps18, List.size_toArray, List.length_cons, List.length_nil, Nat.reduceAdd, Nat.reduceSub, Array.replicate_succ, Array.replicate_zero, List.push_toArray, List.append_toArray, List.nil_append, List.cons_append]
  refine wpIn_wide.2 ?_
  go_wp2_with fail
  generalize ((w.alloc (.cells #[.string n] 9)).alloc (.cells #[.string ⟨#[]⟩] 9)).alloc (.cells #[.bool false] 4) = w1 at *
  refine (each_any _ _ _ _).mono ?_
  rintro e w' ⟨rfl, rfl⟩
  have hba := below_al (below_0 w1) (.cells #[.slice A l.length cap] 29)
  have Z := Lib.hid (Blk.new w1 29 #[.slice A l.length cap])
  have WZ := Lib.hid Y2.out.lt
  replace X := Lib.hid (X.out.later hba)
  replace Y := Lib.hid (Y.out.later hba)
  replace Y2 := Lib.hid (Y2.out.later hba)
  replace HS := Lib.hid (ls_later HS.out hba)
  replace T := Below.two T hba
  clear hba
  go_wp2_with fail
  generalize w1.alloc (.cells #[.slice A l.length cap] 29) = V at *
  have xz := X.out.lt
  have yz := Y.out.lt
  have yz2 := Y2.out.lt
  have wz := WZ.out
  have vz := Z.out.lt
  obtain ⟨zs, hzs⟩ := exists_at (N := l.length) (List.range l.length) (fun p hp => List.mem_range.1 hp)
  have HZ := Lib.hid hzs
  have hst : GtI w n l [] V := ⟨X.out, Y.out, Y2.out, rfl, T⟩
  clear hzs
  refine (wpIn_wide (n := 6)).1 ?_
  refine rangeFunc_box rfl (by omega) (gf := 34) (lb := #[.pointer (some ⟨w1.heap.size, 0, none⟩)]) rfl trivial (enters_of Tryd.func34 (by kernel_rfl) rfl)
    (values_stops 5 (by omega) w1.heap.size cap (fun i => i ≠ w.heap.size + 1 ∧ i ≠ w.heap.size + 1 + 1) A l zs HZ.out (by omega) V ⟨by omega, by omega⟩ (fun h ad e => by have := NE.out h ad e; exact ⟨by omega, by omega⟩) Z.out HS.out)
    (fun h k => keepP_t h k) (keepP_b (by omega)) (fun W o h => keepP_below (by omega) (below_al (below_0 W) o)) (Below.refl _ _) (fun _ => rfl)
    (GtI w n l) (GtX w n l) (GtI_own (by omega)) (fun c => GtX_own (by omega)) hst
    (fun x b => { tmps := #[.slice A l.length cap, .string n, undef, .pointer (some ⟨w.heap.size, 0, none⟩), .pointer (some ⟨w.heap.size + 1, 0, none⟩), .pointer (some ⟨w.heap.size + 1 + 1, 0, none⟩), .pointer (some ⟨b, 0, none⟩), .slice A l.length cap,
      .func (.func 34) #[] #[.pointer (some ⟨w1.heap.size, 0, none⟩)], .agg #[.string (lth l x.1).1, .string (lth l x.1).2], undef, undef, undef, undef, undef, undef], defers := [] })
    (fun x => .cells #[.string (lth l x.1).1, .string (lth l x.1).2] 37) ?assign ?body ?done ?stop
  case assign =>
    intro l x W K hK
    gi_wp2
    exact hK
  case body =>
    rintro l' pre x W b ⟨hX, hY, hY2, hall, hb⟩ hbz hN hlt
    have HX := Lib.hid hX
    have HY := Lib.hid hY
    have HY2 := Lib.hid hY2
    have HN : Hid (Blk W b 37 #[.string (lth l x.1).1, .string (lth l x.1).2]) := hN
    have HB := Lib.hid hb
    have HG2 : Hid (getL (mapL l (pre ++ [x])) n = if (lth l x.1).1.toList == n.toList then ((lth l x.1).2, true) else (⟨#[]⟩, false)) := by show _ = _; rw [mapL_snoc, getL_snoc hall]
    have KO : KeepsOthers W W := KeepsOthers.refl _
    clear hX hY hY2 hN hb hall
    generalize lth l x.1 = it at *
    have x0 := HX.out.one
    have n0 := HN.out.p0
    have n1 := HN.out.p1
    have fy := HY.out.frozen 0
    have fy2 := HY2.out.frozen 0
    have y0 := HY.out.one
    have y2 := HY2.out.one
    have zx := HX.out.lt
    have zy := HY.out.lt
    have zy2 := HY2.out.lt
    have zn := HN.out.lt
    cases c1 : it.1.toList == n.toList with
    | true =>
      have HR : Hid (getL (mapL l (pre ++ [x])) n = (it.2, true)) := by show _ = _; rw [HG2.out, c1]; rfl
      gi_wp2_with fail
      refine ⟨(KO.trans (KeepsOthers.setCell _ _ _)).trans (KeepsOthers.setCell _ _ _), rfl, ?_, ?_, ?_, ?_⟩
      · rw [HR.out]; exact (HY.out.set_ 0 _).far (by show w.heap.size + 1 ≠ w.heap.size + 1 + 1; omega) _
      · exact (HY2.out.far (by show w.heap.size + 1 + 1 ≠ w.heap.size + 1; omega) _).set_ 0 _
      · rw [HR.out]
      · exact (HB.out.setCell (Nat.le_succ _) _).setCell (by show w.heap.size ≤ w.heap.size + 1 + 1; omega) _
    | false =>
      have HR : Hid (getL (mapL l (pre ++ [x])) n = (⟨#[]⟩, false)) := by show _ = _; rw [HG2.out, c1]; rfl
      gi_wp2_with fail
      exact ⟨KO, keepP_refl _ _ _, HX.out, HY.out, HY2.out, by rw [HR.out], HB.out⟩
  case done =>
    rintro D ys W hD rfl ⟨hX, hY, hY2, hall, hb⟩ hK
    have HE : Hid (getL l n = (⟨#[]⟩, false)) := by
      show _ = _
      rw [mapL_all HZ.out] at hall
      exact getL_none hall
    have fy := hY.frozen 0
    have fy2 := hY2.frozen 0
    have y0 := hY.one
    have y2 := hY2.one
    have zy := hY.lt
    have zy2 := hY2.lt
    have HY := Lib.hid hY
    have HY2 := Lib.hid hY2
    have HB := Lib.hid hb
    have HK := Lib.hid hK
    clear hX hall hY hY2 hb hK
    go_wp2_with fail
    try rw [Exit.noGoto_ret]
    have hK2 : ((W.setCell ⟨w.heap.size + 1, 0, none⟩ (.string ⟨#[]⟩)).setCell ⟨w.heap.size + 1 + 1, 0, none⟩ (.bool false)).heap[D]? = some (.deferred (some [])) :=
      (Below.heap_setCell _ ⟨w.heap.size + 1 + 1, 0, none⟩ _ D (by show D ≠ w.heap.size + 1 + 1; omega)).trans ((Below.heap_setCell W ⟨w.heap.size + 1, 0, none⟩ _ D (by show D ≠ w.heap.size + 1; omega)).trans HK.out)
    refine ⟨by simp, .inl ⟨_, _, rfl, run_takeDeferred hK2, ?_⟩⟩
    have hb2 : Below w.heap.size w ((W.setCell ⟨w.heap.size + 1, 0, none⟩ (.string ⟨#[]⟩)).setCell ⟨w.heap.size + 1 + 1, 0, none⟩ (.bool false)) := (HB.out.setCell (Nat.le_succ _) _).setCell (by show w.heap.size ≤ w.heap.size + 1 + 1; omega) _
    have B1 : Blk ((W.setCell ⟨w.heap.size + 1, 0, none⟩ (.string ⟨#[]⟩)).setCell ⟨w.heap.size + 1 + 1, 0, none⟩ (.bool false)) (w.heap.size + 1) 9 #[.string ⟨#[]⟩] := (HY.out.set_ 0 _).far (by show w.heap.size + 1 ≠ w.heap.size + 1 + 1; omega) _
    have B2 : Blk ((W.setCell ⟨w.heap.size + 1, 0, none⟩ (.string ⟨#[]⟩)).setCell ⟨w.heap.size + 1 + 1, 0, none⟩ (.bool false)) (w.heap.size + 1 + 1) 4 #[.bool false] := (HY2.out.far (by show w.heap.size + 1 + 1 ≠ w.heap.size + 1; omega) _).set_ 0 _
    generalize (W.setCell ⟨w.heap.size + 1, 0, none⟩ (.string ⟨#[]⟩)).setCell ⟨w.heap.size + 1 + 1, 0, none⟩ (.bool false) = W4 at *
    have hd1 : w.heap.size + 1 ≠ D := by omega
    have hd2 : w.heap.size + 1 + 1 ≠ D := by omega
    have hbK := belowK_b (w := w) (Nat.le_refl _) W4 D _ (.deferred none) (by omega) hK2 rfl rfl
    have q1 : (W4.putObj D (.deferred none)).cell? ⟨w.heap.size + 1, 0, none⟩ = some (.string ⟨#[]⟩) := (World.cell?_of_block (World.putObj_heap_other (by first | exact hd1 | exact hd1.symm | exact hd2 | exact hd2.symm))).trans B1.one
    have q2 : (W4.putObj D (.deferred none)).cell? ⟨w.heap.size + 1 + 1, 0, none⟩ = some (.bool false) := (World.cell?_of_block (World.putObj_heap_other (by first | exact hd1 | exact hd1.symm | exact hd2 | exact hd2.symm))).trans B2.one
    exact ⟨.tuple #[.string ⟨#[]⟩, .bool false], by simp [results, Tryd.results18, go_sem, q1, q2], by rw [HE.out], hb2.trans hbK⟩
  case stop =>
    rintro D c' pre W hD hpre ⟨rfl, hY, hY2, hall, hb⟩ hK
    have HE : Hid (getL l n = ((getL (mapL l pre) n).1, true)) := by
      show _ = _
      obtain ⟨t, ht⟩ := mapL_pre HZ.out hpre
      have : getL l n = getL (mapL l pre) n := by conv => lhs; rw [ht]
                                                  exact getL_more hall t
      rw [this]
      exact Prod.ext rfl hall
    have y0 := hY.one
    have y1 := hY2.one
    clear hall
    refine wpIn_wide.2 ?_
    go_wp2_with fail
    try rw [Exit.noGoto_ret]
    refine ⟨by simp, .inl ⟨_, _, rfl, run_takeDeferred hK, ?_⟩⟩
    have hd1 : w.heap.size + 1 ≠ D := by omega
    have hd2 : w.heap.size + 1 + 1 ≠ D := by omega
    have hbK := belowK_b (w := w) (Nat.le_refl _) W D _ (.deferred none) (by omega) hK rfl rfl
    have q1 : (W.putObj D (.deferred none)).cell? ⟨w.heap.size + 1, 0, none⟩ = _ := (World.cell?_of_block (World.putObj_heap_other (by first | exact hd1 | exact hd1.symm | exact hd2 | exact hd2.symm))).trans y0
    have q2 : (W.putObj D (.deferred none)).cell? ⟨w.heap.size + 1 + 1, 0, none⟩ = some (.bool true) := (World.cell?_of_block (World.putObj_heap_other (by first | exact hd1 | exact hd1.symm | exact hd2 | exact hd2.symm))).trans y1
    exact ⟨.tuple #[.string (getL (mapL l pre) n).1, .bool true], by simp [results, Tryd.results18, go_sem, q1, q2], by rw [HE.out], hb.trans hbK⟩
theorem get_any (A : Option Addr) (l : List Lab) (cap : Nat) (n : ByteArray) (h6 : l.length ≤ 4294967296) (w : World) (hS : Lb w w.heap.size A l) :
    Calls Tryd.prog 18 #[.slice A l.length cap, .string n] w fun e w' => e = .returned (.tuple #[.string (getL l n).1, .bool (getL l n).2]) ∧ Below w.heap.size w w' := callsIn_wide.1 (get_in A l cap n h6 w hS)
end
end Go.Proofs.YtgfoeicfigfepaaDoor

/-
  The order of texts, and lists of labels put in order. No program in sight.
-/
import Derived.Test.YtlcpigkgbihebaaDoorLabs
import Derived.Test.YtlcpigkgbihebaaDoorRunes
namespace Go.Proofs.YtlcpigkgbihebaaDoor
/-- Does a text stand ahead of another? -/
abbrev lsB (a b : List UInt8) : Bool := Op.bytesLess a b
theorem lsB_irr : ∀ a : List UInt8, lsB a a = false
  | [] => rfl
  | x :: a => by
    have h := lsB_irr a
    unfold lsB at h ⊢
    rw [Op.bytesLess, h]
    simp
theorem lsB_trans : ∀ {a b c : List UInt8}, lsB a b = true → lsB b c = true → lsB a c = true
  | [], [], _, h, _ => by simp [lsB, Op.bytesLess] at h
  | [], _ :: _, [], _, h => by simp [lsB, Op.bytesLess] at h
  | [], _ :: _, _ :: _, _, _ => by simp [lsB, Op.bytesLess]
  | _ :: _, [], _, h, _ => by simp [lsB, Op.bytesLess] at h
  | _ :: _, _ :: _, [], _, h => by simp [lsB, Op.bytesLess] at h
  | x :: a, y :: b, z :: c, h, k => by
    unfold lsB at h k ⊢
    rw [Op.bytesLess, Bool.or_eq_true, Bool.and_eq_true, decide_eq_true_eq, beq_iff_eq] at h k ⊢
    rcases h with h | ⟨rfl, h⟩
    · rcases k with k | ⟨rfl, k⟩
      · exact .inl (UInt8.lt_trans h k)
      · exact .inl h
    · rcases k with k | ⟨rfl, k⟩
      · exact .inl k
      · exact .inr ⟨rfl, lsB_trans h k⟩
theorem lsB_tri : ∀ a b : List UInt8, lsB a b = true ∨ a = b ∨ lsB b a = true
  | [], [] => .inr (.inl rfl)
  | [], _ :: _ => .inl (by simp [lsB, Op.bytesLess])
  | _ :: _, [] => .inr (.inr (by simp [lsB, Op.bytesLess]))
  | x :: a, y :: b => by
    unfold lsB
    rw [Op.bytesLess, Op.bytesLess, Bool.or_eq_true, Bool.and_eq_true, decide_eq_true_eq, beq_iff_eq, Bool.or_eq_true, Bool.and_eq_true, decide_eq_true_eq, beq_iff_eq]
    by_cases h : x < y
    · exact .inl (.inl h)
    · by_cases h' : y < x
      · exact .inr (.inr (.inl h'))
      · have e : x = y := UInt8.le_antisymm (UInt8.not_lt.1 h') (UInt8.not_lt.1 h)
        subst e
        rcases lsB_tri a b with k | k | k
        · exact .inl (.inr ⟨rfl, k⟩)
        · exact .inr (.inl (by rw [k]))
        · exact .inr (.inr (.inr ⟨rfl, k⟩))
theorem lsB_asymm {a b : List UInt8} (h : lsB a b = true) : lsB b a = false := by
  cases k : lsB b a with
  | false => rfl
  | true =>
    have := lsB_trans h k
    rw [lsB_irr] at this
    cases this
/-- What is not ahead of one, which is not ahead of a third, is not ahead of it. -/
theorem lsB_ntrans {a b c : List UInt8} (h : lsB b a = false) (k : lsB c b = false) : lsB c a = false := by
  rcases lsB_tri a b with h1 | h1 | h1
  · rcases lsB_tri b c with k1 | k1 | k1
    · exact lsB_asymm (lsB_trans h1 k1)
    · rw [← k1]; exact h
    · rw [k1] at k; cases k
  · rw [h1]; exact k
  · rw [h1] at h; cases h
/-- Is a label ahead of another, by its name? -/
def ahead (x y : Lab) : Bool := lsB (tx x.1) (tx y.1)
/-- The first i labels are in order. -/
def Srt (l : List Lab) (i : Nat) : Prop := ∀ a b, a < b → b < i → ahead (lth l b) (lth l a) = false
/-- All but place j of the first i + 1 are in order, and what stands behind place j is behind it. -/
structure Mid (l : List Lab) (i j : Nat) : Prop where
  le : j ≤ i
  lt : i < l.length
  ord : ∀ a b, a < b → b ≤ i → a ≠ j → b ≠ j → ahead (lth l b) (lth l a) = false
  up : ∀ b, j < b → b ≤ i → ahead (lth l j) (lth l b) = true
def swapL (l : List Lab) (j : Nat) : List Lab := (l.set j (lth l (j - 1))).set (j - 1) (lth l j)
theorem swapL_len (l : List Lab) (j : Nat) : (swapL l j).length = l.length := by simp [swapL]
theorem lth_set {l : List Lab} {j : Nat} {x : Lab} (k : Nat) (hj : j < l.length) : lth (l.set j x) k = if k = j then x else lth l k := by
  unfold lth
  by_cases h : k = j
  · subst h; rw [if_pos rfl, List.getElem?_set_self hj]; rfl
  · rw [if_neg h, List.getElem?_set_ne (fun e => h e.symm)]
theorem lth_swap {l : List Lab} {j : Nat} (h0 : 0 < j) (hj : j < l.length) (k : Nat) : lth (swapL l j) k = if k = j - 1 then lth l j else if k = j then lth l (j - 1) else lth l k := by
  unfold swapL
  rw [lth_set k (by rw [List.length_set]; omega), lth_set k hj]
theorem perm_swap {l : List Lab} {j : Nat} (h0 : 0 < j) (hj : j < l.length) : (swapL l j).Perm l := by
  have e : l = l.take (j - 1) ++ lth l (j - 1) :: lth l j :: l.drop (j + 1) := by
    have h1 : l.drop (j - 1) = lth l (j - 1) :: l.drop j := by
      rw [List.drop_eq_getElem_cons (by omega)]
      have : j - 1 + 1 = j := by omega
      rw [this]
      simp [lth, show j - 1 < l.length by omega]
    have h2 : l.drop j = lth l j :: l.drop (j + 1) := by
      rw [List.drop_eq_getElem_cons hj]; simp [lth, hj]
    rw [← h2, ← h1, List.take_append_drop]
  have e2 : swapL l j = l.take (j - 1) ++ lth l j :: lth l (j - 1) :: l.drop (j + 1) := by
    apply List.ext_getElem?
    intro k
    have hl : (l.take (j - 1)).length = j - 1 := by rw [List.length_take]; omega
    unfold swapL
    rw [List.getElem?_set, List.getElem?_set, List.length_set]
    by_cases h1 : k < j - 1
    · rw [if_neg (by omega), if_neg (by omega), List.getElem?_append_left (by omega), List.getElem?_take, if_pos h1]
    · rw [List.getElem?_append_right (by omega), hl]
      by_cases h2 : k = j - 1
      · subst h2; simp; omega
      · rw [if_neg (by omega)]
        by_cases h3 : k = j
        · subst h3
          have : k - (k - 1) = 1 := by omega
          rw [this]; simp [hj]
        · rw [if_neg (by omega)]
          obtain ⟨q, rfl⟩ : ∃ q, k = j + 1 + q := ⟨k - (j + 1), by omega⟩
          have : j + 1 + q - (j - 1) = q + 1 + 1 := by omega
          rw [this, List.getElem?_cons_succ, List.getElem?_cons_succ, List.getElem?_drop]
  rw [e2]
  conv => rhs; rw [e]
  exact List.Perm.append_left _ (List.Perm.swap _ _ _)
theorem Mid.start {l : List Lab} {i : Nat} (h : Srt l i) (hi : i < l.length) : Mid l i i :=
  ⟨Nat.le_refl _, hi, fun a b hab hb ha hb' => h a b hab (by omega), fun b h1 h2 => by omega⟩
theorem Mid.swap {l : List Lab} {i j : Nat} (h : Mid l i j) (h0 : 0 < j) (hs : ahead (lth l j) (lth l (j - 1)) = true) : Mid (swapL l j) i (j - 1) := by
  have hj : j < l.length := by have := h.le; have := h.lt; omega
  refine ⟨by have := h.le; omega, by rw [swapL_len]; exact h.lt, fun a b hab hb ha hb' => ?_, fun b h1 h2 => ?_⟩
  · rw [lth_swap h0 hj, lth_swap h0 hj, if_neg hb', if_neg ha]
    by_cases hbj : b = j
    · subst hbj; rw [if_pos rfl, if_neg (by omega)]; exact h.ord a (b - 1) (by omega) (by omega) (by omega) (by omega)
    · rw [if_neg hbj]
      by_cases haj : a = j
      · subst haj; rw [if_pos rfl]; exact h.ord (a - 1) b (by omega) hb (by omega) hbj
      · rw [if_neg haj]; exact h.ord a b hab hb haj hbj
  · rw [lth_swap h0 hj, lth_swap h0 hj, if_pos rfl, if_neg (by omega)]
    by_cases hbj : b = j
    · subst hbj; rw [if_pos rfl]; exact hs
    · rw [if_neg hbj]; exact h.up b (by omega) h2
theorem Mid.done {l : List Lab} {i j : Nat} (h : Mid l i j) (hs : j = 0 ∨ ahead (lth l j) (lth l (j - 1)) = false) : Srt l (i + 1) := by
  intro a b hab hb
  by_cases haj : a = j
  · subst haj; exact lsB_asymm (h.up b hab (by omega))
  · by_cases hbj : b = j
    · subst hbj
      rcases hs with rfl | hs
      · omega
      · by_cases e : a = b - 1
        · subst e; exact hs
        · exact lsB_ntrans (h.ord a (b - 1) (by omega) (by omega) haj (by omega)) hs
    · exact h.ord a b hab (by omega) haj hbj
theorem flatL_set {l : List Lab} {j : Nat} {x : Lab} : ((flatL l).set (j * 2) (.string x.1)).set (j * 2 + 1) (.string x.2) = flatL (l.set j x) := by
  induction l generalizing j with
  | nil => simp [flatL]
  | cons y l ih =>
    cases j with
    | zero => simp [flatL]
    | succ j =>
      have e : (j + 1) * 2 = j * 2 + 1 + 1 := by omega
      rw [e]
      simp only [List.set_cons_succ, flatL, List.flatMap_cons, List.cons_append, List.nil_append] at ih ⊢
      rw [ih]
end Go.Proofs.YtlcpigkgbihebaaDoor

/-
  Runes of two texts, one behind the other. No program in sight.
-/
import Derived.Test.YtlcpigkgbihebaaDoorRunes
namespace Go.Proofs.YtlcpigkgbihebaaDoor
set_option linter.unusedVariables false
set_option linter.unusedSimpArgs false
theorem decN_more {n n' b0 b1 b2 b3 c1 c2 c3 : Nat} (hn : n ≤ n') (h1 : 1 < n → c1 = b1) (h2 : 2 < n → c2 = b2) (h3 : 3 < n → c3 = b3) (h : Lib.decodeN n b0 b1 b2 b3 ≠ (65533, 1)) : Lib.decodeN n' b0 c1 c2 c3 = Lib.decodeN n b0 b1 b2 b3 := by
  by_cases a0 : b0 < 128
  · simp [Lib.decodeN, a0]
  by_cases a1 : b0 / 32 = 6
  · have a2 : ¬ b0 / 16 = 14 := by omega
    have a3 : ¬ b0 / 8 = 30 := by omega
    by_cases k1 : 1 < n ∧ b1 / 64 = 2
    · have e1 := h1 k1.1
      subst e1
      have k1' : 1 < n' ∧ c1 / 64 = 2 := ⟨by omega, k1.2⟩
      simp only [Lib.decodeN, a0, a1, k1, k1', if_true, if_false, and_self, true_and]
    · exact absurd (by simp only [Lib.decodeN, a0, a1, a2, a3, k1, if_false, and_false, false_and]) h
  by_cases a2 : b0 / 16 = 14
  · have a3 : ¬ b0 / 8 = 30 := by omega
    by_cases k1 : (1 < n ∧ b1 / 64 = 2) ∧ (2 < n ∧ b2 / 64 = 2)
    · have e1 := h1 k1.1.1
      have e2 := h2 k1.2.1
      subst e1 e2
      have k1' : (1 < n' ∧ c1 / 64 = 2) ∧ (2 < n' ∧ c2 / 64 = 2) := ⟨⟨by omega, k1.1.2⟩, ⟨by omega, k1.2.2⟩⟩
      simp only [Lib.decodeN, a0, a1, a2, k1, k1', if_true, if_false, and_self, true_and, false_and]
    · exact absurd (by simp only [Lib.decodeN, a0, a1, a2, a3, k1, if_false, and_false, false_and, true_and]) h
  by_cases a3 : b0 / 8 = 30
  · by_cases k1 : (1 < n ∧ b1 / 64 = 2) ∧ (2 < n ∧ b2 / 64 = 2) ∧ (3 < n ∧ b3 / 64 = 2)
    · have e1 := h1 k1.1.1
      have e2 := h2 k1.2.1.1
      have e3 := h3 k1.2.2.1
      subst e1 e2 e3
      have k1' : (1 < n' ∧ c1 / 64 = 2) ∧ (2 < n' ∧ c2 / 64 = 2) ∧ (3 < n' ∧ c3 / 64 = 2) := ⟨⟨by omega, k1.1.2⟩, ⟨by omega, k1.2.1.2⟩, ⟨by omega, k1.2.2.2⟩⟩
      simp only [Lib.decodeN, a0, a1, a2, a3, k1, k1', if_true, if_false, and_self, true_and, false_and]
    · exact absurd (by simp only [Lib.decodeN, a0, a1, a2, a3, k1, if_false, and_false, false_and, true_and]) h
  exact absurd (by simp only [Lib.decodeN, a0, a1, a2, a3, if_false, false_and]) h
/-- What is wrong stays wrong, where no continuation comes behind. -/
theorem decN_bad {n n' b0 b1 b2 b3 c1 c2 c3 : Nat} (hn : n ≤ n') (hp : 1 ≤ n) (h1 : 1 < n → c1 = b1) (h2 : 2 < n → c2 = b2) (h3 : 3 < n → c3 = b3) (g1 : n = 1 → n < n' → ¬ c1 / 64 = 2) (g2 : n = 2 → n < n' → ¬ c2 / 64 = 2) (g3 : n = 3 → n < n' → ¬ c3 / 64 = 2) (h : Lib.decodeN n b0 b1 b2 b3 = (65533, 1)) : Lib.decodeN n' b0 c1 c2 c3 = (65533, 1) := by
  by_cases a0 : b0 < 128
  · simp only [Lib.decodeN, a0, if_true] at h ⊢
    exact h
  by_cases a1 : b0 / 32 = 6
  · have a2 : ¬ b0 / 16 = 14 := by omega
    have a3 : ¬ b0 / 8 = 30 := by omega
    by_cases k1 : 1 < n' ∧ c1 / 64 = 2
    · have hn1 : 1 < n := by
        rcases Nat.lt_or_ge 1 n with h | h
        · exact h
        · exact absurd k1.2 (g1 (by omega) (by omega))
      have e1 := h1 hn1
      subst e1
      have k1' : 1 < n ∧ c1 / 64 = 2 := ⟨hn1, k1.2⟩
      simp only [Lib.decodeN, a0, a1, k1, k1', if_true, if_false, and_self, true_and] at h ⊢
      exact h
    · simp only [Lib.decodeN, a0, a1, a2, a3, k1, if_false, and_false, false_and]
  by_cases a2 : b0 / 16 = 14
  · have a3 : ¬ b0 / 8 = 30 := by omega
    by_cases k1 : (1 < n' ∧ c1 / 64 = 2) ∧ (2 < n' ∧ c2 / 64 = 2)
    · have hn1 : 2 < n := by
        rcases Nat.lt_or_ge 2 n with h | h
        · exact h
        · by_cases e : n = 1
          · exact absurd k1.1.2 (g1 e (by omega))
          · exact absurd k1.2.2 (g2 (by omega) (by omega))
      have e1 := h1 (by omega)
      have e2 := h2 hn1
      subst e1 e2
      have k1' : (1 < n ∧ c1 / 64 = 2) ∧ (2 < n ∧ c2 / 64 = 2) := ⟨⟨by omega, k1.1.2⟩, ⟨by omega, k1.2.2⟩⟩
      simp only [Lib.decodeN, a0, a1, a2, k1, k1', if_true, if_false, and_self, true_and, false_and] at h ⊢
      exact h
    · simp only [Lib.decodeN, a0, a1, a2, a3, k1, if_false, and_false, false_and, true_and]
  by_cases a3 : b0 / 8 = 30
  · by_cases k1 : (1 < n' ∧ c1 / 64 = 2) ∧ (2 < n' ∧ c2 / 64 = 2) ∧ (3 < n' ∧ c3 / 64 = 2)
    · have hn1 : 3 < n := by
        rcases Nat.lt_or_ge 3 n with h | h
        · exact h
        · by_cases e : n = 1
          · exact absurd k1.1.2 (g1 e (by omega))
          · by_cases e2 : n = 2
            · exact absurd k1.2.1.2 (g2 e2 (by omega))
            · exact absurd k1.2.2.2 (g3 (by omega) (by omega))
      have e1 := h1 (by omega)
      have e2 := h2 (by omega)
      have e3 := h3 hn1
      subst e1 e2 e3
      have k1' : (1 < n ∧ c1 / 64 = 2) ∧ (2 < n ∧ c2 / 64 = 2) ∧ (3 < n ∧ c3 / 64 = 2) := ⟨⟨by omega, k1.1.2⟩, ⟨by omega, k1.2.1.2⟩, ⟨by omega, k1.2.2.2⟩⟩
      simp only [Lib.decodeN, a0, a1, a2, a3, k1, k1', if_true, if_false, and_self, true_and, false_and] at h ⊢
      exact h
    · simp only [Lib.decodeN, a0, a1, a2, a3, k1, if_false, and_false, false_and, true_and]
  simp only [Lib.decodeN, a0, a1, a2, a3, if_false, false_and]
theorem getD_left {a b : List UInt8} {i : Nat} (h : i < a.length) : (a ++ b).getD i 0 = a.getD i 0 := by
  rw [List.getD_eq_getElem?_getD, List.getD_eq_getElem?_getD, List.getElem?_append_left h]
theorem getD_right {a b : List UInt8} {i : Nat} (h : i = a.length) : (a ++ b).getD i 0 = b.getD 0 0 := by
  rw [List.getD_eq_getElem?_getD, List.getD_eq_getElem?_getD, List.getElem?_append_right (by omega), h, Nat.sub_self]
theorem okR_iff (x : Nat × Nat) : okR x = false ↔ x = (65533, 1) := by
  obtain ⟨a, b⟩ := x
  simp [okR]
theorem dec_ok_append {a : List UInt8} (b : List UInt8) (ha : a ≠ []) (h : okR (decL a) = true) : decL (a ++ b) = decL a := by
  have hl : 0 < a.length := List.length_pos_iff.2 ha
  unfold decL
  rw [getD_left hl]
  refine decN_more (by rw [List.length_append]; omega) (fun h => by rw [getD_left h]) (fun h => by rw [getD_left h]) (fun h => by rw [getD_left h]) (fun e => ?_)
  have := (okR_iff (decL a)).2 e
  rw [h] at this
  cases this
/-- A right text begins with no continuation. -/
theorem valid_head {b : List UInt8} (hb : b ≠ []) (h : okR (decL b) = true) : ¬ (b.getD 0 0).toNat / 64 = 2 := by
  intro e
  have : okR (decL b) = false := by
    rw [okR_iff]
    unfold decL
    have a0 : ¬ (b.getD 0 0).toNat < 128 := by omega
    have a1 : ¬ (b.getD 0 0).toNat / 32 = 6 := by omega
    have a2 : ¬ (b.getD 0 0).toNat / 16 = 14 := by omega
    have a3 : ¬ (b.getD 0 0).toNat / 8 = 30 := by omega
    simp only [Lib.decodeN, a0, a1, a2, a3, if_false, false_and]
  rw [h] at this
  cases this
theorem dec_bad_append {a b : List UInt8} (ha : a ≠ []) (hb : b ≠ [] → okR (decL b) = true) (h : okR (decL a) = false) : okR (decL (a ++ b)) = false := by
  have hl : 0 < a.length := List.length_pos_iff.2 ha
  rw [okR_iff] at h ⊢
  unfold decL at h ⊢
  rw [getD_left hl]
  have hc : a.length < (a ++ b).length → ¬ (b.getD 0 0).toNat / 64 = 2 := fun hlt => by
    have hbn : b ≠ [] := by rintro rfl; simp at hlt
    exact valid_head hbn (hb hbn)
  refine decN_bad (by rw [List.length_append]; omega) hl (fun h => by rw [getD_left h]) (fun h => by rw [getD_left h]) (fun h => by rw [getD_left h]) (fun e k => by rw [getD_right e.symm]; exact hc k) (fun e k => by rw [getD_right e.symm]; exact hc k) (fun e k => by rw [getD_right e.symm]; exact hc k) h
theorem valid_cons {l : List UInt8} (h : l ≠ []) : validL l = (okR (decL l) && validL (l.drop (decL l).2)) := by
  unfold validL; rw [cp_cons h]; rfl
theorem drop_append_le {a b : List UInt8} {n : Nat} (h : n ≤ a.length) : (a ++ b).drop n = a.drop n ++ b := List.drop_append_of_le_length h
theorem cp_append : ∀ (n : Nat) (a b : List UInt8), a.length ≤ n → validL a = true → cp (a ++ b) = cp a ++ cp b
  | 0, a, b, h, _ => by
    have : a = [] := List.eq_nil_of_length_eq_zero (by omega)
    subst this; rfl
  | n + 1, a, b, h, hv => by
    by_cases ha : a = []
    · subst ha; rfl
    · rw [valid_cons ha, Bool.and_eq_true] at hv
      have hd := dec_ok_append b ha hv.1
      have hbd := decL_bd a
      have hle := hbd.2.2.2 ha
      rw [cp_cons (by simp [ha]), cp_cons ha, hd, drop_append_le hle, cp_append n _ _ (by rw [List.length_drop]; omega) hv.2]
      rfl
theorem valid_append {a b : List UInt8} (h : validL a = true) : validL (a ++ b) = validL b := by
  have e := cp_append a.length a b (Nat.le_refl _) h
  unfold validL at h ⊢
  rw [e, List.all_append, h, Bool.true_and]
theorem valid_bad : ∀ (n : Nat) (a b : List UInt8), a.length ≤ n → validL a = false → validL b = true → validL (a ++ b) = false
  | 0, a, b, h, hv, _ => by
    have : a = [] := List.eq_nil_of_length_eq_zero (by omega)
    subst this; simp [validL, cp_nil] at hv
  | n + 1, a, b, h, hv, hb => by
    by_cases ha : a = []
    · subst ha; simp [validL, cp_nil] at hv
    · rw [valid_cons (by simp [ha])]
      rw [valid_cons ha] at hv
      cases hd : okR (decL a) with
      | true =>
        rw [hd, Bool.true_and] at hv
        have hle := (decL_bd a).2.2.2 ha
        have hbd := decL_bd a
        rw [dec_ok_append b ha hd, hd, Bool.true_and, drop_append_le hle]
        exact valid_bad n _ _ (by rw [List.length_drop]; omega) hv hb
      | false =>
        rw [dec_bad_append ha (fun hbn => by rw [valid_cons hbn, Bool.and_eq_true] at hb; exact hb.1) hd]
        rfl
/-- Two texts, one behind the other. -/
theorem runes_append (a b : List UInt8) : (validL a = true → validL b = true → runesF (a ++ b) = ((runesF a).1 + (runesF b).1, true)) ∧ (validL a = true → validL b = false → runesF (a ++ b) = (0, false)) ∧ (validL a = false → validL b = true → validL (a ++ b) = false) := by
  refine ⟨fun ha hb => ?_, fun ha hb => ?_, fun ha hb => valid_bad _ a b (Nat.le_refl _) ha hb⟩
  · rw [runesF, valid_append ha, if_pos hb, cp_append _ a b (Nat.le_refl _) ha, runesF, if_pos ha, runesF, if_pos hb, List.length_append]
    simp
  · rw [runesF, valid_append ha, hb, if_neg (by simp)]
end Go.Proofs.YtlcpigkgbihebaaDoor

/-
  Merged out of: LabOrder LabLess LabText Runes2 RoundTrip LabShown LabGet LabFew LabelGets LabelRunes LabRef1 LabRef2 LabRef3 LabRef4 LabRef5 LabRef6.
-/
import Derived.Lib.MapLaws
import Derived.PlainAid
import Derived.BigQuiet
import Derived.Test.YtoffmclbnobllaaGreatDoorCkFew3
import Derived.Test.YtoffmclbnobllaaGreatDoorCkRow
import Derived.Test.YtoffmclbnobllaaGreatDoorRows
namespace Go.Proofs.YtoffmclbnobllaaGreatDoor
section
end
section
open Go.RowKit
set_option linter.unusedVariables false
set_option linter.unusedSimpArgs false
end
section
open Go.RowKit
set_option linter.unusedVariables false
set_option linter.unusedSimpArgs false
attribute [local go_sem] Oper.semAt_some
theorem own_row1 {w : World} {B n sz : Nat} {t : TypeId} {v : Value} {xs : List Value} (h : w.ownsRow B t sz v n xs) : ∀ g, v.ownBlock = some g → B ≤ g ∧ ∃ c fz, w.heap[g]? = some (.cells c t fz) := by
  intro g hg
  obtain ⟨_, ⟨h, e⟩ | ⟨r, cap, cur, hv, hb, hh, _⟩⟩ := h
  · subst h; cases hg
  · subst hv; cases hg; exact ⟨hb, _, _, hh⟩
theorem Tryz.infoStr : (Tryz.prog.info? 9).map (fun i => (i.zero, i.size, i.bytes)) = some (some (.string ⟨#[]⟩), 1, 16) := by kernel_rfl
end
section
set_option linter.unusedVariables false
set_option linter.unusedSimpArgs false
theorem decN_more {n n' b0 b1 b2 b3 c1 c2 c3 : Nat} (hn : n ≤ n') (h1 : 1 < n → c1 = b1) (h2 : 2 < n → c2 = b2) (h3 : 3 < n → c3 = b3) (h : Lib.decodeN n b0 b1 b2 b3 ≠ (65533, 1)) : Lib.decodeN n' b0 c1 c2 c3 = Lib.decodeN n b0 b1 b2 b3 := by
  by_cases a0 : b0 < 128
  · simp [Lib.decodeN, a0]
  by_cases a1 : b0 / 32 = 6
  · have a2 : ¬ b0 / 16 = 14 := by omega
    have a3 : ¬ b0 / 8 = 30 := by omega
    by_cases k1 : 1 < n ∧ b1 / 64 = 2
    · have e1 := h1 k1.1
      subst e1
      have k1' : 1 < n' ∧ c1 / 64 = 2 := ⟨by omega, k1.2⟩
      simp only [Lib.decodeN, a0, a1, k1, k1', if_true, if_false, and_self, true_and]
    · exact absurd (by simp only [Lib.decodeN, a0, a1, a2, a3, k1, if_false, and_false, false_and]) h
  by_cases a2 : b0 / 16 = 14
  · have a3 : ¬ b0 / 8 = 30 := by omega
    by_cases k1 : (1 < n ∧ b1 / 64 = 2) ∧ (2 < n ∧ b2 / 64 = 2)
    · have e1 := h1 k1.1.1
      have e2 := h2 k1.2.1
      subst e1 e2
      have k1' : (1 < n' ∧ c1 / 64 = 2) ∧ (2 < n' ∧ c2 / 64 = 2) := ⟨⟨by omega, k1.1.2⟩, ⟨by omega, k1.2.2⟩⟩
      simp only [Lib.decodeN, a0, a1, a2, k1, k1', if_true, if_false, and_self, true_and, false_and]
    · exact absurd (by simp only [Lib.decodeN, a0, a1, a2, a3, k1, if_false, and_false, false_and, true_and]) h
  by_cases a3 : b0 / 8 = 30
  · by_cases k1 : (1 < n ∧ b1 / 64 = 2) ∧ (2 < n ∧ b2 / 64 = 2) ∧ (3 < n ∧ b3 / 64 = 2)
    · have e1 := h1 k1.1.1
      have e2 := h2 k1.2.1.1
      have e3 := h3 k1.2.2.1
      subst e1 e2 e3
      have k1' : (1 < n' ∧ c1 / 64 = 2) ∧ (2 < n' ∧ c2 / 64 = 2) ∧ (3 < n' ∧ c3 / 64 = 2) := ⟨⟨by omega, k1.1.2⟩, ⟨by omega, k1.2.1.2⟩, ⟨by omega, k1.2.2.2⟩⟩
      simp only [Lib.decodeN, a0, a1, a2, a3, k1, k1', if_true, if_false, and_self, true_and, false_and]
    · exact absurd (by simp only [Lib.decodeN, a0, a1, a2, a3, k1, if_false, and_false, false_and, true_and]) h
  exact absurd (by simp only [Lib.decodeN, a0, a1, a2, a3, if_false, false_and]) h
/-- What is wrong stays wrong, where no continuation comes behind. -/
theorem decN_bad {n n' b0 b1 b2 b3 c1 c2 c3 : Nat} (hn : n ≤ n') (hp : 1 ≤ n) (h1 : 1 < n → c1 = b1) (h2 : 2 < n → c2 = b2) (h3 : 3 < n → c3 = b3) (g1 : n = 1 → n < n' → ¬ c1 / 64 = 2) (g2 : n = 2 → n < n' → ¬ c2 / 64 = 2) (g3 : n = 3 → n < n' → ¬ c3 / 64 = 2) (h : Lib.decodeN n b0 b1 b2 b3 = (65533, 1)) : Lib.decodeN n' b0 c1 c2 c3 = (65533, 1) := by
  by_cases a0 : b0 < 128
  · simp only [Lib.decodeN, a0, if_true] at h ⊢
    exact h
  by_cases a1 : b0 / 32 = 6
  · have a2 : ¬ b0 / 16 = 14 := by omega
    have a3 : ¬ b0 / 8 = 30 := by omega
    by_cases k1 : 1 < n' ∧ c1 / 64 = 2
    · have hn1 : 1 < n := by
        rcases Nat.lt_or_ge 1 n with h | h
        · exact h
        · exact absurd k1.2 (g1 (by omega) (by omega))
      have e1 := h1 hn1
      subst e1
      have k1' : 1 < n ∧ c1 / 64 = 2 := ⟨hn1, k1.2⟩
      simp only [Lib.decodeN, a0, a1, k1, k1', if_true, if_false, and_self, true_and] at h ⊢
      exact h
    · simp only [Lib.decodeN, a0, a1, a2, a3, k1, if_false, and_false, false_and]
  by_cases a2 : b0 / 16 = 14
  · have a3 : ¬ b0 / 8 = 30 := by omega
    by_cases k1 : (1 < n' ∧ c1 / 64 = 2) ∧ (2 < n' ∧ c2 / 64 = 2)
    · have hn1 : 2 < n := by
        rcases Nat.lt_or_ge 2 n with h | h
        · exact h
        · by_cases e : n = 1
          · exact absurd k1.1.2 (g1 e (by omega))
          · exact absurd k1.2.2 (g2 (by omega) (by omega))
      have e1 := h1 (by omega)
      have e2 := h2 hn1
      subst e1 e2
      have k1' : (1 < n ∧ c1 / 64 = 2) ∧ (2 < n ∧ c2 / 64 = 2) := ⟨⟨by omega, k1.1.2⟩, ⟨by omega, k1.2.2⟩⟩
      simp only [Lib.decodeN, a0, a1, a2, k1, k1', if_true, if_false, and_self, true_and, false_and] at h ⊢
      exact h
    · simp only [Lib.decodeN, a0, a1, a2, a3, k1, if_false, and_false, false_and, true_and]
  by_cases a3 : b0 / 8 = 30
  · by_cases k1 : (1 < n' ∧ c1 / 64 = 2) ∧ (2 < n' ∧ c2 / 64 = 2) ∧ (3 < n' ∧ c3 / 64 = 2)
    · have hn1 : 3 < n := by
        rcases Nat.lt_or_ge 3 n with h | h
        · exact h
        · by_cases e : n = 1
          · exact absurd k1.1.2 (g1 e (by omega))
          · by_cases e2 : n = 2
            · exact absurd k1.2.1.2 (g2 e2 (by omega))
            · exact absurd k1.2.2.2 (g3 (by omega) (by omega))
      have e1 := h1 (by omega)
      have e2 := h2 (by omega)
      have e3 := h3 hn1
      subst e1 e2 e3
      have k1' : (1 < n ∧ c1 / 64 = 2) ∧ (2 < n ∧ c2 / 64 = 2) ∧ (3 < n ∧ c3 / 64 = 2) := ⟨⟨by omega, k1.1.2⟩, ⟨by omega, k1.2.1.2⟩, ⟨by omega, k1.2.2.2⟩⟩
      simp only [Lib.decodeN, a0, a1, a2, a3, k1, k1', if_true, if_false, and_self, true_and, false_and] at h ⊢
      exact h
    · simp only [Lib.decodeN, a0, a1, a2, a3, k1, if_false, and_false, false_and, true_and]
  simp only [Lib.decodeN, a0, a1, a2, a3, if_false, false_and]
theorem getD_left {a b : List UInt8} {i : Nat} (h : i < a.length) : (a ++ b).getD i 0 = a.getD i 0 := by
  rw [List.getD_eq_getElem?_getD, List.getD_eq_getElem?_getD, List.getElem?_append_left h]
theorem getD_right {a b : List UInt8} {i : Nat} (h : i = a.length) : (a ++ b).getD i 0 = b.getD 0 0 := by
  rw [List.getD_eq_getElem?_getD, List.getD_eq_getElem?_getD, List.getElem?_append_right (by omega), h, Nat.sub_self]
theorem okR_iff (x : Nat × Nat) : okR x = false ↔ x = (65533, 1) := by
  obtain ⟨a, b⟩ := x
  simp [okR]
theorem dec_ok_append {a : List UInt8} (b : List UInt8) (ha : a ≠ []) (h : okR (decL a) = true) : decL (a ++ b) = decL a := by
  have hl : 0 < a.length := List.length_pos_iff.2 ha
  unfold decL
  rw [getD_left hl]
  refine decN_more (by rw [List.length_append]; omega) (fun h => by rw [getD_left h]) (fun h => by rw [getD_left h]) (fun h => by rw [getD_left h]) (fun e => ?_)
  have := (okR_iff (decL a)).2 e
  rw [h] at this
  cases this
/-- A right text begins with no continuation. -/
theorem valid_head {b : List UInt8} (hb : b ≠ []) (h : okR (decL b) = true) : ¬ (b.getD 0 0).toNat / 64 = 2 := by
  intro e
  have : okR (decL b) = false := by
    rw [okR_iff]
    unfold decL
    have a0 : ¬ (b.getD 0 0).toNat < 128 := by omega
    have a1 : ¬ (b.getD 0 0).toNat / 32 = 6 := by omega
    have a2 : ¬ (b.getD 0 0).toNat / 16 = 14 := by omega
    have a3 : ¬ (b.getD 0 0).toNat / 8 = 30 := by omega
    simp only [Lib.decodeN, a0, a1, a2, a3, if_false, false_and]
  rw [h] at this
  cases this
theorem dec_bad_append {a b : List UInt8} (ha : a ≠ []) (hb : b ≠ [] → okR (decL b) = true) (h : okR (decL a) = false) : okR (decL (a ++ b)) = false := by
  have hl : 0 < a.length := List.length_pos_iff.2 ha
  rw [okR_iff] at h ⊢
  unfold decL at h ⊢
  rw [getD_left hl]
  have hc : a.length < (a ++ b).length → ¬ (b.getD 0 0).toNat / 64 = 2 := fun hlt => by
    have hbn : b ≠ [] := by rintro rfl; simp at hlt
    exact valid_head hbn (hb hbn)
  refine decN_bad (by rw [List.length_append]; omega) hl (fun h => by rw [getD_left h]) (fun h => by rw [getD_left h]) (fun h => by rw [getD_left h]) (fun e k => by rw [getD_right e.symm]; exact hc k) (fun e k => by rw [getD_right e.symm]; exact hc k) (fun e k => by rw [getD_right e.symm]; exact hc k) h
theorem valid_cons {l : List UInt8} (h : l ≠ []) : validL l = (okR (decL l) && validL (l.drop (decL l).2)) := by
  unfold validL; rw [cp_cons h]; rfl
end
section
set_option linter.unusedVariables false
set_option linter.unusedSimpArgs false
abbrev Rn := Nat × Nat
def encL (d : Rn) : List UInt8 := Lib.encodeRune (d.1 : Int)
theorem dec_is (l : List UInt8) : Lib.decodeL l = decL l := Lib.decodeL_N l
theorem ok_not {d : Rn} (h : okR d = true) : ¬ (d.1 = 65533 ∧ d.2 = 1) := by
  intro e; simp [okR, e.1, e.2] at h
theorem enc_dec {l : List UInt8} (hne : l ≠ []) (ok : okR (decL l) = true) : encL (decL l) = l.take (decL l).2 := by
  have h := Lib.encode_decode l hne (by rw [dec_is]; exact ok_not ok)
  rw [dec_is] at h; exact h
/-! ### The reader over such runes -/
end
section
open Go.RowKit
set_option linter.unusedVariables false
set_option linter.unusedSimpArgs false
def c1 : List UInt8 := [98, 61, 120, 92, 121, 44, 97, 61, 195, 169, 92, 44]
def c2 : List UInt8 := [97, 61, 49, 44, 97, 61, 50]
end
section
open Go.RowKit
set_option linter.unusedVariables false
set_option linter.unusedSimpArgs false
attribute [local go_sem] Oper.semAt_some
end
section
open Go.RowKit
set_option linter.unusedVariables false
set_option linter.unusedSimpArgs false
end
section
open Go.RowKit
set_option linter.unusedVariables false
set_option linter.unusedSimpArgs false
end
section
open Go.RowKit
set_option linter.unusedVariables false
set_option linter.unusedSimpArgs false
theorem tx_append (a b : ByteArray) : tx (a ++ b) = tx a ++ tx b := by
  show (a ++ b).data.toList = a.data.toList ++ b.data.toList
  rw [ByteArray.data_append, Array.toList_append]
end
section
open Go.RowKit Go.PlainAid
set_option linter.unusedVariables false
set_option linter.unusedSimpArgs false
/-- Which of two texts is the least? -/
def leastF : List UInt8 → List UInt8 → Int
  | [], [] => 0
  | [], _ :: _ => -1
  | _ :: _, [] => 1
  | a :: l, b :: m => if a < b then -1 else if b < a then 1 else leastF l m
theorem leastF_ls : ∀ a b : List UInt8, (leastF a b = -1 ∧ lsB a b = true) ∨ (leastF a b = 0 ∧ a = b) ∨ (leastF a b = 1 ∧ lsB b a = true)
  | [], [] => .inr (.inl ⟨rfl, rfl⟩)
  | [], _ :: _ => .inl ⟨rfl, by simp [lsB, Op.bytesLess]⟩
  | _ :: _, [] => .inr (.inr ⟨rfl, by simp [lsB, Op.bytesLess]⟩)
  | x :: a, y :: b => by
    unfold lsB
    rw [leastF, Op.bytesLess, Op.bytesLess, Bool.or_eq_true, Bool.and_eq_true, decide_eq_true_eq, beq_iff_eq, Bool.or_eq_true, Bool.and_eq_true, decide_eq_true_eq, beq_iff_eq]
    by_cases h : x < y
    · rw [if_pos h]; exact .inl ⟨rfl, .inl h⟩
    · rw [if_neg h]
      by_cases h' : y < x
      · rw [if_pos h']; exact .inr (.inr ⟨rfl, .inl h'⟩)
      · rw [if_neg h']
        have e : x = y := UInt8.le_antisymm (UInt8.not_lt.1 h') (UInt8.not_lt.1 h)
        subst e
        rcases leastF_ls a b with ⟨k, j⟩ | ⟨k, j⟩ | ⟨k, j⟩
        · exact .inl ⟨k, .inr ⟨rfl, j⟩⟩
        · exact .inr (.inl ⟨k, by rw [j]⟩)
        · exact .inr (.inr ⟨k, .inr ⟨rfl, j⟩⟩)
theorem tx_drop {s : ByteArray} {k : Nat} (h : k < s.size) : (tx s).drop k = s[k] :: (tx s).drop (k + 1) := by
  have h' : k < (tx s).length := by rw [tx_len]; exact h
  rw [List.drop_eq_getElem_cons h']
  rfl
theorem leastF_step {s t : ByteArray} {k : Nat} (h : k < s.size) (hj : k < t.size) :
    leastF ((tx s).drop k) ((tx t).drop k) = if bt s k < bt t k then -1 else if bt t k < bt s k then 1 else leastF ((tx s).drop (k + 1)) ((tx t).drop (k + 1)) := by
  rw [tx_drop h, tx_drop hj, leastF]
  have e1 : bt s k = ((s[k]'h).toNat : Int) := (get_bt s k h).symm
  have e2 : bt t k = ((t[k]'hj).toNat : Int) := (get_bt t k hj).symm
  rw [e1, e2]
  have i1 : (s[k] < t[k]) ↔ (((s[k]'h).toNat : Int) < ((t[k]'hj).toNat : Int)) := by rw [UInt8.lt_iff_toNat_lt]; omega
  have i2 : (t[k] < s[k]) ↔ (((t[k]'hj).toNat : Int) < ((s[k]'h).toNat : Int)) := by rw [UInt8.lt_iff_toNat_lt]; omega
  simp only [i1, i2]
theorem leastF_end {s t : ByteArray} {k : Nat} (h : k ≤ s.size) (h' : k ≤ t.size) (he : k = s.size ∨ k = t.size) :
    leastF ((tx s).drop k) ((tx t).drop k) = if s.size < t.size then -1 else if t.size < s.size then 1 else 0 := by
  have l1 := tx_len s
  have l2 := tx_len t
  have d1 : ((tx s).drop k).length = s.size - k := by rw [List.length_drop, l1]
  have d2 : ((tx t).drop k).length = t.size - k := by rw [List.length_drop, l2]
  generalize (tx s).drop k = a at *
  generalize (tx t).drop k = b at *
  cases a with
  | nil =>
    cases b with
    | nil => simp at d1 d2; rw [if_neg (by omega), if_neg (by omega)]; rfl
    | cons y b => simp at d1 d2; rw [if_pos (by omega)]; rfl
  | cons x a =>
    cases b with
    | nil => simp at d1 d2; rw [if_neg (by omega), if_pos (by omega)]; rfl
    | cons y b => simp at d1 d2; omega
set_option maxRecDepth 100000 in
set_option maxHeartbeats 2000000 in
theorem least_any (s t : ByteArray) (hs : s.size ≤ maxLen) (ht : t.size ≤ maxLen) (w : World) :
    Calls Tryz.prog 45 #[.string s, .string t] w fun e w' => e = .returned (.int .i64 (leastF (tx s) (tx t))) ∧ ∃ n, w' = w.drewN n := by
  have gs := get_bt s
  have gt := get_bt t
  unfold maxLen at hs ht
  go_enter Tryz.func45, Tryz.ntmps45
  go_wp2_with fail
  go_loopw [5] (fun i wr => ∃ k n : Nat, i = .int .i64 (k : Int) ∧ k ≤ s.size ∧ k ≤ t.size ∧ Hid (leastF (tx s) (tx t) = leastF ((tx s).drop k) ((tx t).drop k)) ∧ wr = w.drewN n) (fun i _ => s.size - (RowKit.intOf i).toNat)
  case atStart => exact ⟨0, 0, rfl, Nat.zero_le _, Nat.zero_le _, rfl, rfl⟩
  case round =>
    obtain ⟨k, n, rfl, hk, hkt, HE, rfl⟩ := hrel
    by_cases h1 : k < s.size
    · by_cases h2 : k < t.size
      · have d1 : decide ((k : Int) < (s.size : Int)) = true := decide_eq_true (by omega)
        have d2 : decide ((k : Int) < (t.size : Int)) = true := decide_eq_true (by omega)
        have hi1 : (0 : Int) ≤ (k : Int) := by omega
        have hi2 : (k : Int) < (s.size : Int) := by omega
        have hi3 : (k : Int) < (t.size : Int) := by omega
        have HST := Lib.hid (leastF_step h1 h2)
        by_cases c1 : bt s k < bt t k
        · have b1 : decide (bt s k < bt t k) = true := decide_eq_true c1
          have HR : Hid (leastF (tx s) (tx t) = -1) := by show _ = _; rw [HE.out, HST.out, if_pos c1]
          clear c1
          go_wp2_with fail
          go_quiet (fail)
          go_wp2_with fail
          go_ret
          exact ⟨ret_int HR.out.symm, _, World.drewN_drewN _ _ _⟩
        · have b1 : decide (bt s k < bt t k) = false := decide_eq_false c1
          by_cases c2 : bt t k < bt s k
          · have b2 : decide (bt t k < bt s k) = true := decide_eq_true c2
            have HR : Hid (leastF (tx s) (tx t) = 1) := by show _ = _; rw [HE.out, HST.out, if_neg c1, if_pos c2]
            clear c1 c2
            go_wp2_with fail
            go_quiet (fail)
            go_wp2_with fail
            go_quiet (fail)
            go_wp2_with fail
            go_ret
            exact ⟨ret_int HR.out.symm, _, by first | rfl | rw [World.drewN_drewN, World.drewN_drewN] | exact World.drewN_drewN _ _ _⟩
          · have b2 : decide (bt t k < bt s k) = false := decide_eq_false c2
            have HR : Hid (leastF (tx s) (tx t) = leastF ((tx s).drop (k + 1)) ((tx t).drop (k + 1))) := by show _ = _; rw [HE.out, HST.out, if_neg c1, if_neg c2]
            clear c1 c2
            go_wp2_with fail
            go_quiet (fail)
            go_wp2_with fail
            go_quiet (fail)
            go_wp2_with fail
            go_roundw
            case rel => exact ⟨k + 1, _, by go_num, by omega, by omega, HR.out, rfl⟩
            case measure => simp [RowKit.intOf]; omega
      · have hkk : k = t.size := by omega
        have d1 : decide ((k : Int) < (s.size : Int)) = true := decide_eq_true (by omega)
        have d2 : decide ((k : Int) < (t.size : Int)) = false := by simp; omega
        have d3 : decide (s.size < t.size) = false := by simp; omega
        have d4 : decide (t.size < s.size) = true := decide_eq_true (by omega)
        have HR : Hid (leastF (tx s) (tx t) = 1) := by show _ = _; rw [HE.out, leastF_end hk hkt (.inr hkk), if_neg (by omega), if_pos (by omega)]
        clear hkk
        go_wp2_with fail
        go_ret
        exact ⟨ret_int HR.out.symm, _, rfl⟩
    · have hkk : k = s.size := by omega
      have d1 : decide ((k : Int) < (s.size : Int)) = false := by simp; omega
      by_cases h2 : s.size < t.size
      · have d3 : decide (s.size < t.size) = true := decide_eq_true h2
        have HR : Hid (leastF (tx s) (tx t) = -1) := by show _ = _; rw [HE.out, leastF_end hk hkt (.inl hkk), if_pos h2]
        clear hkk h2
        go_wp2_with fail
        go_ret
        exact ⟨ret_int HR.out.symm, _, rfl⟩
      · have d3 : decide (s.size < t.size) = false := by simp; omega
        have d4 : decide (t.size < s.size) = false := by simp; omega
        have HR : Hid (leastF (tx s) (tx t) = 0) := by show _ = _; rw [HE.out, leastF_end hk hkt (.inl hkk), if_neg h2, if_neg (by omega)]
        clear hkk h2
        go_wp2_with fail
        go_ret
        exact ⟨ret_int HR.out.symm, _, rfl⟩
theorem lessL_step {l m : List Lab} {k : Nat} (h : k < l.length) (h' : k < m.length) : lessL (l.drop k) (m.drop k) =
    if tx (lth l k).1 = tx (lth m k).1 ∧ tx (lth l k).2 = tx (lth m k).2 then lessL (l.drop (k + 1)) (m.drop (k + 1)) else if tx (lth l k).1 = tx (lth m k).1 then lsB (tx (lth l k).2) (tx (lth m k).2) else lsB (tx (lth l k).1) (tx (lth m k).1) := by
  rw [drop_lth h, drop_lth h']; rfl
theorem lessL_end {l m : List Lab} {k : Nat} (h : k ≤ l.length) (h' : k ≤ m.length) (he : k = l.length ∨ k = m.length) : lessL (l.drop k) (m.drop k) = decide (l.length < m.length) := by
  have d1 : (l.drop k).length = l.length - k := List.length_drop
  have d2 : (m.drop k).length = m.length - k := List.length_drop
  generalize l.drop k = a at *
  generalize m.drop k = b at *
  cases a with
  | nil =>
    cases b with
    | nil => simp at d1 d2; simp [lessL]; omega
    | cons y b => simp at d1 d2; simp [lessL]; omega
  | cons x a =>
    cases b with
    | nil => simp at d1 d2; simp [lessL]; omega
    | cons y b => simp at d1 d2; omega
theorem ls_ne {a b : List UInt8} (h : lsB a b = true) : a ≠ b := fun e => by rw [e, lsB_irr] at h; cases h
theorem lab_sz {l : List Lab} (hs : ∀ x ∈ l, x.1.size ≤ maxLen ∧ x.2.size ≤ maxLen) (k : Nat) : (lth l k).1.size ≤ maxLen ∧ (lth l k).2.size ≤ maxLen := by
  unfold lth
  cases e : l[k]? with
  | none => simp
  | some x => exact hs x (List.mem_of_getElem? e)
theorem least_below {s t : ByteArray} (hs : s.size ≤ maxLen) (ht : t.size ≤ maxLen) {v : Int} (hv : leastF (tx s) (tx t) = v) (w : World) :
    Calls Tryz.prog 45 #[.string s, .string t] w fun e w' => e = .returned (.int .i64 v) ∧ Below w.heap.size w w' :=
  (least_any s t hs ht w).mono fun _ _ ⟨h1, n, h2⟩ => ⟨hv ▸ h1, h2 ▸ below_drewN (below_0 _) n⟩
set_option maxRecDepth 100000 in
set_option maxHeartbeats 4000000 in
theorem rless_any (A C : Option Addr) (l m : List Lab) (cap capm : Nat) (hl : l.length ≤ 4294967296) (hm : m.length ≤ 4294967296) (hs : ∀ x ∈ l, x.1.size ≤ maxLen ∧ x.2.size ≤ maxLen) (ht : ∀ x ∈ m, x.1.size ≤ maxLen ∧ x.2.size ≤ maxLen) (w : World) (hS : Lb w w.heap.size A l) (hM : Lb w w.heap.size C m) :
    Calls Tryz.prog 34 #[.slice A l.length cap, .slice C m.length capm] w fun e w' => e = .returned (.bool (lessL l m)) ∧ Below w.heap.size w w' := by
  have HS := Lib.hid hS
  have HM := Lib.hid hM
  have ZS := Lib.hid (lab_sz hs)
  have ZM := Lib.hid (lab_sz ht)
  clear hS hM hs ht
  go_enter Tryz.func34, Tryz.ntmps34
  go_wp2_with fail
  go_loopw [5, 6] (fun i _ wr => ∃ k : Nat, i = .int .i64 (k : Int) ∧ k ≤ l.length ∧ k ≤ m.length ∧ Hid (lessL l m = lessL (l.drop k) (m.drop k)) ∧ Hid (Below w.heap.size w wr)) (fun i _ _ => l.length - (RowKit.intOf i).toNat)
  case atStart => exact ⟨0, rfl, Nat.zero_le _, Nat.zero_le _, rfl, below_0 _⟩
  case round =>
    obtain ⟨k, rfl, hk, hkm, HE, HB⟩ := hrel
    by_cases h1 : k < l.length
    · have d1 : decide ((k : Int) < (l.length : Int)) = true := decide_eq_true (by omega)
      by_cases h2 : k < m.length
      · have d2 : decide ((k : Int) < (m.length : Int)) = true := decide_eq_true (by omega)
        obtain ⟨b, off, rfl, hb, hc⟩ := HS.out.at_ (by omega)
        obtain ⟨c1, c2⟩ := hc k h1
        have i1 := (HB.out.cell (p := ⟨b, off + k * 2, none⟩) hb).trans c1
        have i2 := (HB.out.cell (p := ⟨b, off + k * 2 + 1, none⟩) hb).trans c2
        obtain ⟨b', off', rfl, hb', hc'⟩ := HM.out.at_ (by omega)
        obtain ⟨c1', c2'⟩ := hc' k h2
        have j1 := (HB.out.cell (p := ⟨b', off' + k * 2, none⟩) hb').trans c1'
        have j2 := (HB.out.cell (p := ⟨b', off' + k * 2 + 1, none⟩) hb').trans c2'
        have hbw : b < wr.heap.size := by have := HB.out.size; omega
        have hbw' : b' < wr.heap.size := by have := HB.out.size; omega
        have hi1 : (0 : Int) ≤ (k : Int) := by omega
        have hi2 : (k : Int) < (l.length : Int) := by omega
        have hi3 : (k : Int) < (m.length : Int) := by omega
        have HX : Hid (lessL l m = _) := HE.out.trans (lessL_step h1 h2)
        have z1 := ZS.out k
        have z2 := ZM.out k
        clear hc c1 c2 hc' c1' c2'
        generalize lth l k = x at *
        generalize lth m k = y at *
        obtain ⟨x1, x2⟩ := x
        obtain ⟨y1, y2⟩ := y
        simp only at i1 i2 j1 j2 HX z1 z2
        obtain ⟨z1, z1'⟩ := z1
        obtain ⟨z2, z2'⟩ := z2
        have F1 := After.cell i1 hbw
        have F2 := After.cell j1 hbw'
        haveI hAW := After.some wr
        rcases leastF_ls (tx x1) (tx y1) with ⟨e1, o1⟩ | ⟨e1, o1⟩ | ⟨e1, o1⟩
        · have QL : Hid (∀ x : After wr, Calls Tryz.prog 45 #[.string x1, .string y1] x.at_ fun e w' => e = .returned (.int .i64 (-1)) ∧ Below x.at_.heap.size x.at_ w') := fun x => least_below z1 z2 e1 x.at_
          have HR : Hid (lessL l m = true) := by show _ = _; rw [HX.out, if_neg (fun h => ls_ne o1 h.1), if_neg (ls_ne o1)]; exact o1
          clear HX o1 e1 z1 z2 z1' z2'
          go_wp2_with fail
          refine wp_region_below (by kernel_rfl) (by kernel_rfl) ?_
          repeat (go_big_quiet_step (first | with_reducible exact after_calls (QL.out _)))
          refine wpQuiet_nil ?_
          rintro _ ⟨⟨w9, hb9⟩, rfl⟩
          go_wp2_with fail
          go_ret
          exact ⟨ret_bool HR.out.symm, HB.out.trans (hb9.mono HB.out.size)⟩
        · have QL : Hid (∀ x : After wr, Calls Tryz.prog 45 #[.string x1, .string y1] x.at_ fun e w' => e = .returned (.int .i64 0) ∧ Below x.at_.heap.size x.at_ w') := fun x => least_below z1 z2 e1 x.at_
          have E1 := Lib.hid o1
          clear o1 e1 z1 z2
          go_wp2_with fail
          refine wp_region_below (by kernel_rfl) (by kernel_rfl) ?_
          repeat (go_big_quiet_step (first | with_reducible exact after_calls (QL.out _)))
          refine wpQuiet_nil ?_
          rintro w9 ⟨x9, hx9⟩
          have hb9 : Below wr.heap.size wr w9 := by rw [hx9]; exact x9.is
          clear hx9 x9
          have i9 := (hb9.cell (p := ⟨b, off + k * 2 + 1, none⟩) hbw).trans i2
          have j9 := (hb9.cell (p := ⟨b', off' + k * 2 + 1, none⟩) hbw').trans j2
          have hbw9 : b < w9.heap.size := by have := hb9.size; omega
          have hbw9' : b' < w9.heap.size := by have := hb9.size; omega
          have HB9 : Hid (Below w.heap.size w w9) := HB.out.trans (hb9.mono HB.out.size)
          clear QL F1 F2 hb9 i1 i2 j1 j2 HB hbw hbw'
          clear hAW
          have F1 := After.cell i9 hbw9
          have F2 := After.cell j9 hbw9'
          haveI := After.some w9
          rcases leastF_ls (tx x2) (tx y2) with ⟨e1, o1⟩ | ⟨e1, o1⟩ | ⟨e1, o1⟩
          · have QL : Hid (∀ x : After w9, Calls Tryz.prog 45 #[.string x2, .string y2] x.at_ fun e w' => e = .returned (.int .i64 (-1)) ∧ Below x.at_.heap.size x.at_ w') := fun x => least_below z1' z2' e1 x.at_
            have HR : Hid (lessL l m = true) := by show _ = _; rw [HX.out, if_neg (fun h => ls_ne o1 h.2), if_pos E1.out]; exact o1
            clear HX o1 e1 z1' z2'
            go_wp2_with fail
            refine wp_region_below (by kernel_rfl) (by kernel_rfl) ?_
            repeat (go_big_quiet_step (first | with_reducible exact after_calls (QL.out _)))
            refine wpQuiet_nil ?_
            rintro _ ⟨⟨w8, hb8⟩, rfl⟩
            go_wp2_with fail
            go_ret
            exact ⟨ret_bool HR.out.symm, HB9.out.trans (hb8.mono HB9.out.size)⟩
          · have QL : Hid (∀ x : After w9, Calls Tryz.prog 45 #[.string x2, .string y2] x.at_ fun e w' => e = .returned (.int .i64 0) ∧ Below x.at_.heap.size x.at_ w') := fun x => least_below z1' z2' e1 x.at_
            have HR : Hid (lessL l m = lessL (l.drop (k + 1)) (m.drop (k + 1))) := by show _ = _; rw [HX.out, if_pos ⟨E1.out, o1⟩]
            clear HX o1 e1 z1' z2'
            go_wp2_with fail
            refine wp_region_below (by kernel_rfl) (by kernel_rfl) ?_
            repeat (go_big_quiet_step (first | with_reducible exact after_calls (QL.out _)))
            refine wpQuiet_nil ?_
            rintro w8 ⟨x8, hx8⟩
            have HB8 : Hid (Below w.heap.size w w8) := HB9.out.trans ((show Below w9.heap.size w9 w8 by rw [hx8]; exact x8.is).mono HB9.out.size)
            clear hx8 x8
            go_wp2_with fail
            go_roundw
            case rel => exact ⟨k + 1, by go_num, by omega, by omega, HR.out, HB8.out⟩
            case measure => simp [RowKit.intOf]; omega
          · have QL : Hid (∀ x : After w9, Calls Tryz.prog 45 #[.string x2, .string y2] x.at_ fun e w' => e = .returned (.int .i64 1) ∧ Below x.at_.heap.size x.at_ w') := fun x => least_below z1' z2' e1 x.at_
            have HR : Hid (lessL l m = false) := by show _ = _; rw [HX.out, if_neg (fun h => ls_ne o1 h.2.symm), if_pos E1.out]; exact lsB_asymm o1
            clear HX o1 e1 z1' z2'
            go_wp2_with fail
            refine wp_region_below (by kernel_rfl) (by kernel_rfl) ?_
            repeat (go_big_quiet_step (first | with_reducible exact after_calls (QL.out _)))
            refine wpQuiet_nil ?_
            rintro _ ⟨⟨w8, hb8⟩, rfl⟩
            go_wp2_with fail
            go_ret
            exact ⟨ret_bool HR.out.symm, HB9.out.trans (hb8.mono HB9.out.size)⟩
        · have QL : Hid (∀ x : After wr, Calls Tryz.prog 45 #[.string x1, .string y1] x.at_ fun e w' => e = .returned (.int .i64 1) ∧ Below x.at_.heap.size x.at_ w') := fun x => least_below z1 z2 e1 x.at_
          have HR : Hid (lessL l m = false) := by show _ = _; rw [HX.out, if_neg (fun h => ls_ne o1 h.1.symm), if_neg (ls_ne o1).symm]; exact lsB_asymm o1
          clear HX o1 e1 z1 z2 z1' z2'
          go_wp2_with fail
          refine wp_region_below (by kernel_rfl) (by kernel_rfl) ?_
          repeat (go_big_quiet_step (first | with_reducible exact after_calls (QL.out _)))
          refine wpQuiet_nil ?_
          rintro _ ⟨⟨w9, hb9⟩, rfl⟩
          go_wp2_with fail
          go_ret
          exact ⟨ret_bool HR.out.symm, HB.out.trans (hb9.mono HB.out.size)⟩
      · have hkk : k = m.length := by omega
        have d2 : decide ((k : Int) < (m.length : Int)) = false := by simp; omega
        have HR : Hid (lessL l m = decide (l.length < m.length)) := by show _ = _; rw [HE.out, lessL_end hk hkm (.inr hkk)]
        clear hkk HS HM
        go_wp2_with fail
        go_ret
        exact ⟨ret_bool HR.out.symm, HB.out⟩
    · have hkk : k = l.length := by omega
      have d1 : decide ((k : Int) < (l.length : Int)) = false := by simp; omega
      have HR : Hid (lessL l m = decide (l.length < m.length)) := by
        show _ = _; rw [HE.out, lessL_end hk hkm (.inl hkk)]
      clear hkk HS HM
      go_wp2_with fail
      go_ret
      exact ⟨ret_bool HR.out.symm, HB.out⟩
set_option maxRecDepth 100000 in
set_option maxHeartbeats 4000000 in
theorem rsame_any (A C : Option Addr) (l m : List Lab) (cap capm : Nat) (hl : l.length ≤ 4294967296) (hm : m.length ≤ 4294967296) (w : World) (hS : Lb w w.heap.size A l) (hM : Lb w w.heap.size C m) :
    Calls Tryz.prog 35 #[.slice A l.length cap, .slice C m.length capm] w fun e w' => e = .returned (.bool (sameL l m)) ∧ ∃ n, w' = w.drewN n := by
  by_cases hlen : l.length = m.length
  · have HS := Lib.hid hS
    have HM := Lib.hid hM
    have HL := Lib.hid hlen
    have d0 : ((l.length : Int) != (m.length : Int)) = false := by simp [hlen]
    clear hS hM hlen
    go_enter Tryz.func35, Tryz.ntmps35
    go_wp2_with fail
    clear d0
    go_loopw [5] (fun i wr => ∃ k n : Nat, i = .int .i64 (k : Int) ∧ k ≤ l.length ∧ Hid (l.take k = m.take k) ∧ wr = w.drewN n) (fun i _ => l.length - (RowKit.intOf i).toNat)
    case atStart => exact ⟨0, 0, rfl, Nat.zero_le _, rfl, rfl⟩
    case round =>
      obtain ⟨k, n, rfl, hk, HE, rfl⟩ := hrel
      by_cases h1 : k < l.length
      · have h2 : k < m.length := by rw [← HL.out]; exact h1
        have d1 : decide ((k : Int) < (l.length : Int)) = true := decide_eq_true (by omega)
        obtain ⟨b, off, rfl, hb, hc⟩ := HS.out.at_ (by omega)
        obtain ⟨i1, i2⟩ := hc k h1
        obtain ⟨b', off', rfl, hb', hc'⟩ := HM.out.at_ (by omega)
        obtain ⟨j1, j2⟩ := hc' k h2
        have hi1 : (0 : Int) ≤ (k : Int) := by omega
        have hi2 : (k : Int) < (l.length : Int) := by omega
        have hi3 : (k : Int) < (m.length : Int) := by omega
        have HX : Hid (lth l k = lth m k → l.take (k + 1) = m.take (k + 1)) := fun h => take_eq_succ HE.out h1 h2 h
        have HN : Hid (¬ lth l k = lth m k → sameL l m = false) := fun h => by
          unfold sameL
          simp only [decide_eq_false_iff_not]
          rintro rfl
          exact h rfl
        clear hc hc'
        generalize lth l k = x at *
        generalize lth m k = y at *
        obtain ⟨x1, x2⟩ := x
        obtain ⟨y1, y2⟩ := y
        simp only at i1 i2 j1 j2
        by_cases e1 : x1.toList = y1.toList
        · have b1 : (x1.toList == y1.toList) = true := by rw [beq_iff_eq]; exact e1
          have e1' : x1 = y1 := tx_eq.1 (by rw [← tx_toList, ← tx_toList, e1])
          by_cases e2 : x2.toList = y2.toList
          · have b2 : (x2.toList == y2.toList) = true := by rw [beq_iff_eq]; exact e2
            have HR := Lib.hid (HX.out (by rw [e1', tx_eq.1 (show tx x2 = tx y2 by rw [← tx_toList, ← tx_toList, e2])]))
            clear e1' HX HN
            go_wp2_with fail
            go_quiet (fail)
            go_wp2_with fail
            go_roundw
            case rel => exact ⟨k + 1, _, by go_num, by omega, HR.out, rfl⟩
            case measure => simp [RowKit.intOf]; omega
          · have b2 : (x2.toList == y2.toList) = false := by rw [beq_eq_false_iff_ne]; exact e2
            have HR := Lib.hid (HN.out (fun e => e2 (by injection e with _ e; rw [e])))
            clear e1' HX HN
            go_wp2_with fail
            go_quiet (fail)
            go_wp2_with fail
            go_ret
            exact ⟨ret_bool HR.out.symm, _, World.drewN_drewN _ _ _⟩
        · have b1 : (x1.toList == y1.toList) = false := by rw [beq_eq_false_iff_ne]; exact e1
          have HR := Lib.hid (HN.out (fun e => e1 (by injection e with e _; rw [e])))
          clear HX HN
          go_wp2_with fail
          go_quiet (fail)
          go_wp2_with fail
          go_ret
          exact ⟨ret_bool HR.out.symm, _, World.drewN_drewN _ _ _⟩
      · have hkk : k = l.length := by omega
        subst hkk
        have HR : Hid (sameL l m = true) := by
          show _ = _
          have := HE.out
          rw [List.take_length, HL.out, List.take_length] at this
          unfold sameL; simpa using this
        clear HL HE
        have d1 : decide ((l.length : Int) < (l.length : Int)) = false := by simp
        go_wp2_with fail
        go_ret
        exact ⟨ret_bool HR.out.symm, _, rfl⟩
  · have d0 : ((l.length : Int) != (m.length : Int)) = true := by simp; omega
    have HR : Hid (sameL l m = false) := by show _ = _; unfold sameL; simp only [decide_eq_false_iff_not]; rintro rfl; exact hlen rfl
    clear hS hM
    go_enter Tryz.func35, Tryz.ntmps35
    go_wp2_with fail
    go_ret
    exact ⟨ret_bool HR.out.symm, 0, rfl⟩
theorem rsame_below (A C : Option Addr) (l m : List Lab) (cap capm : Nat) (hl : l.length ≤ 4294967296) (hm : m.length ≤ 4294967296) (w : World) (hS : Lb w w.heap.size A l) (hM : Lb w w.heap.size C m) :
    Calls Tryz.prog 35 #[.slice A l.length cap, .slice C m.length capm] w fun e w' => e = .returned (.bool (sameL l m)) ∧ Below w.heap.size w w' :=
  (rsame_any A C l m cap capm hl hm w hS hM).mono fun _ _ ⟨h1, n, h2⟩ => ⟨h1, h2 ▸ below_drewN (below_0 _) n⟩
end
section
open Go.RowKit Go.PlainAid
set_option linter.unusedVariables false
set_option linter.unusedSimpArgs false
/-! ### Bytes against runes -/
def byteName (b : UInt8) : Bool := decide (97 ≤ b.toNat) && decide (b.toNat ≤ 122)
def byteValue (b : UInt8) : Bool := decide (32 ≤ b.toNat) && b.toNat != 127
theorem dec_low {l : List UInt8} (h : (l.getD 0 0).toNat < 128) : decL l = ((l.getD 0 0).toNat, 1) := by
  unfold decL; rw [Lib.decodeN, if_pos h]
theorem dec_high {l : List UInt8} (h : ¬ (l.getD 0 0).toNat < 128) : 128 ≤ (decL l).1 := by
  unfold decL
  rcases Lib.decodeN_shape l.length (l.getD 0 0).toNat (l.getD 1 0).toNat (l.getD 2 0).toNat (l.getD 3 0).toNat with ⟨c, e⟩ | ⟨c1, c2, c3, cv, e⟩ | ⟨c1, c2, c3, c4, cv, cs, e⟩ | ⟨c1, c2, c3, c4, c5, cv, cw, e⟩ | e
  all_goals (rw [e]; dsimp only; omega)
theorem cp_name : ∀ (n : Nat) (l : List UInt8), l.length ≤ n → (cp l).all nameRune = l.all byteName
  | 0, l, h => by rw [List.eq_nil_of_length_eq_zero (show l.length = 0 by omega)]; rfl
  | n + 1, [], _ => rfl
  | n + 1, b :: l, h => by
    rw [cp_cons (by simp), List.all_cons, List.all_cons]
    by_cases hb : b.toNat < 128
    · have e : decL (b :: l) = (b.toNat, 1) := dec_low hb
      rw [e]
      show (nameRune (b.toNat, 1) && (cp l).all nameRune) = _
      rw [cp_name n l (by simpa using h)]
      rfl
    · have e := dec_high (l := b :: l) hb
      have h1 : nameRune (decL (b :: l)) = false := by
        simp [nameRune]; omega
      have h2 : byteName b = false := by
        simp [byteName]; omega
      rw [h1, h2]; rfl
theorem name_bytes (l : List UInt8) : nameB l = (!(l == []) && decide (l.length ≤ 12) && l.all byteName) := by
  unfold nameB; rw [cp_name l.length l (Nat.le_refl _)]
theorem bt_tx {s : ByteArray} {k : Nat} (h : k < s.size) : bt s k = (((tx s)[k]?).getD 0).toNat := by
  rw [← get_bt s k h]
  have h' : k < (tx s).length := by rw [tx_len]; exact h
  rw [List.getElem?_eq_getElem h']
  rfl
theorem all_take_succ {p : UInt8 → Bool} {l : List UInt8} {k : Nat} (h : k < l.length) : (l.take (k + 1)).all p = ((l.take k).all p && p ((l[k]?).getD 0)) := by
  rw [List.take_succ_eq_append_getElem h, List.all_append, List.getElem?_eq_getElem h]
  simp
theorem all_not {p : UInt8 → Bool} {l : List UInt8} {k : Nat} (h : (l.take k).all p = false) : l.all p = false := by
  cases e : l.all p with
  | false => rfl
  | true =>
    rw [List.all_eq_true] at e
    rw [← Bool.not_eq_true, List.all_eq_true] at h
    exact absurd (fun x hx => e x (List.mem_of_mem_take hx)) h
set_option maxRecDepth 100000 in
set_option maxHeartbeats 2000000 in
theorem risName_any (s : ByteArray) (hs : s.size ≤ maxLen) (w : World) :
    Calls Tryz.prog 43 #[.string s] w fun e w' => e = .returned (.bool (nameB (tx s))) ∧ w' = w := by
  have gs := get_bt s
  unfold maxLen at hs
  go_enter Tryz.func43, Tryz.ntmps43
  go_wp2_with fail
  go_loopw [3] (fun i wr => ∃ k : Nat, i = .int .i64 (k : Int) ∧ k ≤ s.size ∧ Hid (((tx s).take k).all byteName = true) ∧ wr = w) (fun i _ => s.size - (RowKit.intOf i).toNat)
  case atStart => exact ⟨0, rfl, Nat.zero_le _, rfl, rfl⟩
  case round =>
    obtain ⟨k, rfl, hk, HE, rfl⟩ := hrel
    by_cases h1 : k < s.size
    · have d1 : decide ((k : Int) < (s.size : Int)) = true := decide_eq_true (by omega)
      have hi1 : (0 : Int) ≤ (k : Int) := by omega
      have hi2 : (k : Int) < (s.size : Int) := by omega
      have h1' : k < (tx s).length := by rw [tx_len]; exact h1
      have HB := Lib.hid (bt_tx h1)
      have HT : Hid (((tx s).take (k + 1)).all byteName = byteName (((tx s)[k]?).getD 0)) := by show _ = _; rw [all_take_succ h1', HE.out, Bool.true_and]
      have HBAD : Hid (byteName (((tx s)[k]?).getD 0) = false → nameB (tx s) = false) := fun h => by
        rw [name_bytes, all_not (HT.out.trans h), Bool.and_false]
      generalize ((tx s)[k]?).getD 0 = c at *
      by_cases c1 : bt s k < 97
      · have b1 : decide (bt s k < 97) = true := decide_eq_true c1
        have HR := Lib.hid (HBAD.out (by have := HB.out; simp [byteName]; omega))
        clear HB HBAD HT
        go_wp2_with fail
        go_ret
        exact ⟨ret_bool HR.out.symm, rfl⟩
      · have b1 : decide (bt s k < 97) = false := decide_eq_false c1
        by_cases c2 : 122 < bt s k
        · have b2 : decide (122 < bt s k) = true := decide_eq_true c2
          have HR := Lib.hid (HBAD.out (by have := HB.out; simp [byteName]; omega))
          clear HB HBAD HT
          go_wp2_with fail
          go_ret
          exact ⟨ret_bool HR.out.symm, rfl⟩
        · have b2 : decide (122 < bt s k) = false := decide_eq_false c2
          have HR := Lib.hid (HT.out.trans (by have := HB.out; simp [byteName]; omega : byteName c = true))
          clear HB HBAD HT
          go_wp2_with fail
          go_roundw
          case rel => exact ⟨k + 1, by go_num, by omega, HR.out, by first | rfl | trivial⟩
          case measure => simp [RowKit.intOf]; omega
    · have hkk : k = s.size := by omega
      subst hkk
      have d1 : decide ((s.size : Int) < (s.size : Int)) = false := by simp
      have HR : Hid (nameB (tx s) = (decide (1 ≤ s.size) && decide (s.size ≤ 12))) := by
        show _ = _
        have := HE.out
        rw [← tx_len, List.take_length] at this
        rw [name_bytes, this, Bool.and_true, tx_len]
        congr 1
        cases e : tx s with
        | nil => have := congrArg List.length e; rw [tx_len] at this; simp at this; simp [this]
        | cons a r => have := congrArg List.length e; rw [tx_len] at this; simp at this; simp; omega
      clear HE
      by_cases c1 : 1 ≤ s.size
      · have b1 : decide (1 ≤ s.size) = true := decide_eq_true c1
        by_cases c2 : s.size ≤ 12
        · have b2 : decide (s.size ≤ 12) = true := decide_eq_true c2
          rw [b1, b2] at HR
          clear b2
          go_wp2_with fail
          go_ret
          exact ⟨ret_bool (by rw [HR.out]; simp; omega), rfl⟩
        · have b2 : decide (s.size ≤ 12) = false := decide_eq_false c2
          rw [b1, b2] at HR
          clear b2
          go_wp2_with fail
          go_ret
          exact ⟨ret_bool (by rw [HR.out]; simp; omega), rfl⟩
      · have b1 : decide (1 ≤ s.size) = false := decide_eq_false c1
        rw [b1] at HR
        go_wp2_with fail
        go_ret
        exact ⟨ret_bool HR.out.symm, rfl⟩
end
section
open Go.RowKit Go.PlainAid
set_option linter.unusedVariables false
set_option linter.unusedSimpArgs false
/-- How many bytes has the first rune; 0: there is none, or it is wrong. -/
def sizeF (l : List UInt8) : Nat := if l = [] then 0 else if okR (decL l) = true then (decL l).2 else 0
theorem dec_x_ok {l : List UInt8} (hne : l ≠ []) (h : okR (decL l) = true) : decL (l ++ [120]) = decL l := dec_ok_append [120] hne h
theorem dec_x_bad {l : List UInt8} (hne : l ≠ []) (h : okR (decL l) = false) : decL (l ++ [120]) = (65533, 1) :=
  (okR_iff _).1 (dec_bad_append hne (fun _ => by decide +kernel) h)
theorem dec_fffd {l : List UInt8} (hne : l ≠ []) (h : okR (decL l) = true) (he : (decL l).1 = 65533) : (decL l).2 = 3 ∧ l.take 3 = [239, 191, 189] := by
  have e := enc_dec hne h
  unfold encL at e
  rw [he] at e
  have e2 : Lib.encodeRune ((65533 : Nat) : Int) = [239, 191, 189] := by decide +kernel
  rw [e2] at e
  have hle := (decL_bd l).2.2.2 hne
  have := congrArg List.length e
  rw [List.length_take] at this
  simp at this
  have h3 : (decL l).2 = 3 := by omega
  rw [h3] at e
  exact ⟨h3, e.symm⟩
theorem fffd_ok {l : List UInt8} (h : l.take 3 = [239, 191, 189]) : okR (decL l) = true := by
  have : l = [239, 191, 189] ++ l.drop 3 := by rw [← h, List.take_append_drop]
  rw [this, dec_ok_append _ (by simp) (by decide +kernel)]
  decide +kernel
theorem dec_one {l : List UInt8} (hne : l ≠ []) (h : okR (decL l) = true) (h1 : (decL l).2 = 1) : (l.getD 0 0).toNat < 128 := by
  have hk := ok_not h
  unfold decL at hk h1
  rcases Lib.decodeN_shape l.length (l.getD 0 0).toNat (l.getD 1 0).toNat (l.getD 2 0).toNat (l.getD 3 0).toNat with ⟨c, e⟩ | ⟨c1, c2, c3, cv, e⟩ | ⟨c1, c2, c3, c4, cv, cs, e⟩ | ⟨c1, c2, c3, c4, c5, cv, cw, e⟩ | e
  · exact c
  all_goals (rw [e] at hk h1; simp at hk h1)
theorem tx_ne {s : ByteArray} (h : 0 < s.size) : tx s ≠ [] := by
  intro e; have := congrArg List.length e; rw [tx_len, List.length_nil] at this; omega
theorem tx_ext3 (s : ByteArray) : (s.extract 0 3).toList = (tx s).take 3 := by
  rw [tx_toList]
  show (s.extract 0 3).data.toList = _
  rw [Lib.extract_data]; simp [tx]
set_option maxRecDepth 100000 in
set_option maxHeartbeats 4000000 in
theorem rsize_any (s : ByteArray) (hs : s.size ≤ 100000) (w : World) :
    Calls Tryz.prog 80 #[.string s] w fun e w' => e = .returned (.int .i64 (sizeF (tx s))) ∧ Below w.heap.size w w' := by
  have gs := get_bt s
  have hx1 : (⟨#[120]⟩ : ByteArray).size = 1 := rfl
  have ha : Op.stringOp .add s ⟨#[120]⟩ = pure (.string (s ++ ⟨#[120]⟩)) := stringOp_add (by omega)
  have hu : (s ++ ⟨#[120]⟩ : ByteArray).size = s.size + 1 := by rw [ByteArray.size_append]; rfl
  have htx : tx (s ++ ⟨#[120]⟩ : ByteArray) = tx s ++ [120] := tx_append s ⟨#[120]⟩
  generalize (s ++ ⟨#[120]⟩ : ByteArray) = u at *
  have HTX := Lib.hid htx
  clear htx
  go_enter Tryz.func80, Tryz.ntmps80
  go_wp2_with fail
  go_loopw [3, 4] (fun i r wr => ∃ pos : Nat, Hid (It w w.heap.size u pos wr) ∧ (pos = 0 ∨ (0 < s.size ∧ okR (decL (tx s)) = true ∧ pos = (decL (tx s)).2) ∨ (s.size = 0 ∧ pos = 1))) (fun _ _ wr => u.size - wr.iterPos w.heap.size)
  case atStart => exact ⟨0, It.mk0 w u, .inl rfl⟩
  case round =>
    obtain ⟨pos, HI, hpos⟩ := hrel
    have HP := Lib.hid HI.out.pos
    rcases hpos with rfl | ⟨h0, hok, rfl⟩ | ⟨h0, rfl⟩
    · have hp : 0 < u.size := by omega
      have hnx : ∀ ty, (Instr.next (.pointer (some ⟨w.heap.size, 0, none⟩)) true ty).run Tryz.prog wr = _ := fun ty => Lib.run_next_any_at wr w.heap.size u 0 ty HI.out.1 hp
      rw [dec_at, HTX.out, List.drop_zero] at hnx
      have HI2 := Lib.hid (HI.out.move (Nat.le_refl _) (0 + (decL (tx s ++ [120])).2))
      by_cases h0 : 0 < s.size
      · have hne := tx_ne h0
        cases hok : okR (decL (tx s)) with
        | true =>
          have hd := dec_x_ok hne hok
          have hbd := decL_bd (tx s)
          have hF : Hid ((decL (tx s)).1 = 65533 → 3 ≤ s.size ∧ ((s.extract 0 3).toList == [239, 191, 189]) = true) := fun e => by
            obtain ⟨e1, e2⟩ := dec_fffd hne hok e
            have := hbd.2.2.2 hne
            rw [tx_len] at this
            exact ⟨by omega, by rw [tx_ext3, e2]; rfl⟩
          rw [hd] at hnx HI2
          have HR : Hid (0 < s.size ∧ okR (decL (tx s)) = true) := ⟨h0, hok⟩
          obtain ⟨d, hdd⟩ : ∃ d, decL (tx s) = d := ⟨_, rfl⟩
          have HD := Lib.hid hdd
          rw [hdd] at hnx HI2 hbd hF
          clear hok hd hne hdd
          generalize hwi : wr.iterAt w.heap.size u (0 + d.2) = wi at *
          clear hwi
          by_cases c1 : d.1 = 65533
          · obtain ⟨h3, h4⟩ := hF.out c1
            have e1 : ((d.1 : Int) == 65533) = true := by simp; omega
            have e2 : decide ((s.size : Int) < 3) = false := by simp; omega
            have e2' : decide (s.size < 3) = false := by simp; omega
            have h5 : (3 : Int) ≤ (s.size : Int) := by omega
            clear hF c1
            go_wp2_with fail
            go_roundw
            case rel => exact ⟨0 + d.2, HI2.out, .inr (.inl ⟨HR.out.1, by first | exact HR.out.2 | trivial, by rw [HD.out]; omega⟩)⟩
            case measure => rw [HI2.out.pos, HP.out]; omega
          · have e1 : ((d.1 : Int) == 65533) = false := by simp; omega
            clear hF c1
            go_wp2_with fail
            go_roundw
            case rel => exact ⟨0 + d.2, HI2.out, .inr (.inl ⟨HR.out.1, by first | exact HR.out.2 | trivial, by rw [HD.out]; omega⟩)⟩
            case measure => rw [HI2.out.pos, HP.out]; omega
        | false =>
          have hd := dec_x_bad hne hok
          have HR : Hid (sizeF (tx s) = 0) := by show _ = _; rw [sizeF, if_neg hne, hok, if_neg (by simp)]
          rw [hd] at hnx HI2
          have HF : Hid (((s.extract 0 3).toList == [239, 191, 189]) = false) := by
            show _ = _
            rw [beq_eq_false_iff_ne, tx_ext3]
            intro e; rw [fffd_ok e] at hok; cases hok
          have hF := HF.out
          clear hd hok hne
          by_cases c1 : s.size < 3
          · have e2 : decide (s.size < 3) = true := decide_eq_true c1
            go_wp2_with fail
            go_ret
            exact ⟨by rw [HR.out]; rfl, HI2.out.2⟩
          · have e2 : decide (s.size < 3) = false := decide_eq_false c1
            have h5 : (3 : Int) ≤ (s.size : Int) := by omega
            go_wp2_with fail
            go_ret
            exact ⟨by rw [HR.out]; rfl, HI2.out.2⟩
      · have hz : s.size = 0 := by omega
        have ht : tx s = [] := List.eq_nil_of_length_eq_zero (by rw [tx_len]; exact hz)
        rw [ht] at hnx HI2
        have hd : decL ([] ++ [120]) = (120, 1) := by decide +kernel
        rw [hd] at hnx HI2
        replace HI2 : Hid (It w w.heap.size u 1 (wr.iterAt w.heap.size u 1)) := HI2
        clear hd ht
        go_wp2_with fail
        go_roundw
        case rel => exact ⟨1, HI2.out, .inr (.inr ⟨hz, rfl⟩)⟩
        case measure => rw [HI2.out.pos, HP.out]; omega
    · have hne := tx_ne h0
      obtain ⟨_, hb1, hb4, hble⟩ := decL_bd (tx s)
      have hble := hble hne
      rw [tx_len] at hble
      have hp : (decL (tx s)).2 < u.size := by omega
      have hnx : ∀ ty, (Instr.next (.pointer (some ⟨w.heap.size, 0, none⟩)) true ty).run Tryz.prog wr = _ := fun ty => Lib.run_next_any_at wr w.heap.size u (decL (tx s)).2 ty HI.out.1 hp
      rw [dec_at] at hnx
      have HI2 := Lib.hid (HI.out.move (Nat.le_refl _) ((decL (tx s)).2 + (decL ((tx u).drop (decL (tx s)).2)).2))
      have HR : Hid (sizeF (tx s) = (decL (tx s)).2) := by show _ = _; rw [sizeF, if_neg hne, if_pos hok]
      have HB : Hid ((decL (tx s)).2 = 1 → bt s 0 < 128) := fun h => by
        have := dec_one hne hok h
        rw [List.getD_eq_getElem?_getD] at this
        rw [bt_tx h0]; omega
      generalize decL ((tx u).drop (decL (tx s)).2) = d' at *
      clear hok hne
      generalize (decL (tx s)).2 = n at *
      generalize wr.iterAt w.heap.size u (n + d'.2) = wi at *
      have c1 : decide ((0 : Int) < (n : Int)) = true := decide_eq_true (by omega)
      have c1' : decide (0 < n) = true := decide_eq_true (by omega)
      have c4 : decide ((s.size : Int) < (n : Int)) = false := by simp; omega
      have c4' : decide (s.size < n) = false := by simp; omega
      have hi0 : (0 : Int) < (s.size : Int) := by omega
      by_cases e : n = 1
      · have hbt := HB.out e
        have c2 : ((n : Int) == 1) = true := by rw [beq_iff_eq]; omega
        have c3 : decide (128 ≤ bt s 0) = false := by simp; omega
        clear HB
        go_wp2_with fail
        go_ret
        exact ⟨ret_int (by have := HR.out; omega), HI2.out.2⟩
      · have c2 : ((n : Int) == 1) = false := by rw [beq_eq_false_iff_ne]; omega
        clear HB
        go_wp2_with fail
        go_ret
        exact ⟨ret_int (by have := HR.out; omega), HI2.out.2⟩
    · have hp : ¬ 1 < u.size := by omega
      have hnx : ∀ ty, (Instr.next (.pointer (some ⟨w.heap.size, 0, none⟩)) true ty).run Tryz.prog wr = _ := fun ty => Lib.run_next_end_at wr w.heap.size u 1 ty HI.out.1 hp
      have HR : Hid (sizeF (tx s) = 0) := by
        show _ = _
        rw [sizeF, if_pos (List.eq_nil_of_length_eq_zero (by rw [tx_len]; exact h0))]
      go_wp2_with fail
      go_ret
      exact ⟨ret_int (by rw [HR.out]; rfl), HI.out.2⟩
end
section
open Go.RowKit Go.PlainAid
set_option linter.unusedVariables false
set_option linter.unusedSimpArgs false
theorem runes_step_ok {l : List UInt8} (hne : l ≠ []) (h : okR (decL l) = true) : sizeF l = (decL l).2 ∧ validL l = validL (l.drop (decL l).2) ∧ (cp l).length = 1 + (cp (l.drop (decL l).2)).length := by
  refine ⟨by rw [sizeF, if_neg hne, if_pos h], by rw [valid_cons hne, h, Bool.true_and], ?_⟩
  rw [cp_cons hne, List.length_cons]; omega
theorem runes_step_bad {l : List UInt8} (hne : l ≠ []) (h : okR (decL l) = false) : sizeF l = 0 ∧ validL l = false := by
  refine ⟨by rw [sizeF, if_neg hne, h, if_neg (by simp)], by rw [valid_cons hne, h, Bool.false_and]⟩
theorem own_base1 {w : World} {B n sz : Nat} {t : TypeId} {v : Value} {xs : List Value} (h : w.ownsRow B t sz v n xs) : ∀ j, v.ownBlock = some j → B ≤ j := fun j e => (own_row1 h j e).1
theorem tx_from {s : ByteArray} {n : Nat} (h : n ≤ s.size) : tx (s.extract n s.size) = (tx s).drop n := by
  show (s.extract n s.size).data.toList = s.data.toList.drop n
  rw [Lib.extract_data, List.take_of_length_le]
  rw [List.length_drop]
  exact Nat.le_of_eq (congrArg (· - n) (tx_len s))
def LsRet (w : World) (l : List UInt8) (e : Ending) (w' : World) : Prop :=
  (∃ A m c, e = .returned (.tuple #[.slice A m c, .bool (runesF l).2]) ∧ (m : Int) = (runesF l).1) ∧ Below w.heap.size w w'
theorem LsRet.mk {w w' : World} {l : List UInt8} {A : Option Addr} {m c : Nat} {b : Bool} (h : runesF l = ((m : Int), b)) (hb : Below w.heap.size w w') : LsRet w l (.returned (.tuple #[.slice A m c, .bool b])) w' := ⟨⟨A, m, c, by rw [h], by rw [h]⟩, hb⟩
set_option maxRecDepth 100000 in
set_option maxHeartbeats 4000000 in
theorem rlist_any (s : ByteArray) (hs : s.size ≤ 100000) (w : World) :
    Calls Tryz.prog 70 #[.string s] w (LsRet w (tx s)) := by
  obtain ⟨i0, hi0, hz0, hz1, hz2⟩ := info_parts Tryz.infoStr
  go_enter Tryz.func70, Tryz.ntmps70
  go_wp2_with fail
  go_loopw [0, 4] (fun t v wr => ∃ (r : ByteArray) (m : Nat) (xs : List Value), t = .string r ∧ m + r.size ≤ s.size ∧ Hid (validL (tx s) = validL (tx r)) ∧ Hid ((cp (tx s)).length = m + (cp (tx r)).length) ∧ Hid (wr.ownsRow w.heap.size 9 1 v m xs) ∧ Hid (Below w.heap.size w wr)) (fun t _ _ => match t with | .string r => r.size | _ => 0)
  case atStart => exact ⟨s, 0, [], rfl, by omega, rfl, by show _ = _; omega, World.ownsRow_nil _ _ _ _, below_0 _⟩
  case round =>
    obtain ⟨r, m, xs, rfl, hm, HV, HC, HO, HB⟩ := hrel
    obtain ⟨A1, c1, rfl, _⟩ := owns_form HO.out
    by_cases h0 : 0 < r.size
    · have hne := tx_ne h0
      have hne2 : r.toList.isEmpty = false := by
        rw [tx_toList]
        cases e : tx r with
        | nil => exact absurd e hne
        | cons a q => rfl
      have hne3 : ¬ r.toList = [] := by rw [tx_toList]; exact hne
      have QS := Lib.hid (rsize_any r (by omega) wr)
      obtain ⟨_, hd1, _, hd3⟩ := decL_bd (tx r)
      have hd3 := hd3 hne
      rw [tx_len] at hd3
      cases hok : okR (decL (tx r)) with
      | false =>
        obtain ⟨e1, e2⟩ := runes_step_bad hne hok
        rw [e1] at QS
        have HR : Hid (runesF (tx s) = (0, false)) := by show _ = _; rw [runesF, HV.out, e2, if_neg (by simp)]
        clear hok hne e1 e2
        go_wp2_with fail
        refine QS.out.mono ?_
        rintro e w1 ⟨rfl, hb1⟩
        go_wp2_with fail
        go_ret2
        exact LsRet.mk (m := 0) HR.out (HB.out.trans (hb1.mono HB.out.size))
      | true =>
        obtain ⟨e1, e2, e3⟩ := runes_step_ok hne hok
        rw [e1] at QS
        have HX := Lib.hid (tx_from hd3)
        have HV2 : Hid (validL (tx s) = validL (tx (r.extract (decL (tx r)).2 r.size))) := by show _ = _; rw [HX.out, HV.out, e2]
        have HC2 : Hid ((cp (tx s)).length = (m + 1) + (cp (tx (r.extract (decL (tx r)).2 r.size))).length) := by show _ = _; rw [HX.out, HC.out, e3]; omega
        have hsz2 : (r.extract (decL (tx r)).2 r.size).size = r.size - (decL (tx r)).2 := by rw [ByteArray.size_extract]; omega
        clear hok hne e1 e2 e3 HX
        generalize (decL (tx r)).2 = n at *
        have c2 : ((n : Int) == 0) = false := by rw [beq_eq_false_iff_ne]; omega
        have c2' : (n == 0) = false := by rw [beq_eq_false_iff_ne]; omega
        have hn1 : (0 : Int) ≤ (n : Int) := by omega
        have hn2 : (n : Int) ≤ (r.size : Int) := by omega
        go_wp2_with fail
        refine QS.out.mono ?_
        rintro e w1 ⟨rfl, hb1⟩
        have HO1 := Lib.hid (own_later HO.out hb1)
        have HB1 : Hid (Below w.heap.size w w1) := HB.out.trans (hb1.mono HB.out.size)
        clear hb1 HO HB QS
        go_wp2_with (at_builtin; refine wpList_append_own _ rfl _ _ 117 rfl w.heap.size 9 i0 (.string ⟨#[]⟩) 1 16 Tryz.underlying117 hi0 hz0 hz1 hz2 rfl (by decide) (.slice A1 m c1) m _ rfl (HO1.out.alloc _) ⟨w1.heap.size, 0, none⟩ 1 1 [_] rfl rfl (cell_one _ _ _ _ rfl) (by simp [Value.oneCell']) (by unfold maxLen; omega) (by omega) (by have := HB1.out.size; simp; omega) ?_; intro v' w2 hown' hgrow _)
        have HO2 := Lib.hid hown'
        have HB2 : Hid (Below w.heap.size w w2) := (HB1.out.alloc HB1.out.size _).grown hgrow (by have := HB1.out.size; simp; omega) (fun j e => own_base1 HO1.out j e)
        clear hown' hgrow HO1 HB1
        go_wp2_with fail
        go_roundw
        case rel => exact ⟨_, m + 1, _, rfl, by omega, HV2.out, HC2.out, HO2.out, HB2.out⟩
        case measure => show (r.extract n r.size).size < r.size; omega
    · have ht : tx r = [] := List.eq_nil_of_length_eq_zero (by rw [tx_len]; omega)
      have hr0 : r.toList = [] := by rw [tx_toList]; exact ht
      have hr1 : r.toList.isEmpty = true := by rw [hr0]; rfl
      have HR : Hid (runesF (tx s) = ((m : Int), true)) := by
        show _ = _
        rw [runesF, HV.out, HC.out, ht, show validL [] = true from rfl, if_pos rfl, cp_nil]; rfl
      go_wp2_with fail
      go_ret2
      exact LsRet.mk (m := m) HR.out HB.out
set_option maxRecDepth 100000 in
theorem rrunes_any (s : ByteArray) (hs : s.size ≤ 100000) (w : World) :
    Calls Tryz.prog 58 #[.string s] w fun e w' => e = .returned (.tuple #[.int .i64 (runesF (tx s)).1, .bool (runesF (tx s)).2]) ∧ Below w.heap.size w w' := by
  have Q := Lib.hid (rlist_any s hs w)
  go_enter Tryz.func58, Tryz.ntmps58
  go_wp2_with fail
  refine Q.out.mono ?_
  rintro e w1 ⟨⟨A, m, c, rfl, hm⟩, hb⟩
  have HM := Lib.hid hm
  clear hm
  go_wp2_with fail
  go_ret2
  exact ⟨by rw [HM.out]; rfl, hb⟩
end
section
open Go.RowKit Go.PlainAid
set_option linter.unusedVariables false
set_option linter.unusedSimpArgs false
theorem high_bytes {l : List UInt8} (hne : l ≠ []) (hok : okR (decL l) = true) (hb : ¬ (l.getD 0 0).toNat < 128) : (l.take (decL l).2).all byteValue = true := by
  have hl : 0 < l.length := List.length_pos_iff.2 hne
  have hk := ok_not hok
  unfold decL at hk ⊢
  have hv : ∀ b : UInt8, 128 ≤ b.toNat → byteValue b = true := fun b h => by simp [byteValue]; omega
  rcases Lib.decodeN_shape l.length (l.getD 0 0).toNat (l.getD 1 0).toNat (l.getD 2 0).toNat (l.getD 3 0).toNat with ⟨c, e⟩ | ⟨c1, c2, c3, cv, e⟩ | ⟨c1, c2, c3, c4, cv, cs, e⟩ | ⟨c1, c2, c3, c4, c5, cv, cw, e⟩ | e
  · exact absurd c hb
  · rw [e]; dsimp only; rw [Lib.takeB l c2]
    simp only [List.all_cons, List.all_nil, Bool.and_true, hv _ (show 128 ≤ (l.getD 0 0).toNat by omega), hv _ (show 128 ≤ (l.getD 1 0).toNat by omega)]
  · rw [e]; dsimp only; rw [Lib.takeC l c2]
    simp only [List.all_cons, List.all_nil, Bool.and_true, hv _ (show 128 ≤ (l.getD 0 0).toNat by omega), hv _ (show 128 ≤ (l.getD 1 0).toNat by omega), hv _ (show 128 ≤ (l.getD 2 0).toNat by omega)]
  · rw [e]; dsimp only; rw [Lib.takeD l c2]
    simp only [List.all_cons, List.all_nil, Bool.and_true, hv _ (show 128 ≤ (l.getD 0 0).toNat by omega), hv _ (show 128 ≤ (l.getD 1 0).toNat by omega), hv _ (show 128 ≤ (l.getD 2 0).toNat by omega), hv _ (show 128 ≤ (l.getD 3 0).toNat by omega)]
  · rw [e] at hk; exact absurd ⟨rfl, rfl⟩ hk
theorem cp_value : ∀ (n : Nat) (l : List UInt8), l.length ≤ n → validL l = true → (cp l).all valueRune = l.all byteValue
  | 0, l, h, _ => by rw [List.eq_nil_of_length_eq_zero (show l.length = 0 by omega)]; rfl
  | n + 1, [], _, _ => rfl
  | n + 1, b :: l, h, hv => by
    have hne : b :: l ≠ [] := by simp
    rw [valid_cons hne, Bool.and_eq_true] at hv
    obtain ⟨_, hd1, _, hd3⟩ := decL_bd (b :: l)
    rw [cp_cons hne, List.all_cons, cp_value n _ (by rw [List.length_drop]; simp only [List.length_cons] at h ⊢; omega) hv.2]
    have ht : (b :: l).all byteValue = (((b :: l).take (decL (b :: l)).2).all byteValue && ((b :: l).drop (decL (b :: l)).2).all byteValue) := by
      rw [← List.all_append, List.take_append_drop]
    rw [ht]
    congr 1
    by_cases hb : b.toNat < 128
    · have e : decL (b :: l) = (b.toNat, 1) := dec_low hb
      rw [e]
      simp [valueRune, byteValue]
    · have e := dec_high (l := b :: l) hb
      rw [high_bytes hne hv.1 hb]
      simp [valueRune]; omega
theorem value_bytes {l : List UInt8} : valueB l = (l.all byteValue && ((runesF l).2 && decide ((runesF l).1 ≤ 24))) := by
  unfold valueB runesF
  cases hv : validL l with
  | false => simp
  | true =>
    rw [cp_value l.length l (Nat.le_refl _) hv]
    simp only [if_true, Bool.true_and]
    rw [Bool.and_comm]
    congr 1
    rw [decide_eq_decide]; omega
set_option maxRecDepth 100000 in
set_option maxHeartbeats 2000000 in
theorem risValue_any (s : ByteArray) (hs : s.size ≤ 100000) (w : World) :
    Calls Tryz.prog 44 #[.string s] w fun e w' => e = .returned (.bool (valueB (tx s))) ∧ Below w.heap.size w w' := by
  have gs := get_bt s
  have QR := Lib.hid (rrunes_any s hs w)
  go_enter Tryz.func44, Tryz.ntmps44
  go_wp2_with fail
  go_loopw [3] (fun i wr => ∃ k : Nat, i = .int .i64 (k : Int) ∧ k ≤ s.size ∧ Hid (((tx s).take k).all byteValue = true) ∧ wr = w) (fun i _ => s.size - (RowKit.intOf i).toNat)
  case atStart => exact ⟨0, rfl, Nat.zero_le _, rfl, rfl⟩
  case round =>
    obtain ⟨k, rfl, hk, HE, rfl⟩ := hrel
    by_cases h1 : k < s.size
    · have d1 : decide ((k : Int) < (s.size : Int)) = true := decide_eq_true (by omega)
      have hi1 : (0 : Int) ≤ (k : Int) := by omega
      have hi2 : (k : Int) < (s.size : Int) := by omega
      have h1' : k < (tx s).length := by rw [tx_len]; exact h1
      have HB := Lib.hid (bt_tx h1)
      have HT : Hid (((tx s).take (k + 1)).all byteValue = byteValue (((tx s)[k]?).getD 0)) := by show _ = _; rw [all_take_succ h1', HE.out, Bool.true_and]
      have HBAD : Hid (byteValue (((tx s)[k]?).getD 0) = false → valueB (tx s) = false) := fun h => by
        rw [value_bytes, all_not (HT.out.trans h), Bool.false_and]
      generalize ((tx s)[k]?).getD 0 = c at *
      by_cases c1 : bt s k < 32
      · have b1 : decide (bt s k < 32) = true := decide_eq_true c1
        have HR := Lib.hid (HBAD.out (by have := HB.out; simp [byteValue]; omega))
        clear HB HBAD HT
        go_wp2_with fail
        go_ret
        exact ⟨ret_bool HR.out.symm, below_0 _⟩
      · have b1 : decide (bt s k < 32) = false := decide_eq_false c1
        by_cases c2 : bt s k = 127
        · have b2 : (bt s k == 127) = true := by rw [beq_iff_eq]; exact c2
          have HR := Lib.hid (HBAD.out (by have := HB.out; simp [byteValue]; omega))
          clear HB HBAD HT
          go_wp2_with fail
          go_ret
          exact ⟨ret_bool HR.out.symm, below_0 _⟩
        · have b2 : (bt s k == 127) = false := by rw [beq_eq_false_iff_ne]; exact c2
          have HR := Lib.hid (HT.out.trans (by have := HB.out; simp [byteValue]; omega : byteValue c = true))
          clear HB HBAD HT
          go_wp2_with fail
          go_roundw
          case rel => exact ⟨k + 1, by go_num, by omega, HR.out, by first | rfl | trivial⟩
          case measure => simp [RowKit.intOf]; omega
    · have hkk : k = s.size := by omega
      subst hkk
      have d1 : decide ((s.size : Int) < (s.size : Int)) = false := by simp
      have HR : Hid (valueB (tx s) = ((runesF (tx s)).2 && decide ((runesF (tx s)).1 ≤ 24))) := by
        show _ = _
        have := HE.out
        rw [← tx_len, List.take_length] at this
        rw [value_bytes, this, Bool.true_and]
      clear HE
      generalize runesF (tx s) = g at *
      obtain ⟨g1, g2⟩ := g
      simp only at QR HR
      cases g2 with
      | true =>
        go_wp2_with fail
        refine QR.out.mono ?_
        rintro e w1 ⟨rfl, hb1⟩
        go_wp2_with fail
        go_ret
        exact ⟨ret_bool (by rw [HR.out]; rfl), hb1⟩
      | false =>
        go_wp2_with fail
        refine QR.out.mono ?_
        rintro e w1 ⟨rfl, hb1⟩
        go_wp2_with fail
        go_ret
        exact ⟨ret_bool (by rw [HR.out]; rfl), hb1⟩
end
section
open Go.RowKit Go.PlainAid
set_option linter.unusedVariables false
set_option linter.unusedSimpArgs false
theorem leq_least (a b : List UInt8) : leqB b a = decide (0 ≤ leastF a b) := by
  unfold leqB
  rcases leastF_ls a b with ⟨e, h⟩ | ⟨e, h⟩ | ⟨e, h⟩
  · rw [e]
    have h1 := lsB_asymm h
    have h2 : (b == a) = false := by rw [beq_eq_false_iff_ne]; exact (ls_ne h).symm
    unfold lsB at h1; rw [h1, h2]; rfl
  · rw [e, h]; simp
  · rw [e]; unfold lsB at h; rw [h]; rfl
theorem leq_nil {a : List UInt8} (h : nameB a = true) : leqB a [] = false := by
  have hne : a ≠ [] := by rintro rfl; simp [nameB] at h
  unfold leqB
  cases a with
  | nil => exact absurd rfl hne
  | cons b r => simp [Op.bytesLess]
theorem chain_take {l : List Lab} {k : Nat} (h : k < l.length) : chainB [] (l.take (k + 1)) = (chainB [] (l.take k) && okStep (tx (lastNm (l.take k))) (lth l k)) := by
  rw [take_lth_succ h, chainB_last]
theorem last_take {l : List Lab} {k : Nat} (h : k + 1 ≤ l.length) : lastNm (l.take (k + 1)) = (lth l k).1 := by
  rw [take_lth_succ (by omega), lastNm_snoc]
theorem chain_bad {l : List Lab} {k : Nat} (h : chainB [] (l.take k) = false) : setB l = false := by
  have := chainB_more (l.take k) (l.drop k) [] h
  rw [List.take_append_drop] at this
  unfold setB; rw [this]; simp
theorem risName_below (s : ByteArray) (hs : s.size ≤ maxLen) {v : Bool} (hv : nameB (tx s) = v) (w : World) : Calls Tryz.prog 43 #[.string s] w fun e w' => e = .returned (.bool v) ∧ Below w.heap.size w w' :=
  (risName_any s hs w).mono fun _ _ ⟨h1, h2⟩ => ⟨hv ▸ h1, h2 ▸ below_0 _⟩
theorem risValue_below (s : ByteArray) (hs : s.size ≤ 100000) {v : Bool} (hv : valueB (tx s) = v) (w : World) : Calls Tryz.prog 44 #[.string s] w fun e w' => e = .returned (.bool v) ∧ Below w.heap.size w w' :=
  (risValue_any s hs w).mono fun _ _ ⟨h1, h2⟩ => ⟨hv ▸ h1, h2⟩
set_option maxRecDepth 100000 in
set_option maxHeartbeats 4000000 in
theorem rright_any (A : Option Addr) (l : List Lab) (cap : Nat) (hl : l.length ≤ 4294967296) (hs : ∀ x ∈ l, x.1.size ≤ 100000 ∧ x.2.size ≤ 100000) (w : World) (hS : Lb w w.heap.size A l) :
    Calls Tryz.prog 32 #[.slice A l.length cap] w fun e w' => e = .returned (.bool (setB l)) ∧ Below w.heap.size w w' := by
  have HS := Lib.hid hS
  have HZ : Hid (∀ k, (lth l k).1.size ≤ 100000 ∧ (lth l k).2.size ≤ 100000) := fun k => by
    unfold lth
    cases e : l[k]? with
    | none => simp
    | some x => exact hs x (List.mem_of_getElem? e)
  clear hS hs
  go_enter Tryz.func32, Tryz.ntmps32
  go_wp2_with fail
  go_loopw [3] (fun i wr => ∃ k : Nat, i = .int .i64 (k : Int) ∧ k ≤ l.length ∧ Hid (chainB [] (l.take k) = true) ∧ Hid (Below w.heap.size w wr)) (fun i _ => l.length - (RowKit.intOf i).toNat)
  case atStart => exact ⟨0, rfl, Nat.zero_le _, rfl, below_0 _⟩
  case round =>
    obtain ⟨k, rfl, hk, HE, HB⟩ := hrel
    by_cases h1 : k < l.length
    · have d1 : decide ((k : Int) < (l.length : Int)) = true := decide_eq_true (by omega)
      obtain ⟨b, off, rfl, hb, hc⟩ := HS.out.at_ (by omega)
      obtain ⟨c1, c2⟩ := hc k h1
      have i1 := (HB.out.cell (p := ⟨b, off + k * 2, none⟩) hb).trans c1
      have i2 := (HB.out.cell (p := ⟨b, off + k * 2 + 1, none⟩) hb).trans c2
      have hbw : b < wr.heap.size := by have := HB.out.size; omega
      have hi1 : (0 : Int) ≤ (k : Int) := by omega
      have hi2 : (k : Int) < (l.length : Int) := by omega
      obtain ⟨z1, z2⟩ := HZ.out k
      have HT := Lib.hid (chain_take h1)
      rw [HE.out, Bool.true_and] at HT
      have F1 := After.cell i1 hbw
      have F2 := After.cell i2 hbw
      haveI hAW := After.some wr
      obtain ⟨nm, hnm⟩ : ∃ q, nameB (tx (lth l k).1) = q := ⟨_, rfl⟩
      obtain ⟨vl, hvl⟩ : ∃ q, valueB (tx (lth l k).2) = q := ⟨_, rfl⟩
      have QN : Hid (∀ x : After wr, Calls Tryz.prog 43 #[.string (lth l k).1] x.at_ fun e w' => e = .returned (.bool nm) ∧ Below x.at_.heap.size x.at_ w') := fun x => risName_below _ (by unfold maxLen; omega) hnm x.at_
      have QV : Hid (∀ x : After wr, Calls Tryz.prog 44 #[.string (lth l k).2] x.at_ fun e w' => e = .returned (.bool vl) ∧ Below x.at_.heap.size x.at_ w') := fun x => risValue_below _ z2 hvl x.at_
      rw [okStep, hnm, hvl] at HT
      cases nm with
      | false =>
        have HR : Hid (setB l = false) := chain_bad (k := k + 1) (HT.out.trans (by simp))
        clear HT hnm hvl
        go_wp2_with fail
        refine wp_region_below (by kernel_rfl) (by kernel_rfl) ?_
        repeat (go_big_quiet_step (first | with_reducible exact after_calls (QN.out _) | with_reducible exact after_calls (QV.out _)))
        refine wpQuiet_nil ?_
        rintro w9 ⟨x9, hx9⟩
        have HB9 : Hid (Below w.heap.size w w9) := HB.out.trans ((show Below wr.heap.size wr w9 by rw [hx9]; exact x9.is).mono HB.out.size)
        clear hx9 x9
        go_wp2_with fail
        go_ret
        exact ⟨ret_bool HR.out.symm, HB9.out⟩
      | true =>
        cases vl with
        | false =>
          have HR : Hid (setB l = false) := chain_bad (k := k + 1) (HT.out.trans (by simp))
          clear HT hnm hvl
          go_wp2_with fail
          refine wp_region_below (by kernel_rfl) (by kernel_rfl) ?_
          repeat (go_big_quiet_step (first | with_reducible exact after_calls (QN.out _) | with_reducible exact after_calls (QV.out _)))
          refine wpQuiet_nil ?_
          rintro w9 ⟨x9, hx9⟩
          have HB9 : Hid (Below w.heap.size w w9) := HB.out.trans ((show Below wr.heap.size wr w9 by rw [hx9]; exact x9.is).mono HB.out.size)
          clear hx9 x9
          go_wp2_with fail
          go_ret
          exact ⟨ret_bool HR.out.symm, HB9.out⟩
        | true =>
          by_cases hk0 : k = 0
          · have HR : Hid (chainB [] (l.take (k + 1)) = true) := HT.out.trans (by
              rw [hk0, List.take_zero, show tx (lastNm []) = [] from rfl, ← hk0, leq_nil hnm]; rfl)
            have g1 : decide ((0 : Int) < (k : Int)) = false := by simp; omega
            have g2 : decide (0 < k) = false := by simp; omega
            clear HT hnm hvl hk0
            go_wp2_with fail
            refine wp_region_below (by kernel_rfl) (by kernel_rfl) ?_
            repeat (go_big_quiet_step (first | with_reducible exact after_calls (QN.out _) | with_reducible exact after_calls (QV.out _)))
            refine wpQuiet_nil ?_
            rintro w9 ⟨x9, hx9⟩
            have HB9 : Hid (Below w.heap.size w w9) := HB.out.trans ((show Below wr.heap.size wr w9 by rw [hx9]; exact x9.is).mono HB.out.size)
            clear hx9 x9
            go_wp2_with fail
            go_roundw
            case rel => exact ⟨k + 1, by go_num, by omega, HR.out, HB9.out⟩
            case measure => simp [RowKit.intOf]; omega
          · obtain ⟨j, rfl⟩ : ∃ j, k = j + 1 := ⟨k - 1, by omega⟩
            have g1 : decide ((0 : Int) < ((j + 1 : Nat) : Int)) = true := decide_eq_true (by omega)
            have hjl : j < l.length := by omega
            have i3 := (HB.out.cell (p := ⟨b, off + j * 2, none⟩) hb).trans (HS.out.at_ (by omega) |> fun ⟨b', off', e, _, hc⟩ => by cases e; exact (hc j hjl).1)
            have F3 := After.cell i3 hbw
            obtain ⟨z3, _⟩ := HZ.out j
            rw [last_take (by omega), leq_least] at HT
            obtain ⟨v, hv⟩ : ∃ v, leastF (tx (lth l j).1) (tx (lth l (j + 1)).1) = v := ⟨_, rfl⟩
            have QL : Hid (∀ x : After wr, Calls Tryz.prog 45 #[.string (lth l j).1, .string (lth l (j + 1)).1] x.at_ fun e w' => e = .returned (.int .i64 v) ∧ Below x.at_.heap.size x.at_ w') := fun x => least_below (by unfold maxLen; omega) (by unfold maxLen; omega) hv x.at_
            rw [hv] at HT
            have hj1 : (0 : Int) ≤ (j : Int) := by omega
            have hj2 : (j : Int) < (l.length : Int) := by omega
            cases g2 : decide (0 ≤ v) with
            | true =>
              have HR : Hid (setB l = false) := chain_bad (k := j + 1 + 1) (HT.out.trans (by rw [g2]; rfl))
              clear HT hnm hvl hv
              go_wp2_with fail
              refine wp_region_below (by kernel_rfl) (by kernel_rfl) ?_
              repeat (go_big_quiet_step (first | with_reducible exact after_calls (QN.out _) | with_reducible exact after_calls (QV.out _) | with_reducible exact after_calls (QL.out _)))
              refine wpQuiet_nil ?_
              rintro w9 ⟨x9, hx9⟩
              have HB9 : Hid (Below w.heap.size w w9) := HB.out.trans ((show Below wr.heap.size wr w9 by rw [hx9]; exact x9.is).mono HB.out.size)
              clear hx9 x9
              go_wp2_with fail
              go_ret
              exact ⟨ret_bool HR.out.symm, HB9.out⟩
            | false =>
              have HR : Hid (chainB [] (l.take (j + 1 + 1)) = true) := HT.out.trans (by rw [g2]; rfl)
              clear HT hnm hvl hv
              go_wp2_with fail
              refine wp_region_below (by kernel_rfl) (by kernel_rfl) ?_
              repeat (go_big_quiet_step (first | with_reducible exact after_calls (QN.out _) | with_reducible exact after_calls (QV.out _) | with_reducible exact after_calls (QL.out _)))
              refine wpQuiet_nil ?_
              rintro w9 ⟨x9, hx9⟩
              have HB9 : Hid (Below w.heap.size w w9) := HB.out.trans ((show Below wr.heap.size wr w9 by rw [hx9]; exact x9.is).mono HB.out.size)
              clear hx9 x9
              go_wp2_with fail
              go_roundw
              case rel => exact ⟨j + 1 + 1, by go_num, by omega, HR.out, HB9.out⟩
              case measure => simp [RowKit.intOf]; omega
    · have hkk : k = l.length := by omega
      subst hkk
      have d1 : decide ((l.length : Int) < (l.length : Int)) = false := by simp
      have HR : Hid (setB l = (decide (1 ≤ l.length) && decide (l.length ≤ 6))) := by
        show _ = _
        have := HE.out
        rw [List.take_length] at this
        unfold setB; rw [this, Bool.and_true]
      clear HE HS HZ
      generalize l.length = n at *
      by_cases c1 : 1 ≤ n
      · have b1 : decide (1 ≤ n) = true := decide_eq_true c1
        rw [b1, Bool.true_and] at HR
        go_wp2_with fail
        go_ret
        exact ⟨ret_bool (by rw [HR.out]; simp; omega), HB.out⟩
      · have b1 : decide (1 ≤ n) = false := decide_eq_false c1
        rw [b1, Bool.false_and] at HR
        go_wp2_with fail
        go_ret
        exact ⟨ret_bool HR.out.symm, HB.out⟩
end
end Go.Proofs.YtoffmclbnobllaaGreatDoor

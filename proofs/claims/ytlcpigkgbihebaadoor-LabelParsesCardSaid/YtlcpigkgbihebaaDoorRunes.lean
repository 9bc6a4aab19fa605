/-
  A text's runes, in plain words. Nothing of the program is named here.
-/
import Derived.Test.YtlcpigkgbihebaaDoorMem
import Derived.Lib.DecodeNEq
import Derived.Lib.Strings
namespace Go.Proofs.YtlcpigkgbihebaaDoor
/-- The rune at a text's head, and how many bytes it has (at a wrong one: 65533, 1). -/
def decL (l : List UInt8) : Nat × Nat := Lib.decodeN l.length (l.getD 0 0).toNat (l.getD 1 0).toNat (l.getD 2 0).toNat (l.getD 3 0).toNat
/-- The bytes of a text. -/
def tx (s : ByteArray) : List UInt8 := s.data.toList
theorem get_drop (s : ByteArray) (i k : Nat) : s.get! (i + k) = ((tx s).drop i).getD k 0 := by
  rw [List.getD_eq_getElem?_getD, List.getElem?_drop, tx, Array.getElem?_toList]
  show s.data.getD (i + k) default = _
  rw [Array.getD_eq_getD_getElem?]
  rfl
theorem dec_at (s : ByteArray) (i : Nat) : Utf8.decode s i = decL ((tx s).drop i) := by
  rw [Lib.decode_at, decL]
  have h0 := get_drop s i 0
  rw [Nat.add_zero] at h0
  rw [h0, get_drop, get_drop, get_drop, List.length_drop, tx, Array.length_toList]
  rfl
theorem decN_bd (n b0 b1 b2 b3 : Nat) (h0 : b0 < 256) : (Lib.decodeN n b0 b1 b2 b3).1 ≤ 1114111 ∧ 1 ≤ (Lib.decodeN n b0 b1 b2 b3).2 ∧ (Lib.decodeN n b0 b1 b2 b3).2 ≤ 4 ∧ (1 ≤ n → (Lib.decodeN n b0 b1 b2 b3).2 ≤ n) := by
  unfold Lib.decodeN
  repeat' split
  all_goals (simp only; omega)
theorem decL_bd (l : List UInt8) : (decL l).1 ≤ 1114111 ∧ 1 ≤ (decL l).2 ∧ (decL l).2 ≤ 4 ∧ (l ≠ [] → (decL l).2 ≤ l.length) := by
  have h := decN_bd l.length (l.getD 0 0).toNat (l.getD 1 0).toNat (l.getD 2 0).toNat (l.getD 3 0).toNat (UInt8.toNat_lt _)
  refine ⟨h.1, h.2.1, h.2.2.1, fun hn => h.2.2.2 ?_⟩
  rcases l with _ | ⟨x, l⟩
  · exact absurd rfl hn
  · simp
def cpN : Nat → List UInt8 → List (Nat × Nat)
  | 0, _ => []
  | n + 1, l => if l = [] then [] else decL l :: cpN n (l.drop (decL l).2)
/-- A text's runes, as a range over it tells them. -/
def cp (l : List UInt8) : List (Nat × Nat) := cpN l.length l
theorem cpN_nil (n : Nat) : cpN n [] = [] := by cases n <;> simp [cpN]
theorem cpN_more : ∀ (n m : Nat) (l : List UInt8), l.length ≤ n → l.length ≤ m → cpN n l = cpN m l
  | 0, m, l, h, _ => by
    have : l = [] := List.eq_nil_of_length_eq_zero (by omega)
    subst this; rw [cpN_nil, cpN_nil]
  | n + 1, 0, l, _, h => by
    have : l = [] := List.eq_nil_of_length_eq_zero (by omega)
    subst this; rw [cpN_nil, cpN_nil]
  | n + 1, m + 1, l, h, k => by
    unfold cpN
    split
    · rfl
    · have hb := decL_bd l
      rw [cpN_more n m (l.drop (decL l).2) (by rw [List.length_drop]; omega) (by rw [List.length_drop]; omega)]
theorem cp_nil : cp [] = [] := rfl
theorem cp_cons {l : List UInt8} (h : l ≠ []) : cp l = decL l :: cp (l.drop (decL l).2) := by
  have hb := decL_bd l
  have hl : 0 < l.length := List.length_pos_iff.2 h
  unfold cp
  obtain ⟨n, hn⟩ : ∃ n, l.length = n + 1 := ⟨l.length - 1, by omega⟩
  conv => lhs; rw [hn]; unfold cpN
  rw [if_neg h, cpN_more n _ _ (by rw [List.length_drop]; omega) (Nat.le_refl _)]
/-- Is a rune that a range told a right one? -/
def okR (x : Nat × Nat) : Bool := !(x.1 == 65533 && x.2 == 1)
/-- Is a text one of right runes? -/
def validL (l : List UInt8) : Bool := (cp l).all okR
theorem cp_length (l : List UInt8) : (cp l).length ≤ l.length := by
  have : ∀ n l, (cpN n l).length ≤ n := by
    intro n
    induction n with
    | zero => intro l; simp [cpN]
    | succ n ih => intro l; unfold cpN; split
                   · simp
                   · rw [List.length_cons]; have := ih (l.drop (decL l).2); omega
  exact this _ _
theorem tx_len (s : ByteArray) : (tx s).length = s.size := Array.length_toList
theorem tx_toList (s : ByteArray) : s.toList = tx s := Lib.toList_data s
theorem tx_inj {a b : ByteArray} (h : tx a = tx b) : a = b := by
  obtain ⟨⟨a⟩⟩ := a
  obtain ⟨⟨b⟩⟩ := b
  have h : a = b := h
  rw [h]
/-- What Runes tells. -/
def runesF (l : List UInt8) : Int × Bool := if validL l = true then (((cp l).length : Nat), true) else (0, false)
def nameRune (x : Nat × Nat) : Bool := decide (97 ≤ x.1) && decide (x.1 ≤ 122)
def valueRune (x : Nat × Nat) : Bool := decide (32 ≤ x.1) && x.1 != 127
def nameB (l : List UInt8) : Bool := !(l == []) && decide (l.length ≤ 12) && (cp l).all nameRune
def valueB (l : List UInt8) : Bool := validL l && decide ((cp l).length ≤ 24) && (cp l).all valueRune
end Go.Proofs.YtlcpigkgbihebaaDoor

/-
  The document's Get and isName; bytes against runes.
-/
import Derived.Test.YtlcpigkgbihebaaDoorLabelGets
import Derived.Test.YtlcpigkgbihebaaDoorRoundTrip
import Derived.PlainAid
import Derived.BigQuiet
namespace Go.Proofs.YtlcpigkgbihebaaDoor
open Go.RowKit Go.PlainAid
set_option linter.unusedVariables false
set_option linter.unusedSimpArgs false
theorem getL_at {l : List Lab} {k : Nat} (h : k < l.length) {n : ByteArray} (h0 : (getL (l.take k) n).2 = false) (he : ((lth l k).1.toList == n.toList) = true) : getL l n = ((lth l k).2, true) := by
  have e1 : getL (l.take (k + 1)) n = ((lth l k).2, true) := by rw [take_lth_succ h, getL_snoc h0, he]; rfl
  have e2 := getL_more (l := l.take (k + 1)) (n := n) (by rw [e1]) (l.drop (k + 1))
  rw [List.take_append_drop, e1] at e2
  exact e2
theorem ret_sb {g : ByteArray × Bool} {a : ByteArray} {b : Bool} (h : g = (a, b)) : Ending.returned (.tuple #[.string a, .bool b]) = .returned (.tuple #[.string g.1, .bool g.2]) := by rw [h]
set_option maxRecDepth 100000 in
set_option maxHeartbeats 2000000 in
theorem rget_any (A : Option Addr) (l : List Lab) (cap : Nat) (n : ByteArray) (h6 : l.length ≤ 4294967296) (w : World) (hS : Lb w w.heap.size A l) :
    Calls Tryd.prog 22 #[.slice A l.length cap, .string n] w fun e w' => e = .returned (.tuple #[.string (getL l n).1, .bool (getL l n).2]) ∧ w' = w := by
  have HS := Lib.hid hS
  clear hS
  go_enter Tryd.func22, Tryd.ntmps22
  go_wp2_with fail
  go_loopw [6] (fun i wr => ∃ k : Nat, i = .int .i64 (k : Int) ∧ k ≤ l.length ∧ Hid ((getL (l.take k) n).2 = false) ∧ wr = w) (fun i _ => l.length - (RowKit.intOf i).toNat)
  case atStart => exact ⟨0, rfl, Nat.zero_le _, rfl, rfl⟩
  case round =>
    obtain ⟨k, rfl, hk, HE, rfl⟩ := hrel
    by_cases h1 : k < l.length
    · have d1 : decide ((k : Int) < (l.length : Int)) = true := decide_eq_true (by omega)
      obtain ⟨b, off, rfl, hb, hc⟩ := HS.out.at_ (by omega)
      obtain ⟨i1, i2⟩ := hc k h1
      have hi1 : (0 : Int) ≤ (k : Int) := by omega
      have hi2 : (k : Int) < (l.length : Int) := by omega
      have HA : Hid (((lth l k).1.toList == n.toList) = true → getL l n = ((lth l k).2, true)) := fun h => getL_at h1 HE.out h
      have HN : Hid ((getL (l.take (k + 1)) n).2 = ((lth l k).1.toList == n.toList)) := by show _ = _; rw [getL_take h1, HE.out]; rfl
      clear hc
      generalize lth l k = x at *
      obtain ⟨x1, x2⟩ := x
      simp only at i1 i2 HA HN
      cases e : x1.toList == n.toList with
      | true =>
        have HR := Lib.hid (HA.out e)
        clear HA HN
        go_wp2_with fail
        go_ret2
        exact ⟨ret_sb HR.out, rfl⟩
      | false =>
        have HR : Hid ((getL (l.take (k + 1)) n).2 = false) := HN.out.trans e
        clear HA HN
        go_wp2_with fail
        go_roundw
        case rel => exact ⟨k + 1, by go_num, by omega, HR.out, by first | rfl | trivial⟩
        case measure => simp [RowKit.intOf]; omega
    · have hkk : k = l.length := by omega
      subst hkk
      have HR : Hid (getL l n = (⟨#[]⟩, false)) := by
        have := HE.out
        rw [List.take_length] at this
        exact getL_none this
      have d1 : decide ((l.length : Int) < (l.length : Int)) = false := by simp
      clear HS HE
      go_wp2_with fail
      go_ret2
      exact ⟨ret_sb HR.out, rfl⟩
/-! ### Bytes against runes -/
def byteName (b : UInt8) : Bool := decide (97 ≤ b.toNat) && decide (b.toNat ≤ 122)
def byteValue (b : UInt8) : Bool := decide (32 ≤ b.toNat) && b.toNat != 127
theorem dec_low {l : List UInt8} (h : (l.getD 0 0).toNat < 128) : decL l = ((l.getD 0 0).toNat, 1) := by
  unfold decL; rw [Lib.decodeN, if_pos h]
theorem dec_high {l : List UInt8} (h : ¬ (l.getD 0 0).toNat < 128) : 128 ≤ (decL l).1 := by
  unfold decL
  rcases Lib.decodeN_shape l.length (l.getD 0 0).toNat (l.getD 1 0).toNat (l.getD 2 0).toNat (l.getD 3 0).toNat with ⟨c, e⟩ | ⟨c1, c2, c3, cv, e⟩ | ⟨c1, c2, c3, c4, cv, cs, e⟩ | ⟨c1, c2, c3, c4, c5, cv, cw, e⟩ | e
  all_goals (rw [e]; dsimp only; omega)
theorem cp_name : ∀ (n : Nat) (l : List UInt8), l.length ≤ n → (cp l).all nameRune = l.all byteName
  | 0, l, h => by rw [List.eq_nil_of_length_eq_zero (show l.length = 0 by omega)]; rfl
  | n + 1, [], _ => rfl
  | n + 1, b :: l, h => by
    rw [cp_cons (by simp), List.all_cons, List.all_cons]
    by_cases hb : b.toNat < 128
    · have e : decL (b :: l) = (b.toNat, 1) := dec_low hb
      rw [e]
      show (nameRune (b.toNat, 1) && (cp l).all nameRune) = _
      rw [cp_name n l (by simpa using h)]
      rfl
    · have e := dec_high (l := b :: l) hb
      have h1 : nameRune (decL (b :: l)) = false := by
        simp [nameRune]; omega
      have h2 : byteName b = false := by
        simp [byteName]; omega
      rw [h1, h2]; rfl
theorem name_bytes (l : List UInt8) : nameB l = (!(l == []) && decide (l.length ≤ 12) && l.all byteName) := by
  unfold nameB; rw [cp_name l.length l (Nat.le_refl _)]
theorem bt_tx {s : ByteArray} {k : Nat} (h : k < s.size) : bt s k = (((tx s)[k]?).getD 0).toNat := by
  rw [← get_bt s k h]
  have h' : k < (tx s).length := by rw [tx_len]; exact h
  rw [List.getElem?_eq_getElem h']
  rfl
theorem all_take_succ {p : UInt8 → Bool} {l : List UInt8} {k : Nat} (h : k < l.length) : (l.take (k + 1)).all p = ((l.take k).all p && p ((l[k]?).getD 0)) := by
  rw [List.take_succ_eq_append_getElem h, List.all_append, List.getElem?_eq_getElem h]
  simp
theorem all_not {p : UInt8 → Bool} {l : List UInt8} {k : Nat} (h : (l.take k).all p = false) : l.all p = false := by
  cases e : l.all p with
  | false => rfl
  | true =>
    rw [List.all_eq_true] at e
    rw [← Bool.not_eq_true, List.all_eq_true] at h
    exact absurd (fun x hx => e x (List.mem_of_mem_take hx)) h
set_option maxRecDepth 100000 in
set_option maxHeartbeats 2000000 in
theorem risName_any (s : ByteArray) (hs : s.size ≤ maxLen) (w : World) :
    Calls Tryd.prog 40 #[.string s] w fun e w' => e = .returned (.bool (nameB (tx s))) ∧ w' = w := by
  have gs := get_bt s
  unfold maxLen at hs
  go_enter Tryd.func40, Tryd.ntmps40
  go_wp2_with fail
  go_loopw [3] (fun i wr => ∃ k : Nat, i = .int .i64 (k : Int) ∧ k ≤ s.size ∧ Hid (((tx s).take k).all byteName = true) ∧ wr = w) (fun i _ => s.size - (RowKit.intOf i).toNat)
  case atStart => exact ⟨0, rfl, Nat.zero_le _, rfl, rfl⟩
  case round =>
    obtain ⟨k, rfl, hk, HE, rfl⟩ := hrel
    by_cases h1 : k < s.size
    · have d1 : decide ((k : Int) < (s.size : Int)) = true := decide_eq_true (by omega)
      have hi1 : (0 : Int) ≤ (k : Int) := by omega
      have hi2 : (k : Int) < (s.size : Int) := by omega
      have h1' : k < (tx s).length := by rw [tx_len]; exact h1
      have HB := Lib.hid (bt_tx h1)
      have HT : Hid (((tx s).take (k + 1)).all byteName = byteName (((tx s)[k]?).getD 0)) := by show _ = _; rw [all_take_succ h1', HE.out, Bool.true_and]
      have HBAD : Hid (byteName (((tx s)[k]?).getD 0) = false → nameB (tx s) = false) := fun h => by
        rw [name_bytes, all_not (HT.out.trans h), Bool.and_false]
      generalize ((tx s)[k]?).getD 0 = c at *
      by_cases c1 : bt s k < 97
      · have b1 : decide (bt s k < 97) = true := decide_eq_true c1
        have HR := Lib.hid (HBAD.out (by have := HB.out; simp [byteName]; omega))
        clear HB HBAD HT
        go_wp2_with fail
        go_ret
        exact ⟨ret_bool HR.out.symm, rfl⟩
      · have b1 : decide (bt s k < 97) = false := decide_eq_false c1
        by_cases c2 : 122 < bt s k
        · have b2 : decide (122 < bt s k) = true := decide_eq_true c2
          have HR := Lib.hid (HBAD.out (by have := HB.out; simp [byteName]; omega))
          clear HB HBAD HT
          go_wp2_with fail
          go_ret
          exact ⟨ret_bool HR.out.symm, rfl⟩
        · have b2 : decide (122 < bt s k) = false := decide_eq_false c2
          have HR := Lib.hid (HT.out.trans (by have := HB.out; simp [byteName]; omega : byteName c = true))
          clear HB HBAD HT
          go_wp2_with fail
          go_roundw
          case rel => exact ⟨k + 1, by go_num, by omega, HR.out, by first | rfl | trivial⟩
          case measure => simp [RowKit.intOf]; omega
    · have hkk : k = s.size := by omega
      subst hkk
      have d1 : decide ((s.size : Int) < (s.size : Int)) = false := by simp
      have HR : Hid (nameB (tx s) = (decide (1 ≤ s.size) && decide (s.size ≤ 12))) := by
        show _ = _
        have := HE.out
        rw [← tx_len, List.take_length] at this
        rw [name_bytes, this, Bool.and_true, tx_len]
        congr 1
        cases e : tx s with
        | nil => have := congrArg List.length e; rw [tx_len] at this; simp at this; simp [this]
        | cons a r => have := congrArg List.length e; rw [tx_len] at this; simp at this; simp; omega
      clear HE
      by_cases c1 : 1 ≤ s.size
      · have b1 : decide (1 ≤ s.size) = true := decide_eq_true c1
        by_cases c2 : s.size ≤ 12
        · have b2 : decide (s.size ≤ 12) = true := decide_eq_true c2
          rw [b1, b2] at HR
          clear b2
          go_wp2_with fail
          go_ret
          exact ⟨ret_bool (by rw [HR.out]; simp; omega), rfl⟩
        · have b2 : decide (s.size ≤ 12) = false := decide_eq_false c2
          rw [b1, b2] at HR
          clear b2
          go_wp2_with fail
          go_ret
          exact ⟨ret_bool (by rw [HR.out]; simp; omega), rfl⟩
      · have b1 : decide (1 ≤ s.size) = false := decide_eq_false c1
        rw [b1] at HR
        go_wp2_with fail
        go_ret
        exact ⟨ret_bool HR.out.symm, rfl⟩
end Go.Proofs.YtlcpigkgbihebaaDoor

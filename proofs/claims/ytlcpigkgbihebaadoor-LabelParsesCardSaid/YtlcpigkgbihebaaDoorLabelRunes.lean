/-
  The walk of the law aviarylaw04.LabelRunes.
-/
import Derived.Test.YtlcpigkgbihebaaDoorLabShown
import Derived.Test.YtlcpigkgbihebaaDoorRunes2
namespace Go.Proofs.YtlcpigkgbihebaaDoor
open Go.RowKit
set_option linter.unusedVariables false
set_option linter.unusedSimpArgs false
theorem tx_append (a b : ByteArray) : tx (a ++ b) = tx a ++ tx b := by
  show (a ++ b).data.toList = a.data.toList ++ b.data.toList
  rw [ByteArray.data_append, Array.toList_append]
def cutS (s : ByteArray) : ByteArray := s.extract 0 (min s.size 600)
theorem cutS_le (s : ByteArray) : (cutS s).size ≤ 600 := by
  rw [cutS, ByteArray.size_extract]; omega
theorem cut_any (s : ByteArray) (w : World) (hs : s.size ≤ maxLen) : Calls Tryd.prog 12 #[.string s] w fun e w' => e = .returned (.string (cutS s)) ∧ w = w' := by
  obtain ⟨n, hn⟩ : ∃ n : Nat, min s.size 600 = n := ⟨_, rfl⟩
  have hm : min (s.size : Int) 600 = (n : Int) := by omega
  have h0 : (n : Int) ≤ (s.size : Int) := by omega
  have HE : Hid (cutS s = s.extract 0 n) := by show _ = _; rw [cutS, hn]
  clear hn
  go_enter Tryd.func12, Tryd.ntmps12
  go_wp2_with fail
  go_ret
  exact ⟨by rw [HE.out]; simp, rfl⟩
set_option maxRecDepth 100000 in
set_option maxHeartbeats 2000000 in
theorem labelRunes_walk (s t : ByteArray) (w : World) (hs : s.size ≤ maxLen) (ht : t.size ≤ maxLen) (hT : Tb w) :
    Calls Tryd.prog 6 #[.string s, .string t] w fun e w' => e = .returned (.bool true) ∧ Below w.heap.size w w' := by
  have HT := Lib.hid hT
  have QC1 : Hid (∀ w, Calls Tryd.prog 12 #[.string s] w fun e w' => e = .returned (.string (cutS s)) ∧ w = w') := fun w => cut_any s w hs
  have QC2 : Hid (∀ w, Calls Tryd.prog 12 #[.string t] w fun e w' => e = .returned (.string (cutS t)) ∧ w = w') := fun w => cut_any t w ht
  have k1 := cutS_le s
  have k2 := cutS_le t
  clear hT hs ht
  generalize cutS s = a at *
  generalize cutS t = b at *
  have hadd := stringOp_add (a := a) (b := b) (by omega)
  have k3 : (a ++ b).size ≤ 1200 := by rw [ByteArray.size_append]; omega
  have QA : Hid (∀ w1, Tb w1 → Calls Tryd.prog 14 #[.string a] w1 fun e w' => e = .returned (.tuple #[.int .i64 (runesF (tx a)).1, .bool (runesF (tx a)).2]) ∧ Below w1.heap.size w1 w') := fun w1 h => runes_any a w1 (by omega) h
  have QB : Hid (∀ w1, Tb w1 → Calls Tryd.prog 14 #[.string b] w1 fun e w' => e = .returned (.tuple #[.int .i64 (runesF (tx b)).1, .bool (runesF (tx b)).2]) ∧ Below w1.heap.size w1 w') := fun w1 h => runes_any b w1 (by omega) h
  have QD : Hid (∀ w1, Tb w1 → Calls Tryd.prog 14 #[.string (a ++ b)] w1 fun e w' => e = .returned (.tuple #[.int .i64 (runesF (tx a ++ tx b)).1, .bool (runesF (tx a ++ tx b)).2]) ∧ Below w1.heap.size w1 w') := fun w1 h => by
    have := runes_any (a ++ b) w1 (by omega) h
    have e : tx (a ++ b) = tx a ++ tx b := tx_append a b
    rwa [e] at this
  obtain ⟨r1, r2, r3⟩ := runes_append (tx a) (tx b)
  have n1 : (runesF (tx a)).1 ≤ 600 ∧ 0 ≤ (runesF (tx a)).1 := by
    have := cp_length (tx a); rw [tx_len] at this
    unfold runesF; split <;> simp <;> omega
  have n2 : (runesF (tx b)).1 ≤ 600 ∧ 0 ≤ (runesF (tx b)).1 := by
    have := cp_length (tx b); rw [tx_len] at this
    unfold runesF; split <;> simp <;> omega
  have FIN : Hid (∃ (x y z : Int) (p q r : Bool), runesF (tx a) = (x, p) ∧ runesF (tx b) = (y, q) ∧ runesF (tx a ++ tx b) = (z, r) ∧ 0 ≤ x ∧ x ≤ 600 ∧ 0 ≤ y ∧ y ≤ 600 ∧
      ((p = true ∧ q = true ∧ r = true ∧ z = x + y) ∨ (p = true ∧ q = false ∧ r = false ∧ z = 0) ∨ (p = false ∧ q = true ∧ r = false) ∨ (p = false ∧ q = false ∧ True))) := by
    refine ⟨(runesF (tx a)).1, (runesF (tx b)).1, (runesF (tx a ++ tx b)).1, (runesF (tx a)).2, (runesF (tx b)).2, (runesF (tx a ++ tx b)).2, rfl, rfl, rfl, n1.2, n1.1, n2.2, n2.1, ?_⟩
    cases ha : validL (tx a) with
    | true =>
      have e1 : (runesF (tx a)).2 = true := by rw [runesF, if_pos ha]
      cases hb : validL (tx b) with
      | true =>
        have e2 : (runesF (tx b)).2 = true := by rw [runesF, if_pos hb]
        rw [r1 ha hb]
        exact .inl ⟨e1, e2, rfl, rfl⟩
      | false =>
        have e2 : (runesF (tx b)).2 = false := by rw [runesF, if_neg (by rw [hb]; simp)]
        rw [r2 ha hb]
        exact .inr (.inl ⟨e1, e2, rfl, rfl⟩)
    | false =>
      have e1 : (runesF (tx a)).2 = false := by rw [runesF, if_neg (by rw [ha]; simp)]
      cases hb : validL (tx b) with
      | true =>
        have e2 : (runesF (tx b)).2 = true := by rw [runesF, if_pos hb]
        have e3 : (runesF (tx a ++ tx b)).2 = false := by rw [runesF, if_neg (by rw [r3 ha hb]; simp)]
        exact .inr (.inr (.inl ⟨e1, e2, e3⟩))
      | false =>
        have e2 : (runesF (tx b)).2 = false := by rw [runesF, if_neg (by rw [hb]; simp)]
        exact .inr (.inr (.inr ⟨e1, e2, trivial⟩))
  clear r1 r2 r3 n1 n2
  obtain ⟨x, y, z, p, q, r, ex, ey, ez, x0, x1, y0, y1, hc⟩ := FIN.out
  rw [ex] at QA
  rw [ey] at QB
  rw [ez] at QD
  clear FIN ex ey ez
  rcases hc with ⟨rfl, rfl, rfl, rfl⟩ | ⟨rfl, rfl, rfl, rfl⟩ | ⟨rfl, rfl, rfl⟩ | ⟨rfl, rfl, _⟩
  rotate_right
  · cases r
    all_goals
      go_enter Tryd.func6, Tryd.ntmps6
      go_wp2_with fail
      refine (shown_any _ HT.out).mono ?_
      rintro e w1 ⟨rfl, hb1⟩
      have HB1 := Lib.hid hb1
      clear hb1
      go_wp2_with fail
      refine (QC1.out _).mono ?_
      rintro e w2 ⟨rfl, rfl⟩
      go_wp2_with fail
      refine (QA.out _ (HT.out.later HB1.out)).mono ?_
      rintro e w2 ⟨rfl, hb2⟩
      replace HB1 := Lib.hid (Below.two HB1.out hb2)
      clear hb2
      go_wp2_with fail
      refine (QC2.out _).mono ?_
      rintro e w3 ⟨rfl, rfl⟩
      go_wp2_with fail
      refine (QB.out _ (HT.out.later HB1.out)).mono ?_
      rintro e w3 ⟨rfl, hb2⟩
      replace HB1 := Lib.hid (Below.two HB1.out hb2)
      clear hb2
      go_wp2_with fail
      refine (QC1.out _).mono ?_
      rintro e w4 ⟨rfl, rfl⟩
      go_wp2_with fail
      refine (QC2.out _).mono ?_
      rintro e w4 ⟨rfl, rfl⟩
      go_wp2_with fail
      refine (QD.out _ (HT.out.later HB1.out)).mono ?_
      rintro e w4 ⟨rfl, hb2⟩
      replace HB1 := Lib.hid (Below.two HB1.out hb2)
      clear hb2
      go_wp2_with fail
      go_ret
      exact ⟨rfl, HB1.out⟩
  all_goals
    go_enter Tryd.func6, Tryd.ntmps6
    go_wp2_with fail
    refine (shown_any _ HT.out).mono ?_
    rintro e w1 ⟨rfl, hb1⟩
    have HB1 := Lib.hid hb1
    clear hb1
    go_wp2_with fail
    refine (QC1.out _).mono ?_
    rintro e w2 ⟨rfl, rfl⟩
    go_wp2_with fail
    refine (QA.out _ (HT.out.later HB1.out)).mono ?_
    rintro e w2 ⟨rfl, hb2⟩
    replace HB1 := Lib.hid (Below.two HB1.out hb2)
    clear hb2
    go_wp2_with fail
    refine (QC2.out _).mono ?_
    rintro e w3 ⟨rfl, rfl⟩
    go_wp2_with fail
    refine (QB.out _ (HT.out.later HB1.out)).mono ?_
    rintro e w3 ⟨rfl, hb2⟩
    replace HB1 := Lib.hid (Below.two HB1.out hb2)
    clear hb2
    go_wp2_with fail
    refine (QC1.out _).mono ?_
    rintro e w4 ⟨rfl, rfl⟩
    go_wp2_with fail
    refine (QC2.out _).mono ?_
    rintro e w4 ⟨rfl, rfl⟩
    go_wp2_with fail
    refine (QD.out _ (HT.out.later HB1.out)).mono ?_
    rintro e w4 ⟨rfl, hb2⟩
    replace HB1 := Lib.hid (Below.two HB1.out hb2)
    clear hb2
    go_wp2_with fail
    go_ret
    exact ⟨rfl, HB1.out⟩
end Go.Proofs.YtlcpigkgbihebaaDoor

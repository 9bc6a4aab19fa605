/-
  The document's isValue.
-/
import Derived.Test.YtlcpigkgbihebaaDoorLabRef4
namespace Go.Proofs.YtlcpigkgbihebaaDoor
open Go.RowKit Go.PlainAid
set_option linter.unusedVariables false
set_option linter.unusedSimpArgs false
theorem high_bytes {l : List UInt8} (hne : l ≠ []) (hok : okR (decL l) = true) (hb : ¬ (l.getD 0 0).toNat < 128) : (l.take (decL l).2).all byteValue = true := by
  have hl : 0 < l.length := List.length_pos_iff.2 hne
  have hk := ok_not hok
  unfold decL at hk ⊢
  have hv : ∀ b : UInt8, 128 ≤ b.toNat → byteValue b = true := fun b h => by simp [byteValue]; omega
  rcases Lib.decodeN_shape l.length (l.getD 0 0).toNat (l.getD 1 0).toNat (l.getD 2 0).toNat (l.getD 3 0).toNat with ⟨c, e⟩ | ⟨c1, c2, c3, cv, e⟩ | ⟨c1, c2, c3, c4, cv, cs, e⟩ | ⟨c1, c2, c3, c4, c5, cv, cw, e⟩ | e
  · exact absurd c hb
  · rw [e]; dsimp only; rw [Lib.takeB l c2]
    simp only [List.all_cons, List.all_nil, Bool.and_true, hv _ (show 128 ≤ (l.getD 0 0).toNat by omega), hv _ (show 128 ≤ (l.getD 1 0).toNat by omega)]
  · rw [e]; dsimp only; rw [Lib.takeC l c2]
    simp only [List.all_cons, List.all_nil, Bool.and_true, hv _ (show 128 ≤ (l.getD 0 0).toNat by omega), hv _ (show 128 ≤ (l.getD 1 0).toNat by omega), hv _ (show 128 ≤ (l.getD 2 0).toNat by omega)]
  · rw [e]; dsimp only; rw [Lib.takeD l c2]
    simp only [List.all_cons, List.all_nil, Bool.and_true, hv _ (show 128 ≤ (l.getD 0 0).toNat by omega), hv _ (show 128 ≤ (l.getD 1 0).toNat by omega), hv _ (show 128 ≤ (l.getD 2 0).toNat by omega), hv _ (show 128 ≤ (l.getD 3 0).toNat by omega)]
  · rw [e] at hk; exact absurd ⟨rfl, rfl⟩ hk
theorem cp_value : ∀ (n : Nat) (l : List UInt8), l.length ≤ n → validL l = true → (cp l).all valueRune = l.all byteValue
  | 0, l, h, _ => by rw [List.eq_nil_of_length_eq_zero (show l.length = 0 by omega)]; rfl
  | n + 1, [], _, _ => rfl
  | n + 1, b :: l, h, hv => by
    have hne : b :: l ≠ [] := by simp
    rw [valid_cons hne, Bool.and_eq_true] at hv
    obtain ⟨_, hd1, _, hd3⟩ := decL_bd (b :: l)
    rw [cp_cons hne, List.all_cons, cp_value n _ (by rw [List.length_drop]; simp only [List.length_cons] at h ⊢; omega) hv.2]
    have ht : (b :: l).all byteValue = (((b :: l).take (decL (b :: l)).2).all byteValue && ((b :: l).drop (decL (b :: l)).2).all byteValue) := by
      rw [← List.all_append, List.take_append_drop]
    rw [ht]
    congr 1
    by_cases hb : b.toNat < 128
    · have e : decL (b :: l) = (b.toNat, 1) := dec_low hb
      rw [e]
      simp [valueRune, byteValue]
    · have e := dec_high (l := b :: l) hb
      rw [high_bytes hne hv.1 hb]
      simp [valueRune]; omega
theorem value_bytes {l : List UInt8} : valueB l = (l.all byteValue && ((runesF l).2 && decide ((runesF l).1 ≤ 24))) := by
  unfold valueB runesF
  cases hv : validL l with
  | false => simp
  | true =>
    rw [cp_value l.length l (Nat.le_refl _) hv]
    simp only [if_true, Bool.true_and]
    rw [Bool.and_comm]
    congr 1
    rw [decide_eq_decide]; omega
set_option maxRecDepth 100000 in
set_option maxHeartbeats 2000000 in
theorem risValue_any (s : ByteArray) (hs : s.size ≤ 100000) (w : World) :
    Calls Tryd.prog 41 #[.string s] w fun e w' => e = .returned (.bool (valueB (tx s))) ∧ Below w.heap.size w w' := by
  have gs := get_bt s
  have QR := Lib.hid (rrunes_any s hs w)
  go_enter Tryd.func41, Tryd.ntmps41
  go_wp2_with fail
  go_loopw [3] (fun i wr => ∃ k : Nat, i = .int .i64 (k : Int) ∧ k ≤ s.size ∧ Hid (((tx s).take k).all byteValue = true) ∧ wr = w) (fun i _ => s.size - (RowKit.intOf i).toNat)
  case atStart => exact ⟨0, rfl, Nat.zero_le _, rfl, rfl⟩
  case round =>
    obtain ⟨k, rfl, hk, HE, rfl⟩ := hrel
    by_cases h1 : k < s.size
    · have d1 : decide ((k : Int) < (s.size : Int)) = true := decide_eq_true (by omega)
      have hi1 : (0 : Int) ≤ (k : Int) := by omega
      have hi2 : (k : Int) < (s.size : Int) := by omega
      have h1' : k < (tx s).length := by rw [tx_len]; exact h1
      have HB := Lib.hid (bt_tx h1)
      have HT : Hid (((tx s).take (k + 1)).all byteValue = byteValue (((tx s)[k]?).getD 0)) := by show _ = _; rw [all_take_succ h1', HE.out, Bool.true_and]
      have HBAD : Hid (byteValue (((tx s)[k]?).getD 0) = false → valueB (tx s) = false) := fun h => by
        rw [value_bytes, all_not (HT.out.trans h), Bool.false_and]
      generalize ((tx s)[k]?).getD 0 = c at *
      by_cases c1 : bt s k < 32
      · have b1 : decide (bt s k < 32) = true := decide_eq_true c1
        have HR := Lib.hid (HBAD.out (by have := HB.out; simp [byteValue]; omega))
        clear HB HBAD HT
        go_wp2_with fail
        go_ret
        exact ⟨ret_bool HR.out.symm, below_0 _⟩
      · have b1 : decide (bt s k < 32) = false := decide_eq_false c1
        by_cases c2 : bt s k = 127
        · have b2 : (bt s k == 127) = true := by rw [beq_iff_eq]; exact c2
          have HR := Lib.hid (HBAD.out (by have := HB.out; simp [byteValue]; omega))
          clear HB HBAD HT
          go_wp2_with fail
          go_ret
          exact ⟨ret_bool HR.out.symm, below_0 _⟩
        · have b2 : (bt s k == 127) = false := by rw [beq_eq_false_iff_ne]; exact c2
          have HR := Lib.hid (HT.out.trans (by have := HB.out; simp [byteValue]; omega : byteValue c = true))
          clear HB HBAD HT
          go_wp2_with fail
          go_roundw
          case rel => exact ⟨k + 1, by go_num, by omega, HR.out, by first | rfl | trivial⟩
          case measure => simp [RowKit.intOf]; omega
    · have hkk : k = s.size := by omega
      subst hkk
      have d1 : decide ((s.size : Int) < (s.size : Int)) = false := by simp
      have HR : Hid (valueB (tx s) = ((runesF (tx s)).2 && decide ((runesF (tx s)).1 ≤ 24))) := by
        show _ = _
        have := HE.out
        rw [← tx_len, List.take_length] at this
        rw [value_bytes, this, Bool.true_and]
      clear HE
      generalize runesF (tx s) = g at *
      obtain ⟨g1, g2⟩ := g
      simp only at QR HR
      cases g2 with
      | true =>
        go_wp2_with fail
        refine QR.out.mono ?_
        rintro e w1 ⟨rfl, hb1⟩
        go_wp2_with fail
        go_ret
        exact ⟨ret_bool (by rw [HR.out]; rfl), hb1⟩
      | false =>
        go_wp2_with fail
        refine QR.out.mono ?_
        rintro e w1 ⟨rfl, hb1⟩
        go_wp2_with fail
        go_ret
        exact ⟨ret_bool (by rw [HR.out]; rfl), hb1⟩
end Go.Proofs.YtlcpigkgbihebaaDoor

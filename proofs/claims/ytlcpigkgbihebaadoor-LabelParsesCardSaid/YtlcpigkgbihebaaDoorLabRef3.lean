/-
  The document's Size: how many bytes the rune has that a text begins with.
-/
import Derived.Test.YtlcpigkgbihebaaDoorLabRef2
import Derived.Test.YtlcpigkgbihebaaDoorLabelRunes
namespace Go.Proofs.YtlcpigkgbihebaaDoor
open Go.RowKit Go.PlainAid
set_option linter.unusedVariables false
set_option linter.unusedSimpArgs false
/-- How many bytes has the first rune; 0: there is none, or it is wrong. -/
def sizeF (l : List UInt8) : Nat := if l = [] then 0 else if okR (decL l) = true then (decL l).2 else 0
theorem dec_x_ok {l : List UInt8} (hne : l ≠ []) (h : okR (decL l) = true) : decL (l ++ [120]) = decL l := dec_ok_append [120] hne h
theorem dec_x_bad {l : List UInt8} (hne : l ≠ []) (h : okR (decL l) = false) : decL (l ++ [120]) = (65533, 1) :=
  (okR_iff _).1 (dec_bad_append hne (fun _ => by decide +kernel) h)
theorem dec_fffd {l : List UInt8} (hne : l ≠ []) (h : okR (decL l) = true) (he : (decL l).1 = 65533) : (decL l).2 = 3 ∧ l.take 3 = [239, 191, 189] := by
  have e := enc_dec hne h
  unfold encL at e
  rw [he] at e
  have e2 : Lib.encodeRune ((65533 : Nat) : Int) = [239, 191, 189] := by decide +kernel
  rw [e2] at e
  have hle := (decL_bd l).2.2.2 hne
  have := congrArg List.length e
  rw [List.length_take] at this
  simp at this
  have h3 : (decL l).2 = 3 := by omega
  rw [h3] at e
  exact ⟨h3, e.symm⟩
theorem fffd_ok {l : List UInt8} (h : l.take 3 = [239, 191, 189]) : okR (decL l) = true := by
  have : l = [239, 191, 189] ++ l.drop 3 := by rw [← h, List.take_append_drop]
  rw [this, dec_ok_append _ (by simp) (by decide +kernel)]
  decide +kernel
theorem dec_one {l : List UInt8} (hne : l ≠ []) (h : okR (decL l) = true) (h1 : (decL l).2 = 1) : (l.getD 0 0).toNat < 128 := by
  have hk := ok_not h
  unfold decL at hk h1
  rcases Lib.decodeN_shape l.length (l.getD 0 0).toNat (l.getD 1 0).toNat (l.getD 2 0).toNat (l.getD 3 0).toNat with ⟨c, e⟩ | ⟨c1, c2, c3, cv, e⟩ | ⟨c1, c2, c3, c4, cv, cs, e⟩ | ⟨c1, c2, c3, c4, c5, cv, cw, e⟩ | e
  · exact c
  all_goals (rw [e] at hk h1; simp at hk h1)
theorem tx_ne {s : ByteArray} (h : 0 < s.size) : tx s ≠ [] := by
  intro e; have := congrArg List.length e; rw [tx_len, List.length_nil] at this; omega
theorem tx_ext3 (s : ByteArray) : (s.extract 0 3).toList = (tx s).take 3 := by
  rw [tx_toList]
  show (s.extract 0 3).data.toList = _
  rw [Lib.extract_data]; simp [tx]
set_option maxRecDepth 100000 in
set_option maxHeartbeats 4000000 in
theorem rsize_any (s : ByteArray) (hs : s.size ≤ 100000) (w : World) :
    Calls Tryd.prog 50 #[.string s] w fun e w' => e = .returned (.int .i64 (sizeF (tx s))) ∧ Below w.heap.size w w' := by
  have gs := get_bt s
  have hx1 : (⟨#[120]⟩ : ByteArray).size = 1 := rfl
  have ha : Op.stringOp .add s ⟨#[120]⟩ = pure (.string (s ++ ⟨#[120]⟩)) := stringOp_add (by omega)
  have hu : (s ++ ⟨#[120]⟩ : ByteArray).size = s.size + 1 := by rw [ByteArray.size_append]; rfl
  have htx : tx (s ++ ⟨#[120]⟩ : ByteArray) = tx s ++ [120] := tx_append s ⟨#[120]⟩
  generalize (s ++ ⟨#[120]⟩ : ByteArray) = u at *
  have HTX := Lib.hid htx
  clear htx
  go_enter Tryd.func50, Tryd.ntmps50
  go_wp2_with fail
  go_loopw [3, 4] (fun i r wr => ∃ pos : Nat, Hid (It w w.heap.size u pos wr) ∧ (pos = 0 ∨ (0 < s.size ∧ okR (decL (tx s)) = true ∧ pos = (decL (tx s)).2) ∨ (s.size = 0 ∧ pos = 1))) (fun _ _ wr => u.size - wr.iterPos w.heap.size)
  case atStart => exact ⟨0, It.mk0 w u, .inl rfl⟩
  case round =>
    obtain ⟨pos, HI, hpos⟩ := hrel
    have HP := Lib.hid HI.out.pos
    rcases hpos with rfl | ⟨h0, hok, rfl⟩ | ⟨h0, rfl⟩
    · have hp : 0 < u.size := by omega
      have hnx : ∀ ty, (Instr.next (.pointer (some ⟨w.heap.size, 0, none⟩)) true ty).run Tryd.prog wr = _ := fun ty => Lib.run_next_any_at wr w.heap.size u 0 ty HI.out.1 hp
      rw [dec_at, HTX.out, List.drop_zero] at hnx
      have HI2 := Lib.hid (HI.out.move (Nat.le_refl _) (0 + (decL (tx s ++ [120])).2))
      by_cases h0 : 0 < s.size
      · have hne := tx_ne h0
        cases hok : okR (decL (tx s)) with
        | true =>
          have hd := dec_x_ok hne hok
          have hbd := decL_bd (tx s)
          have hF : Hid ((decL (tx s)).1 = 65533 → 3 ≤ s.size ∧ ((s.extract 0 3).toList == [239, 191, 189]) = true) := fun e => by
            obtain ⟨e1, e2⟩ := dec_fffd hne hok e
            have := hbd.2.2.2 hne
            rw [tx_len] at this
            exact ⟨by omega, by rw [tx_ext3, e2]; rfl⟩
          rw [hd] at hnx HI2
          have HR : Hid (0 < s.size ∧ okR (decL (tx s)) = true) := ⟨h0, hok⟩
          obtain ⟨d, hdd⟩ : ∃ d, decL (tx s) = d := ⟨_, rfl⟩
          have HD := Lib.hid hdd
          rw [hdd] at hnx HI2 hbd hF
          clear hok hd hne hdd
          generalize hwi : wr.iterAt w.heap.size u (0 + d.2) = wi at *
          clear hwi
          by_cases c1 : d.1 = 65533
          · obtain ⟨h3, h4⟩ := hF.out c1
            have e1 : ((d.1 : Int) == 65533) = true := by simp; omega
            have e2 : decide ((s.size : Int) < 3) = false := by simp; omega
            have e2' : decide (s.size < 3) = false := by simp; omega
            have h5 : (3 : Int) ≤ (s.size : Int) := by omega
            clear hF c1
            go_wp2_with fail
            go_roundw
            case rel => exact ⟨0 + d.2, HI2.out, .inr (.inl ⟨HR.out.1, by first | exact HR.out.2 | trivial, by rw [HD.out]; omega⟩)⟩
            case measure => rw [HI2.out.pos, HP.out]; omega
          · have e1 : ((d.1 : Int) == 65533) = false := by simp; omega
            clear hF c1
            go_wp2_with fail
            go_roundw
            case rel => exact ⟨0 + d.2, HI2.out, .inr (.inl ⟨HR.out.1, by first | exact HR.out.2 | trivial, by rw [HD.out]; omega⟩)⟩
            case measure => rw [HI2.out.pos, HP.out]; omega
        | false =>
          have hd := dec_x_bad hne hok
          have HR : Hid (sizeF (tx s) = 0) := by show _ = _; rw [sizeF, if_neg hne, hok, if_neg (by simp)]
          rw [hd] at hnx HI2
          have HF : Hid (((s.extract 0 3).toList == [239, 191, 189]) = false) := by
            show _ = _
            rw [beq_eq_false_iff_ne, tx_ext3]
            intro e; rw [fffd_ok e] at hok; cases hok
          have hF := HF.out
          clear hd hok hne
          by_cases c1 : s.size < 3
          · have e2 : decide (s.size < 3) = true := decide_eq_true c1
            go_wp2_with fail
            go_ret
            exact ⟨by rw [HR.out]; rfl, HI2.out.2⟩
          · have e2 : decide (s.size < 3) = false := decide_eq_false c1
            have h5 : (3 : Int) ≤ (s.size : Int) := by omega
            go_wp2_with fail
            go_ret
            exact ⟨by rw [HR.out]; rfl, HI2.out.2⟩
      · have hz : s.size = 0 := by omega
        have ht : tx s = [] := List.eq_nil_of_length_eq_zero (by rw [tx_len]; exact hz)
        rw [ht] at hnx HI2
        have hd : decL ([] ++ [120]) = (120, 1) := by decide +kernel
        rw [hd] at hnx HI2
        replace HI2 : Hid (It w w.heap.size u 1 (wr.iterAt w.heap.size u 1)) := HI2
        clear hd ht
        go_wp2_with fail
        go_roundw
        case rel => exact ⟨1, HI2.out, .inr (.inr ⟨hz, rfl⟩)⟩
        case measure => rw [HI2.out.pos, HP.out]; omega
    · have hne := tx_ne h0
      obtain ⟨_, hb1, hb4, hble⟩ := decL_bd (tx s)
      have hble := hble hne
      rw [tx_len] at hble
      have hp : (decL (tx s)).2 < u.size := by omega
      have hnx : ∀ ty, (Instr.next (.pointer (some ⟨w.heap.size, 0, none⟩)) true ty).run Tryd.prog wr = _ := fun ty => Lib.run_next_any_at wr w.heap.size u (decL (tx s)).2 ty HI.out.1 hp
      rw [dec_at] at hnx
      have HI2 := Lib.hid (HI.out.move (Nat.le_refl _) ((decL (tx s)).2 + (decL ((tx u).drop (decL (tx s)).2)).2))
      have HR : Hid (sizeF (tx s) = (decL (tx s)).2) := by show _ = _; rw [sizeF, if_neg hne, if_pos hok]
      have HB : Hid ((decL (tx s)).2 = 1 → bt s 0 < 128) := fun h => by
        have := dec_one hne hok h
        rw [List.getD_eq_getElem?_getD] at this
        rw [bt_tx h0]; omega
      generalize decL ((tx u).drop (decL (tx s)).2) = d' at *
      clear hok hne
      generalize (decL (tx s)).2 = n at *
      generalize wr.iterAt w.heap.size u (n + d'.2) = wi at *
      have c1 : decide ((0 : Int) < (n : Int)) = true := decide_eq_true (by omega)
      have c1' : decide (0 < n) = true := decide_eq_true (by omega)
      have c4 : decide ((s.size : Int) < (n : Int)) = false := by simp; omega
      have c4' : decide (s.size < n) = false := by simp; omega
      have hi0 : (0 : Int) < (s.size : Int) := by omega
      by_cases e : n = 1
      · have hbt := HB.out e
        have c2 : ((n : Int) == 1) = true := by rw [beq_iff_eq]; omega
        have c3 : decide (128 ≤ bt s 0) = false := by simp; omega
        clear HB
        go_wp2_with fail
        go_ret
        exact ⟨ret_int (by have := HR.out; omega), HI2.out.2⟩
      · have c2 : ((n : Int) == 1) = false := by rw [beq_eq_false_iff_ne]; omega
        clear HB
        go_wp2_with fail
        go_ret
        exact ⟨ret_int (by have := HR.out; omega), HI2.out.2⟩
    · have hp : ¬ 1 < u.size := by omega
      have hnx : ∀ ty, (Instr.next (.pointer (some ⟨w.heap.size, 0, none⟩)) true ty).run Tryd.prog wr = _ := fun ty => Lib.run_next_end_at wr w.heap.size u 1 ty HI.out.1 hp
      have HR : Hid (sizeF (tx s) = 0) := by
        show _ = _
        rw [sizeF, if_pos (List.eq_nil_of_length_eq_zero (by rw [tx_len]; exact h0))]
      go_wp2_with fail
      go_ret
      exact ⟨ret_int (by rw [HR.out]; rfl), HI.out.2⟩
end Go.Proofs.YtlcpigkgbihebaaDoor

/-
  Texts, rune by rune: label.Runes, isName, isValue.
-/
import Derived.Test.YtlcpigkgbihebaaDoorShelf
import Derived.Test.YtlcpigkgbihebaaDoorRunes
import Derived.Test.YtlcpigkgbihebaaDoorRows
import Derived.Lib.OthersKept
import Derived.WalkLawsBesides
namespace Go.Proofs.YtlcpigkgbihebaaDoor
open Go.RowKit
set_option linter.unusedVariables false
set_option linter.unusedSimpArgs false
/-- The two tables of unicode/utf8 lie as Go lays them. -/
def Tb (w : World) : Prop := Lib.Utf8Tabs 0 1 w
theorem Tb.later {w w' : World} (h : Tb w) (hb : Below w.heap.size w w') : Tb w' := Utf8Tabs_below h hb
theorem decode_any (s : ByteArray) (w : World) (hs : 0 < s.size) (hT : Tb w) :
    Calls Tryd.prog 33 #[.string s] w fun e w' => e = .returned (.tuple #[.int .i32 (decL (tx s)).1, .int .i64 (decL (tx s)).2]) ∧ Below w.heap.size w w' := by
  have h := Tryd.utf8_DecodeRuneInString s w hT
  rw [Lib.decodeGo, if_neg (by omega), dec_at] at h
  exact h
/-- An iterator over a text stands at a place; all that was ahead of the call stands. -/
def It (w : World) (k : Nat) (s : ByteArray) (pos : Nat) (wr : World) : Prop := wr.heap[k]? = some (.stringIter s pos) ∧ Below w.heap.size w wr
theorem It.mk0 (w : World) (s : ByteArray) : It w w.heap.size s 0 (w.iter s 0) := ⟨World.iter_heap w s 0, below_al (below_0 w) _⟩
theorem It.move {w wr : World} {k : Nat} {s : ByteArray} {pos : Nat} (h : It w k s pos wr) (hk : w.heap.size ≤ k) (q : Nat) : It w k s q (wr.iterAt k s q) := ⟨Lib.iterAt_heap wr k s pos q h.1, Lib.below_iterAt h.2 hk s q⟩
theorem It.later {w wr w' : World} {k : Nat} {s : ByteArray} {pos : Nat} (h : It w k s pos wr) (hb : Below wr.heap.size wr w') : It w k s pos w' := ⟨(hb.block k (Array.getElem?_eq_some_iff.1 h.1).1).trans h.1, Below.two h.2 hb⟩
theorem It.pos {w wr : World} {k : Nat} {s : ByteArray} {pos : Nat} (h : It w k s pos wr) : wr.iterPos k = pos := by simp [World.iterPos, h.1]
/-- What a range over a text has gone through. -/
structure Went (s : ByteArray) (pos : Nat) (pre : List (Nat × Nat)) : Prop where
  le : pos ≤ s.size
  is : cp (tx s) = pre ++ cp ((tx s).drop pos)
theorem Went.zero (s : ByteArray) : Went s 0 [] := ⟨Nat.zero_le _, rfl⟩
theorem drop_ne {s : ByteArray} {pos : Nat} (h : pos < s.size) : (tx s).drop pos ≠ [] := by
  intro e
  have := congrArg List.length e
  rw [List.length_drop, tx_len] at this
  simp at this; omega
theorem Went.next {s : ByteArray} {pos : Nat} {pre : List (Nat × Nat)} (h : Went s pos pre) (hp : pos < s.size) : Went s (pos + (decL ((tx s).drop pos)).2) (pre ++ [decL ((tx s).drop pos)]) := by
  have hb := (decL_bd ((tx s).drop pos)).2.2.2 (drop_ne hp)
  rw [List.length_drop, tx_len] at hb
  refine ⟨by omega, ?_⟩
  rw [h.is, cp_cons (drop_ne hp), List.drop_drop, List.append_assoc]
  rfl
theorem Went.done {s : ByteArray} {pos : Nat} {pre : List (Nat × Nat)} (h : Went s pos pre) (hp : ¬ pos < s.size) : cp (tx s) = pre := by
  have : (tx s).drop pos = [] := List.drop_eq_nil_of_le (by rw [tx_len]; have := h.le; omega)
  rw [h.is, this, cp_nil, List.append_nil]
theorem Went.len {s : ByteArray} {pos : Nat} {pre : List (Nat × Nat)} (h : Went s pos pre) : pre.length ≤ s.size := by
  have := cp_length (tx s)
  rw [h.is, List.length_append, tx_len] at this
  omega
theorem runesF_bad {s : ByteArray} {pos : Nat} {pre : List (Nat × Nat)} (h : Went s pos pre) (hp : pos < s.size) (hb : okR (decL ((tx s).drop pos)) = false) : runesF (tx s) = (0, false) := by
  rw [runesF, if_neg]
  unfold validL
  rw [(h.next hp).is]
  simp [hb]
theorem runesF_ok {s : ByteArray} {pos : Nat} {pre : List (Nat × Nat)} (h : Went s pos pre) (hp : ¬ pos < s.size) (hb : pre.all okR = true) : runesF (tx s) = ((pre.length : Int), true) := by
  rw [runesF, validL, h.done hp, if_pos hb]
theorem ret_two {a b : Int} {p q : Bool} (h : (a, p) = (b, q)) : Ending.returned (.tuple #[.int .i64 a, .bool p]) = .returned (.tuple #[.int .i64 b, .bool q]) := by
  rw [Prod.mk.injEq] at h; rw [h.1, h.2]
set_option maxRecDepth 100000 in
set_option maxHeartbeats 2000000 in
theorem runes_any (s : ByteArray) (w : World) (hs : s.size ≤ 4294967296) (hT : Tb w) :
    Calls Tryd.prog 14 #[.string s] w fun e w' => e = .returned (.tuple #[.int .i64 (runesF (tx s)).1, .bool (runesF (tx s)).2]) ∧ Below w.heap.size w w' := by
  have HT := Lib.hid hT
  clear hT
  go_enter Tryd.func14, Tryd.ntmps14
  go_wp2_with fail
  go_loopw [4] (fun n wr => ∃ (pos : Nat) (pre : List (Nat × Nat)), n = .int .i64 pre.length ∧ Hid (Went s pos pre) ∧ Hid (pre.all okR = true) ∧ Hid (It w w.heap.size s pos wr)) (fun _ wr => s.size - wr.iterPos w.heap.size)
  case atStart => exact ⟨0, [], rfl, Went.zero s, rfl, It.mk0 w s⟩
  case round =>
    obtain ⟨pos, pre, rfl, HW, HO, HI⟩ := hrel
    have hlen := HW.out.len
    have hposm := HI.out.pos
    have HP := Lib.hid hposm
    clear hposm
    by_cases hp : pos < s.size
    · have hnx : ∀ ty, (Instr.next (.pointer (some ⟨w.heap.size, 0, none⟩)) true ty).run Tryd.prog wr = _ := fun ty => Lib.run_next_any_at wr w.heap.size s pos ty HI.out.1 hp
      rw [dec_at] at hnx
      have HI2 := Lib.hid (HI.out.move (Nat.le_refl _) (pos + (decL ((tx s).drop pos)).2))
      have HW2 := Lib.hid (HW.out.next hp)
      obtain ⟨d1, d2, d3, _⟩ := decL_bd ((tx s).drop pos)
      have hB : Hid (okR (decL ((tx s).drop pos)) = false → runesF (tx s) = (0, false)) := fun h => runesF_bad HW.out hp h
      have HX : Hid (tx (s.extract pos s.size) = (tx s).drop pos) := by
        show (s.extract pos s.size).data.toList = s.data.toList.drop pos
        rw [Lib.extract_data, List.take_of_length_le]
        rw [List.length_drop]
        exact Nat.le_of_eq (congrArg (· - pos) (tx_len s))
      have hxs : 0 < (s.extract pos s.size).size := by rw [← tx_len, HX.out, List.length_drop, tx_len]; omega
      have QD : Hid (∀ w1, Tb w1 → Calls Tryd.prog 33 #[.string (s.extract pos s.size)] w1 fun e w' => e = .returned (.tuple #[.int .i32 (decL ((tx s).drop pos)).1, .int .i64 (decL ((tx s).drop pos)).2]) ∧ Below w1.heap.size w1 w') := fun w1 h => by
        have := decode_any (s.extract pos s.size) w1 hxs h
        rw [HX.out] at this
        exact this
      generalize decL ((tx s).drop pos) = d at *
      have HT2 := Lib.hid (HT.out.later HI2.out.2)
      have hp2 : (0 : Int) ≤ (pos : Int) := by omega
      have hp3 : (pos : Int) ≤ (s.size : Int) := by omega
      generalize hwi : wr.iterAt w.heap.size s (pos + d.2) = wi at *
      clear hwi
      by_cases c1 : d.1 = 65533
      · have e1 : ((d.1 : Int) == 65533) = true := by simp; omega
        by_cases c2 : d.2 = 1
        · have e2 : ((d.2 : Int) == 1) = true := by simp; omega
          have HR := Lib.hid (hB.out (by simp [okR, c1, c2]))
          clear c1 c2 hB
          go_wp2_with fail
          refine (QD.out _ HT2.out).mono ?_
          rintro e w1 ⟨rfl, hb1⟩
          go_wp2_with fail
          go_ret2
          exact ⟨ret_two (by rw [HR.out]), Below.two HI2.out.2 hb1⟩
        · have e2 : ((d.2 : Int) == 1) = false := by simp; omega
          have HO2 : Hid ((pre ++ [d]).all okR = true) := by show _ = _; rw [List.all_append, HO.out]; simp [okR, c2]
          clear c1 c2 hB
          go_wp2_with fail
          refine (QD.out _ HT2.out).mono ?_
          rintro e w1 ⟨rfl, hb1⟩
          have HI3 := Lib.hid (HI2.out.later hb1)
          clear hb1
          go_wp2_with fail
          go_roundw
          case rel => exact ⟨pos + d.2, pre ++ [d], by rw [List.length_append]; go_num, HW2.out, HO2.out, HI3.out⟩
          case measure => rw [HI3.out.pos, HP.out]; omega
      · have e1 : ((d.1 : Int) == 65533) = false := by simp; omega
        have HO2 : Hid ((pre ++ [d]).all okR = true) := by show _ = _; rw [List.all_append, HO.out]; simp [okR, c1]
        clear c1 hB
        go_wp2_with fail
        go_roundw
        case rel => exact ⟨pos + d.2, pre ++ [d], by rw [List.length_append]; go_num, HW2.out, HO2.out, HI2.out⟩
        case measure => rw [HI2.out.pos, HP.out]; omega
    · have hnx : ∀ ty, (Instr.next (.pointer (some ⟨w.heap.size, 0, none⟩)) true ty).run Tryd.prog wr = _ := fun ty => Lib.run_next_end_at wr w.heap.size s pos ty HI.out.1 hp
      have HR := Lib.hid (runesF_ok HW.out hp HO.out)
      go_wp2_with fail
      go_ret2
      exact ⟨ret_two (by rw [HR.out]), HI.out.2⟩
theorem isNameRune_any (x : Nat × Nat) (w : World) (hx : x.1 ≤ 1114111) :
    Calls Tryd.prog 57 #[.int .i32 x.1] w fun e w' => e = .returned (.bool (nameRune x)) ∧ w = w' := by
  by_cases h1 : (97 : Int) ≤ (x.1 : Int)
  · have d1 : decide ((97 : Int) ≤ (x.1 : Int)) = true := by simp [h1]
    go_enter Tryd.func57, Tryd.ntmps57
    go_wp2_with fail
    go_ret
    exact ⟨ret_bool (by rw [Bool.eq_iff_iff]; simp [nameRune]; omega), rfl⟩
  · have d1 : decide ((97 : Int) ≤ (x.1 : Int)) = false := by simp; omega
    go_enter Tryd.func57, Tryd.ntmps57
    go_wp2_with fail
    go_ret
    exact ⟨ret_bool (by rw [Bool.eq_iff_iff]; simp [nameRune]; omega), rfl⟩
theorem isValueRune_any (x : Nat × Nat) (w : World) (hx : x.1 ≤ 1114111) :
    Calls Tryd.prog 58 #[.int .i32 x.1] w fun e w' => e = .returned (.bool (valueRune x)) ∧ w = w' := by
  by_cases h1 : (32 : Int) ≤ (x.1 : Int)
  · have d1 : decide ((32 : Int) ≤ (x.1 : Int)) = true := by simp [h1]
    go_enter Tryd.func58, Tryd.ntmps58
    go_wp2_with fail
    go_ret
    exact ⟨ret_bool (by rw [Bool.eq_iff_iff]; simp [valueRune]; omega), rfl⟩
  · have d1 : decide ((32 : Int) ≤ (x.1 : Int)) = false := by simp; omega
    go_enter Tryd.func58, Tryd.ntmps58
    go_wp2_with fail
    go_ret
    exact ⟨ret_bool (by rw [Bool.eq_iff_iff]; simp [valueRune]; omega), rfl⟩
/-- All of a text is of good runes just if .. -/
theorem all_bad {s : ByteArray} {pos : Nat} {pre : List (Nat × Nat)} {p : Nat × Nat → Bool} (h : Went s pos pre) (hp : pos < s.size) (hb : p (decL ((tx s).drop pos)) = false) : (cp (tx s)).all p = false := by
  rw [(h.next hp).is]; simp [hb]
theorem isName_short (s : ByteArray) (w : World) (h : (tx s == [] || !decide ((tx s).length ≤ 12)) = true) :
    Calls Tryd.prog 38 #[.string s] w fun e w' => e = .returned (.bool (nameB (tx s))) ∧ Below w.heap.size w w' := by
  by_cases h1 : tx s = []
  · have e1 : (s.toList == []) = true := by rw [tx_toList, h1]; rfl
    have e2 : s.toList = [] := by rw [tx_toList, h1]
    go_enter Tryd.func38, Tryd.ntmps38
    go_wp2_with fail
    go_ret
    exact ⟨ret_bool (by simp [nameB, h1]), below_0 _⟩
  · have e1 : s.toList.isEmpty = false := by rw [tx_toList]; cases e : tx s with
      | nil => exact absurd e h1
      | cons x l => rfl
    have e1' : ¬ s.toList = [] := by rw [tx_toList]; exact h1
    have e1'' : (s.toList == []) = false := by simpa using e1'
    have e2 : 12 < s.size := by rw [← tx_len]; simp [h1] at h; exact h
    have e3 : decide ((12 : Int) < (s.size : Int)) = true := by simp; omega
    have e4 : decide (12 < s.size) = true := by simp; omega
    go_enter Tryd.func38, Tryd.ntmps38
    go_wp2_with fail
    go_ret
    refine ⟨ret_bool ?_, below_0 _⟩
    have : decide ((tx s).length ≤ 12) = false := by rw [tx_len]; simp; omega
    simp [nameB, this]
set_option maxRecDepth 100000 in
set_option maxHeartbeats 2000000 in
theorem isName_any (s : ByteArray) (w : World) :
    Calls Tryd.prog 38 #[.string s] w fun e w' => e = .returned (.bool (nameB (tx s))) ∧ Below w.heap.size w w' := by
  cases hsh : (tx s == [] || !decide ((tx s).length ≤ 12)) with
  | true => exact isName_short s w hsh
  | false =>
    have h1 : tx s ≠ [] := by intro e; rw [e] at hsh; simp at hsh
    have e1 : s.toList.isEmpty = false := by rw [tx_toList]; cases e : tx s with
      | nil => exact absurd e h1
      | cons x l => rfl
    have e1' : ¬ s.toList = [] := by rw [tx_toList]; exact h1
    have e1'' : (s.toList == []) = false := by simpa using e1'
    have e2 : s.size ≤ 12 := by rw [← tx_len]; simp at hsh; exact hsh.2
    have e3 : decide ((12 : Int) < (s.size : Int)) = false := by simp; omega
    have e4 : decide (12 < s.size) = false := by simp; omega
    have HN : Hid (nameB (tx s) = (cp (tx s)).all nameRune) := by
      show _ = _
      have : decide ((tx s).length ≤ 12) = true := by rw [tx_len]; simp; omega
      rw [nameB, this]; simp [h1]
    have HE1 := Lib.hid e1'
    clear hsh h1
    go_enter Tryd.func38, Tryd.ntmps38
    go_wp2_with fail
    go_loopw [] (fun wr => ∃ (pos : Nat) (pre : List (Nat × Nat)), Hid (Went s pos pre) ∧ Hid (pre.all nameRune = true) ∧ Hid (It w w.heap.size s pos wr)) (fun wr => s.size - wr.iterPos w.heap.size)
    case atStart => exact ⟨0, [], Went.zero s, rfl, It.mk0 w s⟩
    case round =>
      obtain ⟨pos, pre, HW, HO, HI⟩ := hrel
      have HP := Lib.hid HI.out.pos
      by_cases hp : pos < s.size
      · have hnx : ∀ ty, (Instr.next (.pointer (some ⟨w.heap.size, 0, none⟩)) true ty).run Tryd.prog wr = _ := fun ty => Lib.run_next_any_at wr w.heap.size s pos ty HI.out.1 hp
        rw [dec_at] at hnx
        have HI2 := Lib.hid (HI.out.move (Nat.le_refl _) (pos + (decL ((tx s).drop pos)).2))
        have HW2 := Lib.hid (HW.out.next hp)
        obtain ⟨d1, d2, d3, _⟩ := decL_bd ((tx s).drop pos)
        have hB : Hid (nameRune (decL ((tx s).drop pos)) = false → (cp (tx s)).all nameRune = false) := fun h => all_bad HW.out hp h
        generalize decL ((tx s).drop pos) = d at *
        generalize hwi : wr.iterAt w.heap.size s (pos + d.2) = wi at *
        clear hwi
        have QN : Hid (∀ w1, Calls Tryd.prog 57 #[.int .i32 d.1] w1 fun e w' => e = .returned (.bool (nameRune d)) ∧ w1 = w') := fun w1 => isNameRune_any d w1 d1
        cases hn : nameRune d with
        | true =>
          rw [hn] at QN
          have HO2 : Hid ((pre ++ [d]).all nameRune = true) := by show _ = _; rw [List.all_append, HO.out]; simp [hn]
          clear hn hB
          go_wp2_with fail
          refine (QN.out _).mono ?_
          rintro e w1 ⟨rfl, rfl⟩
          go_wp2_with fail
          go_roundw
          case rel => exact ⟨pos + d.2, pre ++ [d], HW2.out, HO2.out, HI2.out⟩
          case measure => rw [HI2.out.pos, HP.out]; omega
        | false =>
          rw [hn] at QN
          have HR := Lib.hid (hB.out hn)
          clear hn hB
          go_wp2_with fail
          refine (QN.out _).mono ?_
          rintro e w1 ⟨rfl, rfl⟩
          go_wp2_with fail
          go_ret
          exact ⟨ret_bool (by rw [HN.out, HR.out]), HI2.out.2⟩
      · have hnx : ∀ ty, (Instr.next (.pointer (some ⟨w.heap.size, 0, none⟩)) true ty).run Tryd.prog wr = _ := fun ty => Lib.run_next_end_at wr w.heap.size s pos ty HI.out.1 hp
        have HR : Hid ((cp (tx s)).all nameRune = true) := by show _ = _; rw [HW.out.done hp, HO.out]
        go_wp2_with fail
        go_ret
        exact ⟨ret_bool (by rw [HN.out, HR.out]), HI.out.2⟩
set_option maxRecDepth 100000 in
set_option maxHeartbeats 2000000 in
theorem isValue_any (s : ByteArray) (w : World) (hs : s.size ≤ 4294967296) (hT : Tb w) :
    Calls Tryd.prog 39 #[.string s] w fun e w' => e = .returned (.bool (valueB (tx s))) ∧ Below w.heap.size w w' := by
  have QR : Hid (∀ w1, Tb w1 → Calls Tryd.prog 14 #[.string s] w1 fun e w' => e = .returned (.tuple #[.int .i64 (runesF (tx s)).1, .bool (runesF (tx s)).2]) ∧ Below w1.heap.size w1 w') := fun w1 h => runes_any s w1 hs h
  have HT := Lib.hid hT
  clear hT
  cases hv : validL (tx s) with
  | false =>
    have HN : Hid (valueB (tx s) = false) := by show _ = _; rw [valueB, hv]; rfl
    have hr : runesF (tx s) = (0, false) := by rw [runesF, if_neg (by rw [hv]; simp)]
    rw [hr] at QR
    clear hr hv
    go_enter Tryd.func39, Tryd.ntmps39
    go_wp2_with fail
    refine (QR.out _ HT.out).mono ?_
    rintro e w1 ⟨rfl, hb1⟩
    go_wp2_with fail
    go_ret
    exact ⟨ret_bool (by rw [HN.out]), hb1⟩
  | true =>
    have hr : runesF (tx s) = (((cp (tx s)).length : Int), true) := by rw [runesF, if_pos hv]
    rw [hr] at QR
    have hcl := cp_length (tx s)
    rw [tx_len] at hcl
    by_cases h24 : (cp (tx s)).length ≤ 24
    · have HN : Hid (valueB (tx s) = (cp (tx s)).all valueRune) := by show _ = _; rw [valueB, hv]; simp [h24]
      have d24 : decide ((24 : Int) < ((cp (tx s)).length : Int)) = false := by simp; omega
      have d24' : decide (24 < (cp (tx s)).length) = false := by simp; omega
      generalize (cp (tx s)).length = n at *
      clear hr hv
      go_enter Tryd.func39, Tryd.ntmps39
      go_wp2_with fail
      refine (QR.out _ HT.out).mono ?_
      rintro e w1 ⟨rfl, hb1⟩
      have HB1 := Lib.hid hb1
      clear hb1
      go_wp2_with fail
      go_loopw [] (fun wr => ∃ (pos : Nat) (pre : List (Nat × Nat)), Hid (Went s pos pre) ∧ Hid (pre.all valueRune = true) ∧ Hid (It w1 w1.heap.size s pos wr)) (fun wr => s.size - wr.iterPos w1.heap.size)
      case atStart => exact ⟨0, [], Went.zero s, rfl, It.mk0 w1 s⟩
      case round =>
        obtain ⟨pos, pre, HW, HO, HI⟩ := hrel
        have HP := Lib.hid HI.out.pos
        by_cases hp : pos < s.size
        · have hnx : ∀ ty, (Instr.next (.pointer (some ⟨w1.heap.size, 0, none⟩)) true ty).run Tryd.prog wr = _ := fun ty => Lib.run_next_any_at wr w1.heap.size s pos ty HI.out.1 hp
          rw [dec_at] at hnx
          have HI2 := Lib.hid (HI.out.move (Nat.le_refl _) (pos + (decL ((tx s).drop pos)).2))
          have HW2 := Lib.hid (HW.out.next hp)
          obtain ⟨d1, d2, d3, _⟩ := decL_bd ((tx s).drop pos)
          have hB : Hid (valueRune (decL ((tx s).drop pos)) = false → (cp (tx s)).all valueRune = false) := fun h => all_bad HW.out hp h
          generalize decL ((tx s).drop pos) = d at *
          generalize hwi : wr.iterAt w1.heap.size s (pos + d.2) = wi at *
          clear hwi
          have QN : Hid (∀ w1, Calls Tryd.prog 58 #[.int .i32 d.1] w1 fun e w' => e = .returned (.bool (valueRune d)) ∧ w1 = w') := fun w1 => isValueRune_any d w1 d1
          cases hn : valueRune d with
          | true =>
            rw [hn] at QN
            have HO2 : Hid ((pre ++ [d]).all valueRune = true) := by show _ = _; rw [List.all_append, HO.out]; simp [hn]
            clear hn hB
            go_wp2_with fail
            refine (QN.out _).mono ?_
            rintro e w2 ⟨rfl, rfl⟩
            go_wp2_with fail
            go_roundw
            case rel => exact ⟨pos + d.2, pre ++ [d], HW2.out, HO2.out, HI2.out⟩
            case measure => rw [HI2.out.pos, HP.out]; omega
          | false =>
            rw [hn] at QN
            have HR := Lib.hid (hB.out hn)
            clear hn hB
            go_wp2_with fail
            refine (QN.out _).mono ?_
            rintro e w2 ⟨rfl, rfl⟩
            go_wp2_with fail
            go_ret
            exact ⟨ret_bool (by rw [HN.out, HR.out]), Below.two HB1.out HI2.out.2⟩
        · have hnx : ∀ ty, (Instr.next (.pointer (some ⟨w1.heap.size, 0, none⟩)) true ty).run Tryd.prog wr = _ := fun ty => Lib.run_next_end_at wr w1.heap.size s pos ty HI.out.1 hp
          have HR : Hid ((cp (tx s)).all valueRune = true) := by show _ = _; rw [HW.out.done hp, HO.out]
          go_wp2_with fail
          go_ret
          exact ⟨ret_bool (by rw [HN.out, HR.out]), Below.two HB1.out HI.out.2⟩
    · have HN : Hid (valueB (tx s) = false) := by show _ = _; rw [valueB, hv]; simp [h24]
      have d24 : decide ((24 : Int) < ((cp (tx s)).length : Int)) = true := by simp; omega
      have d24' : decide (24 < (cp (tx s)).length) = true := by simp; omega
      generalize (cp (tx s)).length = n at *
      clear hr hv
      go_enter Tryd.func39, Tryd.ntmps39
      go_wp2_with fail
      refine (QR.out _ HT.out).mono ?_
      rintro e w1 ⟨rfl, hb1⟩
      go_wp2_with fail
      go_ret
      exact ⟨ret_bool (by rw [HN.out]), hb1⟩
end Go.Proofs.YtlcpigkgbihebaaDoor

/-
  label.Less.
-/
import Derived.Test.YtlcpigkgbihebaaDoorLabRight
import Derived.Test.YtlcpigkgbihebaaDoorLabOrder
namespace Go.Proofs.YtlcpigkgbihebaaDoor
open Go.RowKit
set_option linter.unusedVariables false
set_option linter.unusedSimpArgs false
/-- Do labels stand ahead of others? -/
def lessL : List Lab → List Lab → Bool
  | [], m => !m.isEmpty
  | _ :: _, [] => false
  | x :: l, y :: m => if tx x.1 = tx y.1 ∧ tx x.2 = tx y.2 then lessL l m else if tx x.1 = tx y.1 then lsB (tx x.2) (tx y.2) else lsB (tx x.1) (tx y.1)
theorem drop_lth {l : List Lab} {k : Nat} (h : k < l.length) : l.drop k = lth l k :: l.drop (k + 1) := by
  rw [List.drop_eq_getElem_cons h]; simp [lth, h]
set_option maxRecDepth 100000 in
set_option maxHeartbeats 2000000 in
theorem less_any (A C : Option Addr) (l m : List Lab) (cap capm : Nat) (hl : l.length ≤ 4294967296) (hm : m.length ≤ 4294967296) (w : World) (hS : Lb w w.heap.size A l) (hM : Lb w w.heap.size C m) :
    Calls Tryd.prog 24 #[.slice A l.length cap, .slice C m.length capm] w fun e w' => e = .returned (.bool (lessL l m)) ∧ Below w.heap.size w w' := by
  have HS := Lib.hid hS
  have HM := Lib.hid hM
  clear hS hM
  go_enter Tryd.func24, Tryd.ntmps24
  go_wp2_with fail
  go_loopw [10] (fun i wr => ∃ k : Nat, i = .int .i64 (k : Int) ∧ k ≤ l.length ∧ k ≤ m.length ∧ Hid (lessL l m = lessL (l.drop k) (m.drop k)) ∧ Hid (Below w.heap.size w wr)) (fun i _ => l.length - (RowKit.intOf i).toNat)
  case atStart => exact ⟨0, rfl, Nat.zero_le _, Nat.zero_le _, rfl, below_0 _⟩
  case round =>
    obtain ⟨k, rfl, hk, hkm, HE, HB⟩ := hrel
    by_cases h1 : k < l.length
    · have d1 : decide ((k : Int) < (l.length : Int)) = true := decide_eq_true (by omega)
      obtain ⟨b, off, rfl, hb, hc⟩ := HS.out.at_ (by omega)
      obtain ⟨c1, c2⟩ := hc k h1
      have i1 := (HB.out.cell (p := ⟨b, off + k * 2, none⟩) hb).trans c1
      have i2 := (HB.out.cell (p := ⟨b, off + k * 2 + 1, none⟩) hb).trans c2
      have hbw : b < wr.heap.size := by have := HB.out.size; omega
      have hi1 : (0 : Int) ≤ (k : Int) := by omega
      have hi2 : (k : Int) < (l.length : Int) := by omega
      have HD1 := Lib.hid (drop_lth h1)
      clear hc c1 c2
      by_cases h2 : k < m.length
      · have d2 : ((k : Int) == (m.length : Int)) = false := by rw [beq_eq_false_iff_ne]; omega
        have d2' : (k == m.length) = false := by rw [beq_eq_false_iff_ne]; omega
        obtain ⟨b', off', rfl, hb', hc'⟩ := HM.out.at_ (by omega)
        obtain ⟨c1, c2⟩ := hc' k h2
        have j1 := (HB.out.cell (p := ⟨b', off' + k * 2, none⟩) hb').trans c1
        have j2 := (HB.out.cell (p := ⟨b', off' + k * 2 + 1, none⟩) hb').trans c2
        have hbw' : b' < wr.heap.size := by have := HB.out.size; omega
        have hi3 : (k : Int) < (m.length : Int) := by omega
        have HD2 := Lib.hid (drop_lth h2)
        clear hc' c1 c2
        have HEX : Hid (lessL l m = if tx (lth l k).1 = tx (lth m k).1 ∧ tx (lth l k).2 = tx (lth m k).2 then lessL (l.drop (k + 1)) (m.drop (k + 1)) else if tx (lth l k).1 = tx (lth m k).1 then lsB (tx (lth l k).2) (tx (lth m k).2) else lsB (tx (lth l k).1) (tx (lth m k).1)) := by
          show _ = _; rw [HE.out, HD1.out, HD2.out]; rfl
        generalize lth l k = x at *
        generalize lth m k = y at *
        obtain ⟨x1, x2⟩ := x
        obtain ⟨y1, y2⟩ := y
        simp only at i1 i2 j1 j2 HEX
        have HB2 := Lib.hid (below_al (below_al HB.out (.cells #[.string x1, .string x2] 41)) (.cells #[.string y1, .string y2] 41))
        by_cases e1 : x1.toList = y1.toList
        · have e1' : tx x1 = tx y1 := by rw [← tx_toList, ← tx_toList, e1]
          have b1 : (x1.toList == y1.toList) = true := by rw [beq_iff_eq]; exact e1
          by_cases e2 : x2.toList = y2.toList
          · have e2' : tx x2 = tx y2 := by rw [← tx_toList, ← tx_toList, e2]
            have HE2 : Hid (lessL l m = lessL (l.drop (k + 1)) (m.drop (k + 1))) := by show _ = _; rw [HEX.out, if_pos ⟨e1', e2'⟩]
            clear e1' e2'
            go_wp2_with fail
            go_roundw
            case rel => exact ⟨k + 1, by go_num, by omega, by omega, HE2.out, HB2.out⟩
            case measure => simp [RowKit.intOf]; omega
          · have e2' : ¬ tx x2 = tx y2 := by rw [← tx_toList, ← tx_toList]; exact e2
            have HE2 : Hid (lessL l m = Op.bytesLess x2.toList y2.toList) := by show _ = _; rw [HEX.out, if_neg (fun h => e2' h.2), if_pos e1', tx_toList, tx_toList]
            clear e1' e2'
            go_wp2_with fail
            go_ret
            exact ⟨by rw [HE2.out]; rfl, HB2.out⟩
        · have e1' : ¬ tx x1 = tx y1 := by rw [← tx_toList, ← tx_toList]; exact e1
          have b1 : (x1.toList == y1.toList) = false := by rw [beq_eq_false_iff_ne]; exact e1
          have HE2 : Hid (lessL l m = Op.bytesLess x1.toList y1.toList) := by show _ = _; rw [HEX.out, if_neg (fun h => e1' h.1), if_neg e1', tx_toList, tx_toList]
          clear e1'
          go_wp2_with fail
          go_ret
          exact ⟨by rw [HE2.out]; rfl, HB2.out⟩
      · have d2 : ((k : Int) == (m.length : Int)) = true := by rw [beq_iff_eq]; omega
        have HE2 : Hid (lessL l m = false) := by show _ = _; rw [HE.out, HD1.out, show m.drop k = [] from List.drop_eq_nil_of_le (by omega)]; rfl
        have d2' : (k == m.length) = true := by rw [beq_iff_eq]; omega
        generalize lth l k = x at *
        have HB2 := Lib.hid (below_al HB.out (.cells #[.string x.1, .string x.2] 41))
        go_wp2_with fail
        go_ret
        exact ⟨by rw [HE2.out]; rfl, HB2.out⟩
    · have d1 : decide ((k : Int) < (l.length : Int)) = false := by simp; omega
      have d1' : decide (k < l.length) = false := by simp; omega
      have HE2 : Hid (lessL l m = decide (l.length < m.length)) := by
        show _ = _
        rw [HE.out, List.drop_eq_nil_of_le (by omega)]
        show (!(m.drop k).isEmpty) = _
        rw [Bool.eq_iff_iff]
        cases e : m.drop k with
        | nil => have := congrArg List.length e; rw [List.length_drop] at this; simp at this; simp; omega
        | cons y t => have := congrArg List.length e; rw [List.length_drop] at this; simp at this; simp; omega
      clear HS HM
      go_wp2_with fail
      go_ret
      exact ⟨ret_bool (by rw [HE2.out]), HB.out⟩
end Go.Proofs.YtlcpigkgbihebaaDoor

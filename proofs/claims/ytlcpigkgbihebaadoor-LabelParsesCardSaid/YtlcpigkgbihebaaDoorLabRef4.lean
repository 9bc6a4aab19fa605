/-
  The document's List and Runes.
-/
import Derived.Test.YtlcpigkgbihebaaDoorLabRef3
import Derived.Test.YtlcpigkgbihebaaDoorLabText
namespace Go.Proofs.YtlcpigkgbihebaaDoor
open Go.RowKit Go.PlainAid
set_option linter.unusedVariables false
set_option linter.unusedSimpArgs false
theorem runes_step_ok {l : List UInt8} (hne : l ≠ []) (h : okR (decL l) = true) : sizeF l = (decL l).2 ∧ validL l = validL (l.drop (decL l).2) ∧ (cp l).length = 1 + (cp (l.drop (decL l).2)).length := by
  refine ⟨by rw [sizeF, if_neg hne, if_pos h], by rw [valid_cons hne, h, Bool.true_and], ?_⟩
  rw [cp_cons hne, List.length_cons]; omega
theorem runes_step_bad {l : List UInt8} (hne : l ≠ []) (h : okR (decL l) = false) : sizeF l = 0 ∧ validL l = false := by
  refine ⟨by rw [sizeF, if_neg hne, h, if_neg (by simp)], by rw [valid_cons hne, h, Bool.false_and]⟩
theorem own_base1 {w : World} {B n sz : Nat} {t : TypeId} {v : Value} {xs : List Value} (h : w.ownsRow B t sz v n xs) : ∀ j, v.ownBlock = some j → B ≤ j := fun j e => (own_row1 h j e).1
theorem tx_from {s : ByteArray} {n : Nat} (h : n ≤ s.size) : tx (s.extract n s.size) = (tx s).drop n := by
  show (s.extract n s.size).data.toList = s.data.toList.drop n
  rw [Lib.extract_data, List.take_of_length_le]
  rw [List.length_drop]
  exact Nat.le_of_eq (congrArg (· - n) (tx_len s))
def LsRet (w : World) (l : List UInt8) (e : Ending) (w' : World) : Prop :=
  (∃ A m c, e = .returned (.tuple #[.slice A m c, .bool (runesF l).2]) ∧ (m : Int) = (runesF l).1) ∧ Below w.heap.size w w'
theorem LsRet.mk {w w' : World} {l : List UInt8} {A : Option Addr} {m c : Nat} {b : Bool} (h : runesF l = ((m : Int), b)) (hb : Below w.heap.size w w') : LsRet w l (.returned (.tuple #[.slice A m c, .bool b])) w' := ⟨⟨A, m, c, by rw [h], by rw [h]⟩, hb⟩
set_option maxRecDepth 100000 in
set_option maxHeartbeats 4000000 in
theorem rlist_any (s : ByteArray) (hs : s.size ≤ 100000) (w : World) :
    Calls Tryd.prog 34 #[.string s] w (LsRet w (tx s)) := by
  obtain ⟨i0, hi0, hz0, hz1, hz2⟩ := info_parts Tryd.infoStr
  go_enter Tryd.func34, Tryd.ntmps34
  go_wp2_with fail
  go_loopw [0, 4] (fun t v wr => ∃ (r : ByteArray) (m : Nat) (xs : List Value), t = .string r ∧ m + r.size ≤ s.size ∧ Hid (validL (tx s) = validL (tx r)) ∧ Hid ((cp (tx s)).length = m + (cp (tx r)).length) ∧ Hid (wr.ownsRow w.heap.size 9 1 v m xs) ∧ Hid (Below w.heap.size w wr)) (fun t _ _ => match t with | .string r => r.size | _ => 0)
  case atStart => exact ⟨s, 0, [], rfl, by omega, rfl, by show _ = _; omega, World.ownsRow_nil _ _ _ _, below_0 _⟩
  case round =>
    obtain ⟨r, m, xs, rfl, hm, HV, HC, HO, HB⟩ := hrel
    obtain ⟨A1, c1, rfl, _⟩ := owns_form HO.out
    by_cases h0 : 0 < r.size
    · have hne := tx_ne h0
      have hne2 : r.toList.isEmpty = false := by
        rw [tx_toList]
        cases e : tx r with
        | nil => exact absurd e hne
        | cons a q => rfl
      have hne3 : ¬ r.toList = [] := by rw [tx_toList]; exact hne
      have QS := Lib.hid (rsize_any r (by omega) wr)
      obtain ⟨_, hd1, _, hd3⟩ := decL_bd (tx r)
      have hd3 := hd3 hne
      rw [tx_len] at hd3
      cases hok : okR (decL (tx r)) with
      | false =>
        obtain ⟨e1, e2⟩ := runes_step_bad hne hok
        rw [e1] at QS
        have HR : Hid (runesF (tx s) = (0, false)) := by show _ = _; rw [runesF, HV.out, e2, if_neg (by simp)]
        clear hok hne e1 e2
        go_wp2_with fail
        refine QS.out.mono ?_
        rintro e w1 ⟨rfl, hb1⟩
        go_wp2_with fail
        go_ret2
        exact LsRet.mk (m := 0) HR.out (HB.out.trans (hb1.mono HB.out.size))
      | true =>
        obtain ⟨e1, e2, e3⟩ := runes_step_ok hne hok
        rw [e1] at QS
        have HX := Lib.hid (tx_from hd3)
        have HV2 : Hid (validL (tx s) = validL (tx (r.extract (decL (tx r)).2 r.size))) := by show _ = _; rw [HX.out, HV.out, e2]
        have HC2 : Hid ((cp (tx s)).length = (m + 1) + (cp (tx (r.extract (decL (tx r)).2 r.size))).length) := by show _ = _; rw [HX.out, HC.out, e3]; omega
        have hsz2 : (r.extract (decL (tx r)).2 r.size).size = r.size - (decL (tx r)).2 := by rw [ByteArray.size_extract]; omega
        clear hok hne e1 e2 e3 HX
        generalize (decL (tx r)).2 = n at *
        have c2 : ((n : Int) == 0) = false := by rw [beq_eq_false_iff_ne]; omega
        have c2' : (n == 0) = false := by rw [beq_eq_false_iff_ne]; omega
        have hn1 : (0 : Int) ≤ (n : Int) := by omega
        have hn2 : (n : Int) ≤ (r.size : Int) := by omega
        go_wp2_with fail
        refine QS.out.mono ?_
        rintro e w1 ⟨rfl, hb1⟩
        have HO1 := Lib.hid (own_later HO.out hb1)
        have HB1 : Hid (Below w.heap.size w w1) := HB.out.trans (hb1.mono HB.out.size)
        clear hb1 HO HB QS
        go_wp2_with (at_builtin; refine wpList_append_own _ rfl _ _ 55 rfl w.heap.size 9 i0 (.string ⟨#[]⟩) 1 16 Tryd.underlying55 hi0 hz0 hz1 hz2 rfl (by decide) (.slice A1 m c1) m _ rfl (HO1.out.alloc _) ⟨w1.heap.size, 0, none⟩ 1 1 [_] rfl rfl (cell_one _ _ _ _ rfl) (by simp [Value.oneCell']) (by unfold maxLen; omega) (by omega) (by have := HB1.out.size; simp; omega) ?_; intro v' w2 hown' hgrow _)
        have HO2 := Lib.hid hown'
        have HB2 : Hid (Below w.heap.size w w2) := (HB1.out.alloc HB1.out.size _).grown hgrow (by have := HB1.out.size; simp; omega) (fun j e => own_base1 HO1.out j e)
        clear hown' hgrow HO1 HB1
        go_wp2_with fail
        go_roundw
        case rel => exact ⟨_, m + 1, _, rfl, by omega, HV2.out, HC2.out, HO2.out, HB2.out⟩
        case measure => show (r.extract n r.size).size < r.size; omega
    · have ht : tx r = [] := List.eq_nil_of_length_eq_zero (by rw [tx_len]; omega)
      have hr0 : r.toList = [] := by rw [tx_toList]; exact ht
      have hr1 : r.toList.isEmpty = true := by rw [hr0]; rfl
      have HR : Hid (runesF (tx s) = ((m : Int), true)) := by
        show _ = _
        rw [runesF, HV.out, HC.out, ht, show validL [] = true from rfl, if_pos rfl, cp_nil]; rfl
      go_wp2_with fail
      go_ret2
      exact LsRet.mk (m := m) HR.out HB.out
set_option maxRecDepth 100000 in
theorem rrunes_any (s : ByteArray) (hs : s.size ≤ 100000) (w : World) :
    Calls Tryd.prog 15 #[.string s] w fun e w' => e = .returned (.tuple #[.int .i64 (runesF (tx s)).1, .bool (runesF (tx s)).2]) ∧ Below w.heap.size w w' := by
  have Q := Lib.hid (rlist_any s hs w)
  go_enter Tryd.func15, Tryd.ntmps15
  go_wp2_with fail
  refine Q.out.mono ?_
  rintro e w1 ⟨⟨A, m, c, rfl, hm⟩, hb⟩
  have HM := Lib.hid hm
  clear hm
  go_wp2_with fail
  go_ret2
  exact ⟨by rw [HM.out]; rfl, hb⟩
end Go.Proofs.YtlcpigkgbihebaaDoor

/-
  The document's Parse.
-/
import Derived.Test.YtlcpigkgbihebaaDoorLabRef9
namespace Go.Proofs.YtlcpigkgbihebaaDoor
open Go.RowKit Go.PlainAid
set_option linter.unusedVariables false
set_option linter.unusedSimpArgs false
/-- What the document's Parse hands back. -/
def DocRet (w : World) (t : List UInt8) (e : Ending) (w' : World) : Prop :=
  Below w.heap.size w w' ∧ (match docF t with
    | some l => ∃ A c, e = .returned (.tuple #[.slice A l.length c, .int .i64 0]) ∧ Lb w' w'.heap.size A l
    | none => e = .returned (.tuple #[.slice none 0 0, .int .i64 40]))
theorem DocRet.no {w w' : World} {t : List UInt8} (h : docF t = none) (hb : Below w.heap.size w w') : DocRet w t (.returned (.tuple #[.slice none 0 0, .int .i64 40])) w' := ⟨hb, by rw [h]⟩
theorem DocRet.yes {w w' : World} {t : List UInt8} {l : List Lab} {A : Option Addr} {n c : Nat} (h : docF t = some l) (hn : n = l.length) (hb : Below w.heap.size w w') (hL : Lb w' w'.heap.size A l) : DocRet w t (.returned (.tuple #[.slice A n c, .int .i64 0])) w' := ⟨hb, by rw [h]; exact ⟨A, c, by rw [hn], hL⟩⟩
theorem ins_snoc (L : List Lab) (x : Lab) : insF (L ++ [x]) = putF (insF L) x := by unfold insF; rw [List.foldl_append]; rfl
theorem ins_len (L : List Lab) : (insF L).length = L.length := (ins_perm L).length_eq
set_option maxRecDepth 100000 in
set_option maxHeartbeats 8000000 in
theorem rparse_any (s : ByteArray) (hs : s.size ≤ 600) (w : World) : Calls Tryd.prog 13 #[.string s] w (DocRet w (tx s)) := by
  have QR := Lib.hid (rrunes_any s (by omega) w)
  have ha1 : Op.stringOp .add ⟨#[44]⟩ s = pure (.string (⟨#[44]⟩ ++ s)) := stringOp_add (by show 1 + _ ≤ _; omega)
  obtain ⟨rf, hrf⟩ : ∃ rf, runesF (tx s) = rf := ⟨_, rfl⟩
  have hval : rf.2 = validL (tx s) := by rw [← hrf]; unfold runesF; split <;> simp_all
  rw [hrf] at QR
  clear hrf
  obtain ⟨r1, r2⟩ := rf
  simp only at QR hval
  cases hv : validL (tx s) with
  | false =>
    rw [hv] at hval; subst hval
    have HD : Hid (docF (tx s) = none) := by show _ = _; rw [docF, hv]; rfl
    clear hv
    go_enter Tryd.func13, Tryd.ntmps13
    go_wp2_with fail
    refine QR.out.mono ?_
    rintro e w1 ⟨rfl, hb1⟩
    go_wp2_with fail
    go_ret2
    exact DocRet.no HD.out hb1
  | true =>
    rw [hv] at hval; subst hval
    have HD : Hid (docF (tx s) = (rawF (tx s)).bind fun l => if setB (insF l) = true then some (insF l) else none) := by show _ = _; rw [docF, hv]; rfl
    clear hv
    go_enter Tryd.func13, Tryd.ntmps13
    go_wp2_with fail
    refine QR.out.mono ?_
    rintro e w1 ⟨rfl, hb1⟩
    have HB1 := Lib.hid hb1
    clear hb1 QR
    go_wp2_with fail
    go_loopw [6, 7] (fun v t wr => ∃ (L : List Lab) (A : Option Addr) (c : Nat) (R : ByteArray), v = .slice A L.length c ∧ t = .string R ∧ L.length ≤ c ∧ c ≤ 9223372036854775807 ∧ L.length + R.size ≤ 601 ∧ Hid (∀ y ∈ L, y.1.size ≤ 100000 ∧ y.2.size ≤ 100000) ∧ Hid (Lb wr wr.heap.size A (insF L)) ∧
      Hid (rawF (tx s) = if tx R = [] then some L else endB (((tx R).drop 1).foldl stepB ⟨[], [], 0, L⟩)) ∧ Hid (Below w.heap.size w wr)) (fun _ t _ => match t with | .string r => r.size | _ => 0)
    case atStart =>
      refine ⟨[], none, 0, _, rfl, rfl, Nat.le_refl _, by omega, by rw [ByteArray.size_append]; show 0 + (1 + _) ≤ _; omega, fun y hy => (by simp at hy), fun h => absurd rfl h, ?_, HB1.out⟩
      show rawF (tx s) = _
      rw [tx_append]
      show _ = if 44 :: tx s = [] then _ else _
      rw [if_neg (by simp)]
      rfl
    case round =>
      obtain ⟨L, A, c, R, rfl, rfl, hc, hcm, hn, HZ, HL, HR, HB⟩ := hrel
      by_cases h0 : 0 < R.size
      · have hne := tx_ne h0
        have hne2 : R.toList.isEmpty = false := by
          rw [tx_toList]
          cases e : tx R with
          | nil => exact absurd e hne
          | cons a q => rfl
        have hne3 : ¬ R.toList = [] := by rw [tx_toList]; exact hne
        have hne4 : (R.toList == []) = false := by simpa using hne3
        have HR2 := HR.out
        rw [if_neg hne] at HR2
        have HR3 := Lib.hid HR2
        clear HR2 HR hne
        have kS : ∀ w, (Instr.slice 9 (.string R) (some (.int .i64 1)) none none).run Tryd.prog w = .ok (.string (R.extract 1 R.size)) w := fun w => by
          rw [run_slice_string_from_if (P := Tryd.prog) w 9 R .i64 1 Tryd.underlying9, if_pos (by omega)]
          rfl
        have hsz : (R.extract 1 R.size).size = R.size - 1 := by rw [ByteArray.size_extract]; omega
        have HX : Hid (tx (R.extract 1 R.size) = (tx R).drop 1) := tx_from (by omega)
        go_wp2_with fail
        refine (one_any _ (by omega) _).mono ?_
        rintro e w2 ⟨x, more, ok, rfl, ho, hm, hx1, hx2, hb2⟩
        have HB2 := Lib.hid (Below.two HB.out hb2)
        have HL2 := Lib.hid (HL.out.later hb2)
        have HO : Hid (rawF (tx s) = if ok = true then (if tx more = [] then some (L ++ [x]) else endB (((tx more).drop 1).foldl stepB ⟨[], [], 0, L ++ [x]⟩)) else none) := by
          show _ = _
          rw [HR3.out, ← HX.out]; exact ho L
        clear ho hb2 HB HL HR3 HX kS hne2 hne3 hne4
        obtain ⟨x1, x2⟩ := x
        have hb3 := below_al (below_0 w2) (.cells #[.string x1, .string x2] 41)
        have XB := Lib.hid (Blk.new w2 41 #[.string x1, .string x2])
        cases ok with
        | false =>
          have HD2 : Hid (docF (tx s) = none) := by show _ = _; rw [HD.out, HO.out]; rfl
          go_wp2_with fail
          go_ret2
          exact DocRet.no HD2.out (Below.two HB2.out hb3)
        | true =>
          have HB3 := Lib.hid (Below.two HB2.out hb3)
          have HL3 := Lib.hid (HL2.out.later hb3)
          have y0 := XB.out.cell 0
          have y1 := XB.out.cell 1
          simp only [List.getElem?_toArray, List.getElem?_cons_zero, List.getElem?_cons_succ] at y0 y1
          clear hb3 HB2 HL2
          simp only at hx1 hx2
          have HZ3 : Hid (∀ y ∈ L ++ [(x1, x2)], y.1.size ≤ 100000 ∧ y.2.size ≤ 100000) := fun y hy => by
            rcases List.mem_append.1 hy with hy | hy
            · exact HZ.out y hy
            · simp at hy; subst hy; exact ⟨by show x1.size ≤ _; omega, by show x2.size ≤ _; omega⟩
          go_wp2_with fail
          have QP := put_any A (insF L) c (x1, x2) (by rw [ins_len]; omega) (by rw [ins_len]; exact hc) hcm (fun y hy => by have := (HZ.out y ((ins_perm L).mem_iff.1 hy)).1; unfold maxLen; omega) (by show x1.size ≤ maxLen; unfold maxLen; omega) (w2.alloc (.cells #[.string x1, .string x2] 41)) HL3.out
          rw [ins_len] at QP
          refine QP.mono ?_
          rintro e w4 ⟨⟨A4, c4, rfl, hc4, hcm4, hl4⟩, hb4⟩
          have HL4 : Hid (Lb w4 w4.heap.size A4 (insF (L ++ [(x1, x2)]))) := by show Lb _ _ _ _; rw [ins_snoc]; exact hl4
          have HB4 := Lib.hid (Below.two HB3.out hb4)
          clear hl4 hb4 HB3 HL3 QP XB y0 y1
          go_wp2_with fail
          go_roundw
          case rel => exact ⟨L ++ [(x1, x2)], A4, c4, more, by rw [List.length_append]; rfl, rfl, by rw [List.length_append]; exact hc4, hcm4, by rw [List.length_append, List.length_singleton]; omega, HZ3.out, HL4.out, HO.out, HB4.out⟩
          case measure => show more.size < R.size; omega
      · have ht : tx R = [] := List.eq_nil_of_length_eq_zero (by rw [tx_len]; omega)
        have hr0 : R.toList = [] := by rw [tx_toList]; exact ht
        have hr1 : R.toList.isEmpty = true := by rw [hr0]; rfl
        have HD2 : Hid (docF (tx s) = if setB (insF L) = true then some (insF L) else none) := by
          show _ = _
          rw [HD.out, HR.out, if_pos ht]; rfl
        have QG := rright_any A (insF L) c (by rw [ins_len]; omega) (fun y hy => HZ.out y ((ins_perm L).mem_iff.1 hy)) wr HL.out
        rw [ins_len] at QG
        clear HR ht
        cases hsb : setB (insF L) with
        | true =>
          rw [hsb] at QG HD2
          clear hsb
          go_wp2_with fail
          refine QG.mono ?_
          rintro e w2 ⟨rfl, hb2⟩
          go_wp2_with fail
          go_ret2
          exact DocRet.yes HD2.out (ins_len L).symm (Below.two HB.out hb2) (HL.out.later hb2)
        | false =>
          rw [hsb] at QG HD2
          clear hsb
          go_wp2_with fail
          refine QG.mono ?_
          rintro e w2 ⟨rfl, hb2⟩
          go_wp2_with fail
          go_ret2
          exact DocRet.no HD2.out (Below.two HB.out hb2)
end Go.Proofs.YtlcpigkgbihebaaDoor

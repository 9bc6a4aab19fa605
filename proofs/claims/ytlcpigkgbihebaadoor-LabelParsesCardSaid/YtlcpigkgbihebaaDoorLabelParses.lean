/-
  The walk of the law aviarylaw04.LabelParses.
-/
import Derived.Test.YtlcpigkgbihebaaDoorLabRef10
import Derived.Test.YtlcpigkgbihebaaDoorLabelRunes
namespace Go.Proofs.YtlcpigkgbihebaaDoor
open Go.RowKit
set_option linter.unusedVariables false
set_option linter.unusedSimpArgs false
set_option maxRecDepth 100000 in
set_option maxHeartbeats 4000000 in
theorem labelParses_walk (s : ByteArray) (w : World) (hs : s.size ≤ maxLen) (hT : Tb w) :
    Calls Tryd.prog 3 #[.string s] w fun e w' => e = .returned (.bool true) ∧ Below w.heap.size w w' := by
  have HT := Lib.hid hT
  have QC : Hid (∀ w, Calls Tryd.prog _ #[.string s] w fun e w' => e = .returned (.string (cutS s)) ∧ w = w') := fun w => cut_any s w hs
  have k1 := cutS_le s
  clear hT hs
  generalize cutS s = a at *
  obtain ⟨rf, hrf⟩ : ∃ rf, runesF (tx a) = rf := ⟨_, rfl⟩
  have HRF := Lib.hid hrf
  clear hrf
  obtain ⟨m, ok⟩ := rf
  go_enter Tryd.func3, Tryd.ntmps3
  go_wp2_with fail
  refine (shown_any _ HT.out).mono ?_
  rintro e w1 ⟨rfl, hb1⟩
  have HB1 := Lib.hid hb1
  clear hb1
  go_wp2_with fail
  refine (QC.out _).mono ?_
  rintro e _ ⟨rfl, rfl⟩
  go_wp2_with fail
  refine (parse_any a _ (by omega) (HT.out.later HB1.out)).mono ?_
  rintro e w2 ⟨hb2, r, hp, hm⟩
  have HB2 := Lib.hid (Below.two HB1.out hb2)
  obtain rfl := doc_is hp
  clear hp hb2 HB1
  cases hd : docF (tx a) with
  | none =>
    rw [hd] at hm
    have hm : e = _ := hm
    subst hm
    have HD := Lib.hid hd
    clear hd
    go_wp2_with fail
    refine (QC.out _).mono ?_
    rintro e _ ⟨rfl, rfl⟩
    go_wp2_with fail
    refine (rparse_any a (by omega) _).mono ?_
    rintro e w3 ⟨hb3, hm3⟩
    rw [HD.out] at hm3
    have hm3 : e = _ := hm3
    subst hm3
    have HB3 := Lib.hid (Below.two HB2.out hb3)
    clear hb3 HB2
    go_wp2_with fail
    refine (QC.out _).mono ?_
    rintro e _ ⟨rfl, rfl⟩
    go_wp2_with fail
    refine (runes_any a _ (by omega) (HT.out.later HB3.out)).mono ?_
    rw [HRF.out]
    rintro e w4 ⟨rfl, hb4⟩
    have HB4 := Lib.hid (Below.two HB3.out hb4)
    clear hb4 HB3
    go_wp2_with fail
    refine (QC.out _).mono ?_
    rintro e _ ⟨rfl, rfl⟩
    go_wp2_with fail
    refine (rrunes_any a (by omega) _).mono ?_
    rw [HRF.out]
    rintro e w5 ⟨rfl, hb5⟩
    have HB5 := Lib.hid (Below.two HB4.out hb5)
    clear hb5 HB4
    go_wp2_with fail
    refine (rsame_below none none [] [] 0 0 (by simp) (by simp) _ (fun h => absurd rfl h) (fun h => absurd rfl h)).mono ?_
    rw [same_self]
    rintro e w6 ⟨rfl, hb6⟩
    have HB6 := Lib.hid (Below.two HB5.out hb6)
    clear hb6 HB5
    go_wp2_with fail
    go_ret
    exact ⟨rfl, HB6.out⟩
  | some l =>
    rw [hd] at hm
    have hm : ∃ A cap, e = _ ∧ l.length ≤ cap ∧ _ ∧ Lb w2 w2.heap.size A l := hm
    obtain ⟨A, c, rfl, hc, hc2, hL⟩ := hm
    have HD := Lib.hid hd
    have S2 := Lib.hid hL
    have hl6 : l.length ≤ 4294967296 := by
      have h1 : docF (tx a) = some l := hd
      unfold docF at h1
      split at h1
      · cases hr : rawF (tx a) with
        | none => rw [hr] at h1; cases h1
        | some l' =>
          rw [hr] at h1
          have h1 : (if setB (insF l') = true then some (insF l') else none) = some l := h1
          split at h1
          · rename_i h2
            cases h1
            unfold setB at h2
            simp only [Bool.and_eq_true, decide_eq_true_eq] at h2
            omega
          · cases h1
      · cases h1
    clear hd hL
    go_wp2_with fail
    refine (QC.out _).mono ?_
    rintro e _ ⟨rfl, rfl⟩
    go_wp2_with fail
    refine (rparse_any a (by omega) _).mono ?_
    rintro e w3 ⟨hb3, hm3⟩
    rw [HD.out] at hm3
    obtain ⟨A3, c3, rfl, hL3⟩ := hm3
    have HB3 := Lib.hid (Below.two HB2.out hb3)
    have S3 := Lib.hid (S2.out.later hb3)
    have R3 := Lib.hid hL3
    clear hb3 HB2 S2 hL3
    go_wp2_with fail
    refine (QC.out _).mono ?_
    rintro e _ ⟨rfl, rfl⟩
    go_wp2_with fail
    refine (runes_any a _ (by omega) (HT.out.later HB3.out)).mono ?_
    rw [HRF.out]
    rintro e w4 ⟨rfl, hb4⟩
    have HB4 := Lib.hid (Below.two HB3.out hb4)
    have S4 := Lib.hid (S3.out.later hb4)
    have R4 := Lib.hid (R3.out.later hb4)
    clear hb4 HB3 S3 R3
    go_wp2_with fail
    refine (QC.out _).mono ?_
    rintro e _ ⟨rfl, rfl⟩
    go_wp2_with fail
    refine (rrunes_any a (by omega) _).mono ?_
    rw [HRF.out]
    rintro e w5 ⟨rfl, hb5⟩
    have HB5 := Lib.hid (Below.two HB4.out hb5)
    have S5 := Lib.hid (S4.out.later hb5)
    have R5 := Lib.hid (R4.out.later hb5)
    clear hb5 HB4 S4 R4
    go_wp2_with fail
    refine (rsame_below A A3 l l c c3 hl6 hl6 _ S5.out R5.out).mono ?_
    rw [same_self]
    rintro e w6 ⟨rfl, hb6⟩
    have HB6 := Lib.hid (Below.two HB5.out hb6)
    clear hb6 HB5
    go_wp2_with fail
    go_ret
    exact ⟨rfl, HB6.out⟩
end Go.Proofs.YtlcpigkgbihebaaDoor

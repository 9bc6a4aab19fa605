/-
  The walk of the law aviarylaw04.LabelOrders.
-/
import Derived.Test.YtlcpigkgbihebaaDoorLabShown
import Derived.Test.YtlcpigkgbihebaaDoorLabRef1
import Derived.Test.YtlcpigkgbihebaaDoorLabFew
namespace Go.Proofs.YtlcpigkgbihebaaDoor
open Go.RowKit
set_option linter.unusedVariables false
set_option linter.unusedSimpArgs false
theorem lab_eq {x y : Lab} (h1 : tx x.1 = tx y.1) (h2 : tx x.2 = tx y.2) : x = y := Prod.ext (tx_eq.1 h1) (tx_eq.1 h2)
theorem less_tri : ∀ l m : List Lab, (lessL l m = true ∧ lessL m l = false ∧ sameL l m = false) ∨ (lessL l m = false ∧ lessL m l = true ∧ sameL l m = false) ∨ (lessL l m = false ∧ lessL m l = false ∧ sameL l m = true)
  | [], [] => .inr (.inr ⟨rfl, rfl, rfl⟩)
  | [], y :: m => .inl ⟨rfl, rfl, by simp [sameL]⟩
  | x :: l, [] => .inr (.inl ⟨rfl, rfl, by simp [sameL]⟩)
  | x :: l, y :: m => by
    rw [lessL, lessL]
    by_cases h1 : tx x.1 = tx y.1
    · by_cases h2 : tx x.2 = tx y.2
      · rw [if_pos ⟨h1, h2⟩, if_pos ⟨h1.symm, h2.symm⟩]
        have e := lab_eq h1 h2
        subst e
        have hs : sameL (x :: l) (x :: m) = sameL l m := by simp [sameL]
        rw [hs]; exact less_tri l m
      · rw [if_neg (show ¬ (tx x.1 = tx y.1 ∧ tx x.2 = tx y.2) from fun h => h2 h.2), if_neg (show ¬ (tx y.1 = tx x.1 ∧ tx y.2 = tx x.2) from fun h => h2 h.2.symm), if_pos h1, if_pos h1.symm]
        have hs : sameL (x :: l) (y :: m) = false := by
          simp only [sameL, decide_eq_false_iff_not]; intro e; injection e with e _; exact h2 (by rw [e])
        rw [hs]
        rcases lsB_tri (tx x.2) (tx y.2) with h | h | h
        · exact .inl ⟨h, lsB_asymm h, rfl⟩
        · exact absurd h h2
        · exact .inr (.inl ⟨lsB_asymm h, h, rfl⟩)
    · rw [if_neg (show ¬ (tx x.1 = tx y.1 ∧ tx x.2 = tx y.2) from fun h => h1 h.1), if_neg (show ¬ (tx y.1 = tx x.1 ∧ tx y.2 = tx x.2) from fun h => h1 h.1.symm), if_neg h1, if_neg (Ne.symm h1)]
      have hs : sameL (x :: l) (y :: m) = false := by
        simp only [sameL, decide_eq_false_iff_not]; intro e; injection e with e _; exact h1 (by rw [e])
      rw [hs]
      rcases lsB_tri (tx x.1) (tx y.1) with h | h | h
      · exact .inl ⟨h, lsB_asymm h, rfl⟩
      · exact absurd h h1
      · exact .inr (.inl ⟨lsB_asymm h, h, rfl⟩)
theorem few_sz (l : List Lab) : ∀ x ∈ l.map fewL, x.1.size ≤ maxLen ∧ x.2.size ≤ maxLen := fun x hx => by
  obtain ⟨y, _, rfl⟩ := List.mem_map.1 hx
  have := fewL_le y
  unfold maxLen; omega
set_option maxRecDepth 100000 in
set_option maxHeartbeats 4000000 in
theorem labelOrders_walk (A : Option Addr) (l : List Lab) (n cap : Nat) (B : Option Addr) (m : List Lab) (n' cap' : Nat) (hk : l.length = min n 10) (hn : n ≤ maxLen) (hs : ∀ x ∈ l, x.1.size ≤ maxLen ∧ x.2.size ≤ maxLen) (hk' : m.length = min n' 10) (hn' : n' ≤ maxLen) (hs' : ∀ x ∈ m, x.1.size ≤ maxLen ∧ x.2.size ≤ maxLen) (w : World) (hT : Tb w) (hS : Lb w w.heap.size A l) (hM : Lb w w.heap.size B m) :
    Calls Tryd.prog 9 #[.slice A n cap, .slice B n' cap'] w fun e w' => e = .returned (.bool true) ∧ Below w.heap.size w w' := by
  have HS := Lib.hid hS
  have HM := Lib.hid hM
  have QF : Hid (∀ w1, Lb w1 w1.heap.size A l → Calls Tryd.prog _ #[.slice A n cap] w1 _) := fun w1 h => few_any A l n cap hk hn hs w1 h
  have QG : Hid (∀ w1, Lb w1 w1.heap.size B m → Calls Tryd.prog _ #[.slice B n' cap'] w1 _) := fun w1 h => few_any B m n' cap' hk' hn' hs' w1 h
  have HL1 : Hid ((l.map fewL).length ≤ 10) := by show _ ≤ _; rw [List.length_map]; omega
  have HL2 : Hid ((m.map fewL).length ≤ 10) := by show _ ≤ _; rw [List.length_map]; omega
  have Z1 := Lib.hid (few_sz l)
  have Z2 := Lib.hid (few_sz m)
  have HT := Lib.hid hT
  generalize l.map fewL = L at *
  generalize m.map fewL = M at *
  clear hT hS hM hs hs' hk hn hk' hn'
  obtain ⟨x, hx⟩ : ∃ x, lessL L M = x := ⟨_, rfl⟩
  obtain ⟨y, hy⟩ : ∃ y, lessL M L = y := ⟨_, rfl⟩
  obtain ⟨z, hz⟩ : ∃ z, sameL L M = z := ⟨_, rfl⟩
  have ht := less_tri L M
  rw [hx, hy, hz] at ht
  have HX := Lib.hid hx
  have HY := Lib.hid hy
  have HZ := Lib.hid hz
  clear hx hy hz
  go_enter Tryd.func9, Tryd.ntmps9
  go_wp2_with fail
  refine (shown_any _ HT.out).mono ?_
  rintro e w1 ⟨rfl, hb1⟩
  have HB1 := Lib.hid hb1
  clear hb1
  go_wp2_with fail
  refine (QF.out _ (HS.out.later HB1.out)).mono ?_
  rintro e w2 ⟨⟨A2, c2, rfl, hc2, hL2⟩, hb2⟩
  have HB2 := Lib.hid (Below.two HB1.out hb2)
  have S2 := Lib.hid hL2
  clear hb2 hL2 HB1 QF HS
  go_wp2_with fail
  refine (QG.out _ (HM.out.later HB2.out)).mono ?_
  rintro e w3 ⟨⟨A3, c3, rfl, hc3, hL3⟩, hb3⟩
  have HB3 := Lib.hid (Below.two HB2.out hb3)
  have S2' := Lib.hid (S2.out.later hb3)
  have S3 := Lib.hid hL3
  have hl1 := HL1.out
  have hl2 := HL2.out
  clear hb3 hL3 HB2 QG HM S2
  go_wp2_with fail
  refine (less_any A2 A3 L M c2 c3 (by omega) (by omega) _ S2'.out S3.out).mono ?_
  rw [HX.out]
  rintro e w4 ⟨rfl, hb4⟩
  have HB4 := Lib.hid (Below.two HB3.out hb4)
  have S24 := Lib.hid (S2'.out.later hb4)
  have S34 := Lib.hid (S3.out.later hb4)
  clear hb4 HB3 S2' S3
  go_wp2_with fail
  refine (less_any A3 A2 M L c3 c2 (by omega) (by omega) _ S34.out S24.out).mono ?_
  rw [HY.out]
  rintro e w5 ⟨rfl, hb5⟩
  have HB5 := Lib.hid (Below.two HB4.out hb5)
  have S25 := Lib.hid (S24.out.later hb5)
  have S35 := Lib.hid (S34.out.later hb5)
  clear hb5 HB4 S24 S34
  rcases ht with ⟨rfl, rfl, rfl⟩ | ⟨rfl, rfl, rfl⟩ | ⟨rfl, rfl, rfl⟩
  all_goals
    go_wp2_with fail
    refine (rless_any A2 A3 L M c2 c3 (by omega) (by omega) Z1.out Z2.out _ S25.out S35.out).mono ?_
    rw [HX.out]
    rintro e w6 ⟨rfl, hb6⟩
    have HB6 := Lib.hid (Below.two HB5.out hb6)
    have S26 := Lib.hid (S25.out.later hb6)
    have S36 := Lib.hid (S35.out.later hb6)
    clear hb6 HB5 S25 S35
    go_wp2_with fail
    refine (rsame_below A2 A3 L M c2 c3 (by omega) (by omega) _ S26.out S36.out).mono ?_
    rw [HZ.out]
    rintro e w7 ⟨rfl, hb7⟩
    have HB7 := Lib.hid (Below.two HB6.out hb7)
    clear hb7 HB6 S26 S36
    go_wp2_with fail
    go_ret
    exact ⟨rfl, HB7.out⟩
end Go.Proofs.YtlcpigkgbihebaaDoor

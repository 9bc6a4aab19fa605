/-
  The walk of the law aviarylaw04.LabelTexts.
-/
import Derived.Test.YtlcpigkgbihebaaDoorLabShown
import Derived.Test.YtlcpigkgbihebaaDoorLabRef7
import Derived.Test.YtlcpigkgbihebaaDoorLabRef2
import Derived.Test.YtlcpigkgbihebaaDoorLabGet
import Derived.Test.YtlcpigkgbihebaaDoorLabFew
namespace Go.Proofs.YtlcpigkgbihebaaDoor
open Go.RowKit
set_option linter.unusedVariables false
set_option linter.unusedSimpArgs false
set_option maxRecDepth 100000 in
set_option maxHeartbeats 4000000 in
theorem labelTexts_walk (A : Option Addr) (l : List Lab) (n cap : Nat) (nm : ByteArray) (hk : l.length = min n 10) (hn : n ≤ maxLen) (hs : ∀ x ∈ l, x.1.size ≤ maxLen ∧ x.2.size ≤ maxLen) (w : World) (hT : Tb w) (hS : Lb w w.heap.size A l) :
    Calls Tryd.prog 7 #[.slice A n cap, .string nm] w fun e w' => e = .returned (.bool true) ∧ Below w.heap.size w w' := by
  have HS := Lib.hid hS
  have QF : Hid (∀ w1, Lb w1 w1.heap.size A l → Calls Tryd.prog _ #[.slice A n cap] w1 _) := fun w1 h => few_any A l n cap hk hn hs w1 h
  have HL1 : Hid ((l.map fewL).length ≤ 10) := by show _ ≤ _; rw [List.length_map]; omega
  have Z1 : Hid (∀ x ∈ l.map fewL, x.1.size ≤ 20 ∧ x.2.size ≤ 120) := fun x hx => by
    obtain ⟨y, _, rfl⟩ := List.mem_map.1 hx
    exact fewL_le y
  have HT := Lib.hid hT
  generalize l.map fewL = L at *
  clear hT hS hs hk hn
  obtain ⟨G, hG⟩ : ∃ G, getL L nm = G := ⟨_, rfl⟩
  obtain ⟨g, ok⟩ := G
  have QTT : Hid (∃ (t : ByteArray) (k : Int), (if setB L = true then Value.tuple #[.string ⟨(textB L).toArray⟩, .int .i64 0] else .tuple #[.string ⟨#[]⟩, .int .i64 40]) = .tuple #[.string t, .int .i64 k]) := by
    cases setB L with
    | true => exact ⟨_, _, rfl⟩
    | false => exact ⟨_, _, rfl⟩
  obtain ⟨t, k, hQ⟩ := QTT.out
  obtain ⟨r, hr⟩ : ∃ r, setB L = r := ⟨_, rfl⟩
  have HQ := Lib.hid hQ
  have HG := Lib.hid hG
  have HR := Lib.hid hr
  clear hQ hG hr QTT
  go_enter Tryd.func7, Tryd.ntmps7
  go_wp2_with fail
  refine (shown_any _ HT.out).mono ?_
  rintro e w1 ⟨rfl, hb1⟩
  have HB1 := Lib.hid hb1
  clear hb1
  go_wp2_with fail
  refine (QF.out _ (HS.out.later HB1.out)).mono ?_
  rintro e w2 ⟨⟨A2, c2, rfl, hc2, hL2⟩, hb2⟩
  have HB2 := Lib.hid (Below.two HB1.out hb2)
  have S2 := Lib.hid hL2
  have hl1 := HL1.out
  clear hb2 hL2 HB1 QF HS
  go_wp2_with fail
  refine (text_any A2 L c2 (fun x hx => by have := (Z1.out x hx).2; omega) _ (HT.out.later HB2.out) S2.out).mono ?_
  rw [HQ.out]
  rintro e w3 ⟨rfl, hb3⟩
  have HB3 := Lib.hid (Below.two HB2.out hb3)
  have S3 := Lib.hid (S2.out.later hb3)
  clear hb3 HB2 S2
  go_wp2_with fail
  refine (rtext_any A2 L c2 (by omega) (fun x hx => Z1.out x hx) _ S3.out).mono ?_
  rw [HQ.out]
  rintro e w4 ⟨rfl, hb4⟩
  have HB4 := Lib.hid (Below.two HB3.out hb4)
  have S4 := Lib.hid (S3.out.later hb4)
  clear hb4 HB3 S3
  go_wp2_with fail
  refine (get_any A2 L c2 nm (by omega) _ S4.out).mono ?_
  rw [HG.out]
  rintro e w5 ⟨rfl, hb5⟩
  have HB5 := Lib.hid (Below.two HB4.out hb5)
  have S5 := Lib.hid (S4.out.later hb5)
  clear hb5 HB4 S4
  go_wp2_with fail
  refine (rget_any A2 L c2 nm (by omega) _ S5.out).mono ?_
  rw [HG.out]
  rintro e w6 ⟨rfl, rfl⟩
  go_wp2_with fail
  refine (right_any A2 L c2 (fun x hx => by have := (Z1.out x hx).2; omega) _ (HT.out.later HB5.out) S5.out).mono ?_
  rw [HR.out]
  rintro e w7 ⟨rfl, hb7⟩
  have HB7 := Lib.hid (Below.two HB5.out hb7)
  have S7 := Lib.hid (S5.out.later hb7)
  clear hb7 HB5 S5
  go_wp2_with fail
  refine (rright_any A2 L c2 (by omega) (fun x hx => by have := Z1.out x hx; omega) _ S7.out).mono ?_
  rw [HR.out]
  rintro e w8 ⟨rfl, hb8⟩
  have HB8 := Lib.hid (Below.two HB7.out hb8)
  clear hb8 HB7 S7
  go_wp2_with fail
  go_ret
  exact ⟨rfl, HB8.out⟩
end Go.Proofs.YtlcpigkgbihebaaDoor

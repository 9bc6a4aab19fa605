/-
  The walk of the law aviarylaw04.LabelBack.
-/
import Derived.Test.YtlcpigkgbihebaaDoorRoundTrip
import Derived.Test.YtlcpigkgbihebaaDoorLabelRunes
import Derived.Test.YtlcpigkgbihebaaDoorLabelOrders
namespace Go.Proofs.YtlcpigkgbihebaaDoor
open Go.RowKit
set_option linter.unusedVariables false
set_option linter.unusedSimpArgs false
theorem text_len {l : List Lab} (hs : setB l = true) : (textB l).length ≤ 1000 := by
  have hl : l.length ≤ 6 := by unfold setB at hs; simp only [Bool.and_eq_true, decide_eq_true_eq] at hs; exact hs.1.2
  have hp : ∀ x ∈ l, (partS x).data.toList.length ≤ 133 := fun x hx => by
    obtain ⟨h1, h2⟩ := set_sizes hs x hx
    show (tx (partS x)).length ≤ _
    rw [tx_len, partS, ByteArray.size_append, ByteArray.size_append, size_arr (quoB (tx x.2))]
    show x.1.size + 1 + _ ≤ 133
    omega
  have : ∀ l : List Lab, (∀ x ∈ l, (partS x).data.toList.length ≤ 133) → (Lib.joinTail [44] ((l.map partS).map (·.data.toList))).length ≤ 134 * l.length := by
    intro l
    induction l with
    | nil => intro _; simp [Lib.joinTail]
    | cons y l ih =>
      intro h
      have h1 := h y (by simp)
      have h2 := ih (fun x hx => h x (by simp [hx]))
      simp only [Lib.joinTail, List.map_cons, List.flatten_cons, List.length_append, List.length_cons, List.length_nil] at h2 ⊢
      omega
  unfold textB
  cases l with
  | nil => simp [Lib.join_nil]
  | cons y l =>
    rw [List.map_cons, List.map_cons, Lib.join_cons, List.length_append]
    have h1 := hp y (by simp)
    have h2 := this l (fun x hx => hp x (by simp [hx]))
    simp only [List.length_cons] at hl
    omega
theorem set_len {l : List Lab} (hs : setB l = true) : 1 ≤ l.length ∧ l.length ≤ 6 := by
  unfold setB at hs; simp only [Bool.and_eq_true, decide_eq_true_eq] at hs; exact hs.1
theorem tx_mk (l : List UInt8) : tx ⟨l.toArray⟩ = l := by simp [tx]
theorem parse_is {t : List UInt8} {cur : List Lab} (h : ParseIs t (some cur)) : setB cur = true ∧ ShortL cur := by
  unfold ParseIs at h
  cases e : readF t with
  | none => rw [e] at h; cases h
  | some l =>
    rw [e] at h
    obtain ⟨c, h1, h2, h3⟩ := h
    cases hc : setB c with
    | false => rw [hc] at h3; cases h3
    | true =>
      rw [hc, if_pos rfl] at h3
      injection h3 with h3
      subst h3
      exact ⟨hc, (readF_some e).1.perm h1⟩
theorem read_nil : readF [] = none := by decide +kernel
/-- Parse of a set's own text. -/
theorem ptext_any {L : List Lab} (hs : setB L = true) (w : World) (hT : Tb w) : Calls Tryd.prog 11 #[.string ⟨(textB L).toArray⟩] w fun e w' =>
    (∃ A c, e = .returned (.tuple #[.slice A L.length c, .int .i64 0]) ∧ L.length ≤ c ∧ Lb w' w'.heap.size A L) ∧ Below w.heap.size w w' := by
  refine (parse_any _ w (by have := text_len hs; rw [size_arr]; omega) hT).mono ?_
  rintro e w1 ⟨hb, r, hr, hm⟩
  rw [tx_mk] at hr
  obtain rfl := parse_text hs hr
  obtain ⟨A, c, he, hc, _, hL⟩ := hm
  exact ⟨⟨A, c, he, hc, hL⟩, hb⟩
theorem pempty_any (w : World) (hT : Tb w) : Calls Tryd.prog 11 #[.string ⟨#[]⟩] w fun e w' => e = .returned (.tuple #[.slice none 0 0, .int .i64 40]) ∧ Below w.heap.size w w' := by
  refine (parse_any _ w (by decide) hT).mono ?_
  rintro e w1 ⟨hb, r, hr, hm⟩
  obtain rfl := parse_bad hr read_nil
  exact ⟨hm, hb⟩
theorem tset_any (A : Option Addr) {L : List Lab} (cap : Nat) (hr : setB L = true) (hs : ∀ x ∈ L, (x.2).size ≤ 1000000) (w : World) (hT : Tb w) (hS : Lb w w.heap.size A L) :
    Calls Tryd.prog 18 #[.slice A L.length cap] w fun e w' => e = .returned (.tuple #[.string ⟨(textB L).toArray⟩, .int .i64 0]) ∧ Below w.heap.size w w' := by
  have := text_any A L cap hs w hT hS
  rwa [if_pos hr] at this
theorem tno_any (A : Option Addr) {L : List Lab} (cap : Nat) (hr : setB L = false) (hs : ∀ x ∈ L, (x.2).size ≤ 1000000) (w : World) (hT : Tb w) (hS : Lb w w.heap.size A L) :
    Calls Tryd.prog 18 #[.slice A L.length cap] w fun e w' => e = .returned (.tuple #[.string ⟨#[]⟩, .int .i64 40]) ∧ Below w.heap.size w w' := by
  have := text_any A L cap hs w hT hS
  rwa [hr, if_neg (by simp)] at this
theorem tempty_any (w : World) (hT : Tb w) : Calls Tryd.prog 18 #[.slice none 0 0] w fun e w' => e = .returned (.tuple #[.string ⟨#[]⟩, .int .i64 40]) ∧ Below w.heap.size w w' :=
  tno_any none (L := []) 0 rfl (fun _ h => by simp at h) w hT Rd.none_
theorem same_self (L : List Lab) : sameL L L = true := by simp [sameL]
set_option maxRecDepth 100000 in
set_option maxHeartbeats 4000000 in
theorem labelBack_walk (A : Option Addr) (l : List Lab) (n cap : Nat) (s : ByteArray) (hk : l.length = min n 10) (hn : n ≤ maxLen) (hs : ∀ x ∈ l, x.1.size ≤ maxLen ∧ x.2.size ≤ maxLen) (hz : s.size ≤ maxLen) (w : World) (hT : Tb w) (hS : Lb w w.heap.size A l) :
    Calls Tryd.prog 4 #[.slice A n cap, .string s] w fun e w' => e = .returned (.bool true) ∧ Below w.heap.size w w' := by
  have HS := Lib.hid hS
  have QF : Hid (∀ w1, Lb w1 w1.heap.size A l → Calls Tryd.prog _ #[.slice A n cap] w1 _) := fun w1 h => few_any A l n cap hk hn hs w1 h
  have HL1 : Hid ((l.map fewL).length ≤ 10) := by show _ ≤ _; rw [List.length_map]; omega
  have Z1 : Hid (∀ x ∈ l.map fewL, x.1.size ≤ 20 ∧ x.2.size ≤ 120) := fun x hx => by
    obtain ⟨y, _, rfl⟩ := List.mem_map.1 hx
    exact fewL_le y
  have QC : Hid (∀ w1, Calls Tryd.prog _ #[.string s] w1 _) := fun w1 => cut_any s w1 hz
  have HC := Lib.hid (cutS_le s)
  have HT := Lib.hid hT
  generalize l.map fewL = L at *
  generalize cutS s = t at *
  clear hT hS hs hk hn hz
  go_enter Tryd.func4, Tryd.ntmps4
  go_wp2_with fail
  refine (shown_any _ HT.out).mono ?_
  rintro e w1 ⟨rfl, hb1⟩
  have HB1 := Lib.hid hb1
  clear hb1
  go_wp2_with fail
  refine (QF.out _ (HS.out.later HB1.out)).mono ?_
  rintro e w2 ⟨⟨A2, c2, rfl, hc2, hL2⟩, hb2⟩
  have HB2 := Lib.hid (Below.two HB1.out hb2)
  have S2 := Lib.hid hL2
  have hl1 := HL1.out
  clear hb2 hL2 HB1 QF HS
  go_wp2_with fail
  cases hr : setB L with
  | false =>
    refine (tno_any A2 c2 hr (fun x hx => by have := Z1.out x hx; omega) _ (HT.out.later HB2.out) S2.out).mono ?_
    rintro e w3 ⟨rfl, hb3⟩
    have HB3 := Lib.hid (Below.two HB2.out hb3)
    clear hb3 HB2 S2
    go_wp2_with fail
    refine (pempty_any _ (HT.out.later HB3.out)).mono ?_
    rintro e w4 ⟨rfl, hb4⟩
    have HB5 := Lib.hid (Below.two HB3.out hb4)
    clear hb4 HB3 hr
    go_wp2_with fail
    refine (QC.out _).mono ?_
    rintro e w6 ⟨rfl, rfl⟩
    go_wp2_with fail
    refine (parse_any t _ (by have := HC.out; omega) (HT.out.later HB5.out)).mono ?_
    rintro e w7 ⟨hb7, r, hp, hm⟩
    have HB7 := Lib.hid (Below.two HB5.out hb7)
    clear hb7 HB5
    cases r with
    | none =>
      simp only at hm
      subst hm
      clear hp
      go_wp2_with fail
      refine (tempty_any _ (HT.out.later HB7.out)).mono ?_
      rintro e w8 ⟨rfl, hb8⟩
      have HB8 := Lib.hid (Below.two HB7.out hb8)
      clear hb8 HB7
      go_wp2_with fail
      refine (pempty_any _ (HT.out.later HB8.out)).mono ?_
      rintro e w9 ⟨rfl, hb9⟩
      have HB9 := Lib.hid (Below.two HB8.out hb9)
      clear hb9 HB8
      go_wp2_with fail
      go_ret
      exact ⟨rfl, HB9.out⟩
    | some cur =>
      obtain ⟨A7, c7, rfl, hc7, _, hL7⟩ := hm
      obtain ⟨hset, hsh⟩ := parse_is hp
      have HSET := Lib.hid hset
      have HSH : Hid (∀ x ∈ cur, x.2.size ≤ 1000000) := fun x hx => by have := (hsh x hx).2; omega
      have hlen := (set_len hset).2
      have S7 := Lib.hid hL7
      clear hp hset hsh hL7
      go_wp2_with fail
      refine (tset_any A7 c7 HSET.out HSH.out _ (HT.out.later HB7.out) S7.out).mono ?_
      rintro e w8 ⟨rfl, hb8⟩
      have HB8 := Lib.hid (Below.two HB7.out hb8)
      have S8 := Lib.hid (S7.out.later hb8)
      clear hb8 HB7 S7
      go_wp2_with fail
      refine (ptext_any HSET.out _ (HT.out.later HB8.out)).mono ?_
      rintro e w9 ⟨⟨A9, c9, rfl, hc9, hL9⟩, hb9⟩
      have HB9 := Lib.hid (Below.two HB8.out hb9)
      have S9 := Lib.hid (S8.out.later hb9)
      have T9 := Lib.hid hL9
      clear hb9 hL9 HB8 S8
      go_wp2_with fail
      refine (right_any A7 cur c7 (fun x hx => by have := HSH.out x hx; omega) _ (HT.out.later HB9.out) S9.out).mono ?_
      rw [HSET.out]
      rintro e w10 ⟨rfl, hb10⟩
      have HB10 := Lib.hid (Below.two HB9.out hb10)
      have S10 := Lib.hid (S9.out.later hb10)
      have T10 := Lib.hid (T9.out.later hb10)
      clear hb10 HB9 S9 T9
      go_wp2_with fail
      refine (rsame_below A9 A7 cur cur c9 c7 (by omega) (by omega) _ T10.out S10.out).mono ?_
      rw [same_self]
      rintro e w11 ⟨rfl, hb11⟩
      have HB11 := Lib.hid (Below.two HB10.out hb11)
      clear hb11 HB10 S10 T10
      go_wp2_with fail
      go_ret
      exact ⟨rfl, HB11.out⟩
  | true =>
    refine (tset_any A2 c2 hr (fun x hx => by have := Z1.out x hx; omega) _ (HT.out.later HB2.out) S2.out).mono ?_
    rintro e w3 ⟨rfl, hb3⟩
    have HB3 := Lib.hid (Below.two HB2.out hb3)
    have S3 := Lib.hid (S2.out.later hb3)
    clear hb3 HB2 S2
    go_wp2_with fail
    refine (ptext_any hr _ (HT.out.later HB3.out)).mono ?_
    rintro e w4 ⟨⟨A4, c4, rfl, hc4, hL4⟩, hb4⟩
    have HB4 := Lib.hid (Below.two HB3.out hb4)
    have S4 := Lib.hid (S3.out.later hb4)
    have T4 := Lib.hid hL4
    clear hb4 hL4 HB3 S3
    go_wp2_with fail
    refine (rsame_below A4 A2 L L c4 c2 (by omega) (by omega) _ T4.out S4.out).mono ?_
    rw [same_self]
    rintro e w5 ⟨rfl, hb5⟩
    have HB5 := Lib.hid (Below.two HB4.out hb5)
    clear hb5 HB4 S4 T4 hr
    go_wp2_with fail
    refine (QC.out _).mono ?_
    rintro e w6 ⟨rfl, rfl⟩
    go_wp2_with fail
    refine (parse_any t _ (by have := HC.out; omega) (HT.out.later HB5.out)).mono ?_
    rintro e w7 ⟨hb7, r, hp, hm⟩
    have HB7 := Lib.hid (Below.two HB5.out hb7)
    clear hb7 HB5
    cases r with
    | none =>
      simp only at hm
      subst hm
      clear hp
      go_wp2_with fail
      refine (tempty_any _ (HT.out.later HB7.out)).mono ?_
      rintro e w8 ⟨rfl, hb8⟩
      have HB8 := Lib.hid (Below.two HB7.out hb8)
      clear hb8 HB7
      go_wp2_with fail
      refine (pempty_any _ (HT.out.later HB8.out)).mono ?_
      rintro e w9 ⟨rfl, hb9⟩
      have HB9 := Lib.hid (Below.two HB8.out hb9)
      clear hb9 HB8
      go_wp2_with fail
      go_ret
      exact ⟨rfl, HB9.out⟩
    | some cur =>
      obtain ⟨A7, c7, rfl, hc7, _, hL7⟩ := hm
      obtain ⟨hset, hsh⟩ := parse_is hp
      have HSET := Lib.hid hset
      have HSH : Hid (∀ x ∈ cur, x.2.size ≤ 1000000) := fun x hx => by have := (hsh x hx).2; omega
      have hlen := (set_len hset).2
      have S7 := Lib.hid hL7
      clear hp hset hsh hL7
      go_wp2_with fail
      refine (tset_any A7 c7 HSET.out HSH.out _ (HT.out.later HB7.out) S7.out).mono ?_
      rintro e w8 ⟨rfl, hb8⟩
      have HB8 := Lib.hid (Below.two HB7.out hb8)
      have S8 := Lib.hid (S7.out.later hb8)
      clear hb8 HB7 S7
      go_wp2_with fail
      refine (ptext_any HSET.out _ (HT.out.later HB8.out)).mono ?_
      rintro e w9 ⟨⟨A9, c9, rfl, hc9, hL9⟩, hb9⟩
      have HB9 := Lib.hid (Below.two HB8.out hb9)
      have S9 := Lib.hid (S8.out.later hb9)
      have T9 := Lib.hid hL9
      clear hb9 hL9 HB8 S8
      go_wp2_with fail
      refine (right_any A7 cur c7 (fun x hx => by have := HSH.out x hx; omega) _ (HT.out.later HB9.out) S9.out).mono ?_
      rw [HSET.out]
      rintro e w10 ⟨rfl, hb10⟩
      have HB10 := Lib.hid (Below.two HB9.out hb10)
      have S10 := Lib.hid (S9.out.later hb10)
      have T10 := Lib.hid (T9.out.later hb10)
      clear hb10 HB9 S9 T9
      go_wp2_with fail
      refine (rsame_below A9 A7 cur cur c9 c7 (by omega) (by omega) _ T10.out S10.out).mono ?_
      rw [same_self]
      rintro e w11 ⟨rfl, hb11⟩
      have HB11 := Lib.hid (Below.two HB10.out hb11)
      clear hb11 HB10 S10 T10
      go_wp2_with fail
      go_ret
      exact ⟨rfl, HB11.out⟩
end Go.Proofs.YtlcpigkgbihebaaDoor

/-
  The walk of the law aviarylaw04.LabelTurns.
-/
import Derived.Test.YtlcpigkgbihebaaDoorLabelBack
namespace Go.Proofs.YtlcpigkgbihebaaDoor
open Go.RowKit
set_option linter.unusedVariables false
set_option linter.unusedSimpArgs false
/-- The text of a list's first labels, the last one first. -/
def revT (l : List Lab) : List UInt8 := textB l.reverse
theorem text_one (x : Lab) : textB [x] = tx (partS x) := by
  unfold textB; rw [List.map_cons, List.map_cons, List.map_nil, List.map_nil, Lib.join_one]; rfl
theorem part_ne (x : Lab) : tx (partS x) ≠ [] := by
  intro e
  have := congrArg List.length e
  rw [tx_len, partS, ByteArray.size_append, ByteArray.size_append] at this
  have h1 : (⟨#[61]⟩ : ByteArray).size = 1 := rfl
  rw [h1] at this
  simp at this
theorem join_cons2 (x : List UInt8) (y : List UInt8) (r : List (List UInt8)) : Lib.join (x :: y :: r) [44] = x ++ ([44] ++ Lib.join (y :: r) [44]) := by
  rw [Lib.join_cons, Lib.join_cons]
  simp [Lib.joinTail]
theorem revT_nil : revT [] = [] := rfl
theorem revT_snoc (l : List Lab) (x : Lab) : revT (l ++ [x]) = tx (partS x) ++ (if l = [] then [] else [44] ++ revT l) := by
  unfold revT
  rw [List.reverse_append, List.reverse_singleton, List.singleton_append]
  cases hl : l.reverse with
  | nil =>
    have : l = [] := by simpa using hl
    rw [if_pos this, List.append_nil]; exact text_one x
  | cons y r =>
    have : l ≠ [] := by rintro rfl; simp at hl
    rw [if_neg this]
    unfold textB
    rw [List.map_cons, List.map_cons, List.map_cons, List.map_cons, join_cons2]; rfl
theorem revT_ne {l : List Lab} (h : l ≠ []) : revT l ≠ [] := by
  rcases List.eq_nil_or_concat l with rfl | ⟨m, x, rfl⟩
  · exact absurd rfl h
  · rw [List.concat_eq_append, revT_snoc]; intro e; exact part_ne x (List.append_eq_nil_iff.1 e).1
theorem revT_len : ∀ (k : Nat) (l : List Lab), l.length = k → (∀ x ∈ l, x.1.size ≤ 12 ∧ (quoB (tx x.2)).length ≤ 120) → (revT l).length ≤ 134 * k
  | 0, l, h, _ => by rw [List.eq_nil_of_length_eq_zero h]; simp [revT_nil]
  | k + 1, l, h, hs => by
    rcases List.eq_nil_or_concat l with rfl | ⟨m, x, rfl⟩
    · simp at h
    · rw [List.concat_eq_append] at h hs ⊢
      have hm : m.length = k := by simpa using h
      have := revT_len k m hm (fun y hy => hs y (List.mem_append_left _ hy))
      obtain ⟨h1, h2⟩ := hs x (by simp)
      have hp : (tx (partS x)).length ≤ 133 := by
        rw [tx_len, partS, ByteArray.size_append, ByteArray.size_append, size_arr (quoB (tx x.2))]
        show x.1.size + 1 + _ ≤ 133
        omega
      rw [revT_snoc, List.length_append]
      split
      · simp; omega
      · rw [List.length_append]; simp; omega
theorem set_one {l : List Lab} (h : setB l = true) {x : Lab} (hx : x ∈ l) : setB [x] = true := by
  obtain ⟨hn, hv⟩ := setB_all h x hx
  have hne : tx x.1 ≠ [] := by
    intro e; rw [e] at hn; simp [nameB] at hn
  unfold setB
  simp only [List.length_cons, List.length_nil, chainB, okStep, hn, hv, Bool.true_and, Bool.and_true]
  have : leqB (tx x.1) [] = false := by
    unfold leqB
    cases e : tx x.1 with
    | nil => exact absurd e hne
    | cons a r => simp [Op.bytesLess]
  rw [this]; rfl
theorem read_rev {l : List Lab} (h : setB l = true) : readF (revT l) = some l.reverse := by
  obtain ⟨h1, h6⟩ := set_len h
  exact read_text (fun x hx => setB_all h x (List.mem_reverse.1 hx)) (by simpa using h1) (by simpa using h6)
theorem parse_rev {l : List Lab} {r : Option (List Lab)} (hs : setB l = true) (h : ParseIs (revT l) r) : r = some l :=
  parse_some h (read_rev hs) (List.reverse_perm l).symm hs
theorem mk_append (a b : List UInt8) : (⟨a.toArray⟩ ++ ⟨b.toArray⟩ : ByteArray) = ⟨(a ++ b).toArray⟩ := by
  apply tx_inj
  rw [tx_append, tx_mk, tx_mk, tx_mk]
set_option maxRecDepth 100000 in
set_option maxHeartbeats 4000000 in
theorem labelTurns_walk (A : Option Addr) (l : List Lab) (n cap : Nat) (hk : l.length = min n 10) (hn : n ≤ maxLen) (hs : ∀ x ∈ l, x.1.size ≤ maxLen ∧ x.2.size ≤ maxLen) (w : World) (hT : Tb w) (hS : Lb w w.heap.size A l) :
    Calls Tryd.prog 5 #[.slice A n cap] w fun e w' => e = .returned (.bool true) ∧ Below w.heap.size w w' := by
  have HS := Lib.hid hS
  have QF : Hid (∀ w1, Lb w1 w1.heap.size A l → Calls Tryd.prog _ #[.slice A n cap] w1 _) := fun w1 h => few_any A l n cap hk hn hs w1 h
  have HL1 : Hid ((l.map fewL).length ≤ 10) := by show _ ≤ _; rw [List.length_map]; omega
  have Z1 : Hid (∀ x ∈ l.map fewL, x.1.size ≤ 20 ∧ x.2.size ≤ 120) := fun x hx => by
    obtain ⟨y, _, rfl⟩ := List.mem_map.1 hx
    exact fewL_le y
  have HT := Lib.hid hT
  generalize l.map fewL = L at *
  clear hT hS hs hk hn
  go_enter Tryd.func5, Tryd.ntmps5
  go_wp2_with fail
  refine (shown_any _ HT.out).mono ?_
  rintro e w1 ⟨rfl, hb1⟩
  have HB1 := Lib.hid hb1
  clear hb1
  go_wp2_with fail
  refine (QF.out _ (HS.out.later HB1.out)).mono ?_
  rintro e w2 ⟨⟨A2, c2, rfl, hc2, hL2⟩, hb2⟩
  have HB2 := Lib.hid (Below.two HB1.out hb2)
  have S2 := Lib.hid hL2
  have hl1 := HL1.out
  clear hb2 hL2 HB1 QF HS
  go_wp2_with fail
  refine (right_any A2 L c2 (fun x hx => by have := (Z1.out x hx).2; omega) _ (HT.out.later HB2.out) S2.out).mono ?_
  rintro e w3 ⟨rfl, hb3⟩
  have HB3 := Lib.hid (Below.two HB2.out hb3)
  have S3 := Lib.hid (S2.out.later hb3)
  clear hb3 HB2 S2
  cases hr : setB L with
  | false =>
    go_wp2_with fail
    go_ret
    exact ⟨rfl, HB3.out⟩
  | true =>
    have HR := Lib.hid hr
    have HT3 := Lib.hid (HT.out.later HB3.out)
    obtain ⟨q1, q6⟩ := set_len hr
    clear hr
    go_wp2_with fail
    go_loopw [4, 5] (fun v i wr => ∃ k : Nat, i = .int .i64 (k : Int) ∧ k ≤ L.length ∧ v = .string ⟨(revT (L.take k)).toArray⟩ ∧ Hid (Below w3.heap.size w3 wr)) (fun _ i _ => L.length - (RowKit.intOf i).toNat)
    case atStart => exact ⟨0, rfl, Nat.zero_le _, rfl, below_0 _⟩
    case round =>
      obtain ⟨k, rfl, hk, rfl, HB⟩ := hrel
      by_cases h1 : k < L.length
      · have d1 : decide ((k : Int) < (L.length : Int)) = true := decide_eq_true (by omega)
        have hm : lth L k ∈ L := mem_lth h1
        have HONE := Lib.hid (set_one HR.out hm)
        have HZ1 : Hid (∀ x ∈ [lth L k], x.2.size ≤ 1000000) := fun x hx => by
          simp at hx; subst hx; have := (Z1.out _ hm).2; omega
        have HTK : Hid (L.take (k + 1) = L.take k ++ [lth L k]) := take_lth_succ h1
        have hlen := revT_len (L.take k).length (L.take k) rfl (fun x hx => set_sizes HR.out x (List.mem_of_mem_take hx))
        rw [List.length_take] at hlen
        have HNE : Hid (L.take k = [] ↔ k = 0) := by
          show _ ↔ _
          rw [← List.length_eq_zero_iff, List.length_take]; omega
        have hpl := text_len HONE.out
        obtain ⟨b, off, rfl, hb, _⟩ := S3.out.at_ (by omega)
        have SD := Lib.hid (((S3.out.drop_ k).take 1).later HB.out)
        have hd1 : (L.drop k).take 1 = [lth L k] := by rw [drop_lth h1]; rfl
        rw [hd1] at SD
        have HS1 := Lib.hid (revT_snoc (L.take k) (lth L k))
        generalize lth L k = x at *
        have hx1 : ([x] : List Lab).length = 1 := rfl
        have QT : Hid (∀ cp, Calls Tryd.prog 18 #[.slice (some ⟨b, off + k * 2, none⟩) 1 cp] wr fun e w' => e = .returned (.tuple #[.string ⟨(tx (partS x)).toArray⟩, .int .i64 0]) ∧ Below wr.heap.size wr w') := fun cp => by
          have := tset_any (some ⟨b, off + k * 2, none⟩) cp HONE.out HZ1.out wr (HT3.out.later HB.out) SD.out
          rw [text_one] at this; exact this
        rw [text_one] at hpl
        have hz1 : (⟨(tx (partS x)).toArray⟩ : ByteArray).size ≤ 1000 := by rw [size_arr]; exact hpl
        have hz2 : (⟨(revT (L.take k)).toArray⟩ : ByteArray).size ≤ 1000 := by rw [size_arr]; omega
        clear hd1 hm hpl hlen HONE HZ1
        have hi1 : (0 : Int) ≤ (k : Int) := by omega
        have hi2 : (k : Int) + 1 ≤ (L.length : Int) := by omega
        have hi3 : (k : Int) + 1 ≤ (c2 : Int) := by omega
        obtain ⟨P, hP⟩ : ∃ P : ByteArray, ⟨(tx (partS x)).toArray⟩ = P := ⟨_, rfl⟩
        obtain ⟨S, hS⟩ : ∃ S : ByteArray, ⟨(revT (L.take k)).toArray⟩ = S := ⟨_, rfl⟩
        rw [hP] at hz1 QT
        rw [hS] at hz2
        rw [hS]
        have hc1 : (⟨#[44]⟩ : ByteArray).size = 1 := rfl
        by_cases hk0 : k = 0
        · have hS0 : S = ⟨#[]⟩ := by rw [← hS, HNE.out.2 hk0]; rfl
          have HFIN : Hid (Value.string (P ++ ⟨#[]⟩) = .string ⟨(revT (L.take (k + 1))).toArray⟩) := by
            show _ = _
            rw [HTK.out, HS1.out, if_pos (HNE.out.2 hk0), List.append_nil, ← hP]
            congr 1
            apply tx_inj
            rw [tx_append]
            show _ ++ [] = _
            rw [List.append_nil]
          have ha1 : Op.stringOp .add P ⟨#[]⟩ = pure (.string (P ++ ⟨#[]⟩)) := stringOp_add (by show P.size + 0 ≤ 1000000; omega)
          clear hP hS hk0 HTK HS1 HNE hz1 hz2
          subst hS0
          go_wp2_with fail
          refine (QT.out _).mono ?_
          rintro e w4 ⟨rfl, hb4⟩
          have HB4 := Lib.hid (Below.two HB.out hb4)
          clear hb4 QT SD HB
          go_wp2_with fail
          go_roundw
          case rel => exact ⟨k + 1, by go_num, by omega, HFIN.out, HB4.out⟩
          case measure => simp [RowKit.intOf]; omega
        · have hne : S.toList ≠ [] := by
            rw [tx_toList, ← hS, tx_mk]
            exact revT_ne (fun e => hk0 (HNE.out.1 e))
          have hne2 : S.toList.isEmpty = false := by
            cases e : S.toList with
            | nil => exact absurd e hne
            | cons a r => rfl
          have HFIN : Hid (Value.string (P ++ (⟨#[44]⟩ ++ S)) = .string ⟨(revT (L.take (k + 1))).toArray⟩) := by
            show _ = _
            rw [HTK.out, HS1.out, if_neg (fun e => hk0 (HNE.out.1 e)), ← hP, ← hS]
            congr 1
          have ha1 : Op.stringOp .add ⟨#[44]⟩ S = pure (.string (⟨#[44]⟩ ++ S)) := stringOp_add (by omega)
          have ha2 : Op.stringOp .add P (⟨#[44]⟩ ++ S) = pure (.string (P ++ (⟨#[44]⟩ ++ S))) := stringOp_add (by rw [ByteArray.size_append]; omega)
          have hne3 : (S.toList == []) = false := by simpa using hne
          clear hP hS hk0 HTK HS1 HNE hz1 hz2
          go_wp2_with fail
          refine (QT.out _).mono ?_
          rintro e w4 ⟨rfl, hb4⟩
          have HB4 := Lib.hid (Below.two HB.out hb4)
          clear hb4 QT SD HB
          go_wp2_with fail
          go_roundw
          case rel => exact ⟨k + 1, by go_num, by omega, HFIN.out, HB4.out⟩
          case measure => simp [RowKit.intOf]; omega
      · have hkk : k = L.length := by omega
        subst hkk
        have d1 : decide ((L.length : Int) < (L.length : Int)) = false := by simp
        have hlen := revT_len L.length L rfl (fun x hx => set_sizes HR.out x hx)
        rw [List.take_length]
        have QP := Lib.hid (parse_any ⟨(revT L).toArray⟩ wr (by rw [size_arr]; omega) (HT3.out.later HB.out))
        have HRV : Hid (∀ r, ParseIs (revT L) r → r = some L) := fun r h => parse_rev HR.out h
        rw [tx_mk] at QP
        generalize (⟨(revT L).toArray⟩ : ByteArray) = S at *
        clear hlen
        go_wp2_with fail
        refine QP.out.mono ?_
        rintro e w4 ⟨hb4, r, hp, hm⟩
        obtain rfl := HRV.out r hp
        obtain ⟨A4, c4, rfl, hc4, _, hL4⟩ := hm
        have S4 := Lib.hid (S3.out.later (Below.two HB.out hb4))
        have T4 := Lib.hid hL4
        have HB4 := Lib.hid (Below.two HB3.out (Below.two HB.out hb4))
        clear hb4 hL4 hp QP
        go_wp2_with fail
        refine (rsame_below A4 A2 L L c4 c2 (by omega) (by omega) _ T4.out S4.out).mono ?_
        rw [same_self]
        rintro e w5 ⟨rfl, hb5⟩
        have HB5 := Lib.hid (Below.two HB4.out hb5)
        clear hb5 HB4 S4 T4
        go_wp2_with fail
        go_ret
        exact ⟨rfl, HB5.out⟩
end Go.Proofs.YtlcpigkgbihebaaDoor

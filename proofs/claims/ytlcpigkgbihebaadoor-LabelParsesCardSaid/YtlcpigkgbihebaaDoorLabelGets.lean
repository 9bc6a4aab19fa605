/-
  The walk of the law aviarylaw04.LabelGets.
-/
import Derived.Test.YtlcpigkgbihebaaDoorLabShown
import Derived.Test.YtlcpigkgbihebaaDoorLabGet
import Derived.Test.YtlcpigkgbihebaaDoorLabFew
namespace Go.Proofs.YtlcpigkgbihebaaDoor
open Go.RowKit
set_option linter.unusedVariables false
set_option linter.unusedSimpArgs false
theorem getL_cons (x : Lab) (l : List Lab) (n : ByteArray) : getL (x :: l) n = if x.1.toList == n.toList then (x.2, true) else getL l n := by
  unfold getL
  rw [List.find?_cons]
  cases e : x.1.toList == n.toList <;> rfl
theorem getL_ahead : ∀ {l : List Lab}, l.Pairwise (fun x y => ahead x y = true) → ∀ k, k < l.length → getL l (lth l k).1 = ((lth l k).2, true)
  | [], _, _, h => by simp at h
  | x :: l, hp, 0, _ => by rw [getL_cons]; simp [lth]
  | x :: l, hp, k + 1, h => by
    have hk : k < l.length := by simpa using h
    have e3 : lth (x :: l) (k + 1) = lth l k := by simp [lth]
    rw [e3, getL_cons]
    have hm : lth l k ∈ l := by simp [lth, hk]
    have ha := (List.pairwise_cons.1 hp).1 _ hm
    have hne : (x.1.toList == (lth l k).1.toList) = false := by
      rw [beq_eq_false_iff_ne]
      intro e
      unfold ahead at ha
      rw [← tx_toList, ← tx_toList, e, lsB_irr] at ha
      cases ha
    rw [hne]
    simpa using getL_ahead (List.pairwise_cons.1 hp).2 k hk
theorem getL_take {l : List Lab} {k : Nat} (h : k < l.length) (n : ByteArray) : (getL (l.take (k + 1)) n).2 = ((getL (l.take k) n).2 || ((lth l k).1.toList == n.toList)) := by
  rw [take_lth_succ h]
  cases e : (getL (l.take k) n).2 with
  | true => rw [getL_more e, e]; rfl
  | false => rw [getL_snoc e]; cases (lth l k).1.toList == n.toList <;> rfl
theorem getL_or (l : List Lab) (n : ByteArray) : ((getL l n).2 || ((getL l n).1.toList == (⟨#[]⟩ : ByteArray).toList)) = true := by
  cases e : (getL l n).2 with
  | true => rfl
  | false => rw [getL_none e]; simp
set_option maxRecDepth 100000 in
set_option maxHeartbeats 4000000 in
theorem labelGets_walk (A : Option Addr) (l : List Lab) (n cap : Nat) (nm : ByteArray) (hk : l.length = min n 10) (hn : n ≤ maxLen) (hs : ∀ x ∈ l, x.1.size ≤ maxLen ∧ x.2.size ≤ maxLen) (w : World) (hT : Tb w) (hS : Lb w w.heap.size A l) :
    Calls Tryd.prog 8 #[.slice A n cap, .string nm] w fun e w' => e = .returned (.bool true) ∧ Below w.heap.size w w' := by
  have HT := Lib.hid hT
  have HS := Lib.hid hS
  have QF : Hid (∀ w1, Lb w1 w1.heap.size A l → Calls Tryd.prog _ #[.slice A n cap] w1 _) := fun w1 h => few_any A l n cap hk hn hs w1 h
  have HLM : Hid ((l.map fewL).length ≤ 10) := by show _ ≤ _; rw [List.length_map]; omega
  have HSZ : Hid (∀ x ∈ l.map fewL, x.1.size ≤ 20 ∧ x.2.size ≤ 120) := fun x hx => by
    obtain ⟨y, _, rfl⟩ := List.mem_map.1 hx
    exact fewL_le y
  generalize l.map fewL = L at *
  clear hT hS hs hk hn
  go_enter Tryd.func8, Tryd.ntmps8
  go_wp2_with fail
  refine (shown_any _ HT.out).mono ?_
  rintro e w1 ⟨rfl, hb1⟩
  have HB1 := Lib.hid hb1
  clear hb1
  go_wp2_with fail
  refine (QF.out _ (HS.out.later HB1.out)).mono ?_
  rintro e w2 ⟨⟨A2, c2, rfl, hc2, hL2⟩, hb2⟩
  have HB2 := Lib.hid (Below.two HB1.out hb2)
  have HL2 := Lib.hid hL2
  have hlen := HLM.out
  clear hb2 hL2 HB1 QF HS
  go_wp2_with fail
  refine (right_any A2 L c2 (fun x hx => by have := (HSZ.out x hx).2; omega) _ (HT.out.later HB2.out) HL2.out).mono ?_
  rintro e w3 ⟨rfl, hb3⟩
  have HB3 := Lib.hid (Below.two HB2.out hb3)
  have HL3 := Lib.hid (HL2.out.later hb3)
  clear hb3 HB2 HL2
  cases hr : setB L with
  | false =>
    go_wp2_with fail
    go_ret
    exact ⟨rfl, HB3.out⟩
  | true =>
    have HG := Lib.hid (getL_ahead (setB_pair hr))
    have HG2 : Hid (∀ k, k < L.length → (getL (L.take (k + 1)) nm).2 = ((getL (L.take k) nm).2 || ((lth L k).1.toList == nm.toList))) := fun k h => getL_take h nm
    have HO := Lib.hid (getL_or L nm)
    clear hr
    go_wp2_with fail
    go_loopw [6, 7] (fun v i wr => ∃ k : Nat, i = .int .i64 (k : Int) ∧ k ≤ L.length ∧ v = .bool (getL (L.take k) nm).2 ∧ Hid (Below w3.heap.size w3 wr)) (fun _ i _ => L.length - (RowKit.intOf i).toNat)
    case atStart => exact ⟨0, rfl, Nat.zero_le _, rfl, below_0 _⟩
    case round =>
      obtain ⟨k, rfl, hk, rfl, HB⟩ := hrel
      by_cases h1 : k < L.length
      · have d1 : decide ((k : Int) < (L.length : Int)) = true := decide_eq_true (by omega)
        obtain ⟨b, off, rfl, hb, hc⟩ := HL3.out.at_ (by omega)
        obtain ⟨c1, c2'⟩ := hc k h1
        have i1 := (HB.out.cell (p := ⟨b, off + k * 2, none⟩) hb).trans c1
        have hi1 : (0 : Int) ≤ (k : Int) := by omega
        have hi2 : (k : Int) < (L.length : Int) := by omega
        have hbw : b < wr.heap.size := by have := HB.out.size; omega
        have HGK := Lib.hid (HG.out k h1)
        have HGT := Lib.hid (HG2.out k h1)
        have C2 := Lib.hid c2'
        clear hc c1 c2'
        go_wp2_with fail
        refine (get_any (some ⟨b, off, none⟩) L c2 (lth L k).1 (by omega) _ (HL3.out.later HB.out)).mono ?_
        rintro e w4 ⟨rfl, hb4⟩
        rw [HGK.out]
        have HB4 := Lib.hid (Below.two HB.out hb4)
        have j1 := (HB4.out.cell (p := ⟨b, off + k * 2, none⟩) hb).trans ((HB.out.cell (p := ⟨b, off + k * 2, none⟩) hb).symm.trans i1)
        have j2 := (HB4.out.cell (p := ⟨b, off + k * 2 + 1, none⟩) hb).trans C2.out
        have hbw4 : b < w4.heap.size := by have := HB4.out.size; omega
        clear hb4 i1
        generalize lth L k = it at *
        obtain ⟨it1, it2⟩ := it
        simp only at j1 j2 HGT
        have e2 : (it2.toList == it2.toList) = true := beq_self_eq_true _
        cases hin : (getL (L.take k) nm).2 with
        | true =>
          have HR : Hid ((getL (L.take (k + 1)) nm).2 = true) := by show _ = _; rw [HGT.out, hin]; rfl
          go_wp2_with fail
          go_roundw
          case rel => exact ⟨k + 1, by go_num, by omega, by rw [HR.out], HB4.out⟩
          case measure => simp [RowKit.intOf]; omega
        | false =>
          have HR : Hid ((getL (L.take (k + 1)) nm).2 = (it1.toList == nm.toList)) := by show _ = _; rw [HGT.out, hin]; rfl
          go_wp2_with fail
          go_roundw
          case rel => exact ⟨k + 1, by go_num, by omega, by rw [HR.out], HB4.out⟩
          case measure => simp [RowKit.intOf]; omega
      · have hkk : k = L.length := by omega
        subst hkk
        have d1 : decide ((L.length : Int) < (L.length : Int)) = false := by simp
        rw [List.take_length]
        go_wp2_with fail
        refine (get_any A2 L c2 nm (by omega) _ (HL3.out.later HB.out)).mono ?_
        rintro e w4 ⟨rfl, hb4⟩
        have HB4 := Lib.hid (Below.two HB3.out (Below.two HB.out hb4))
        clear hb4
        have hor := HO.out
        generalize getL L nm = g at *
        obtain ⟨g1, g2⟩ := g
        simp only at hor
        cases g2 with
        | true =>
          go_wp2_with fail
          go_ret
          exact ⟨rfl, HB4.out⟩
        | false =>
          have e2 : g1.toList = [] := by simpa using hor
          have e3 : g1.toList.isEmpty = true := by rw [e2]; rfl
          have E3 := Lib.hid e3
          clear e2 e3 hor
          go_wp2_with fail
          go_ret
          exact ⟨ret_bool E3.out, HB4.out⟩
end Go.Proofs.YtlcpigkgbihebaaDoor

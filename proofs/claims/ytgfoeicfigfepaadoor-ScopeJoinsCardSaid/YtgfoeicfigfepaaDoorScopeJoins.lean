/-
  The walk of the law aviarylaw05.ScopeJoins.
-/
import Derived.Test.YtgfoeicfigfepaaDoorScShown
namespace Go.Proofs.YtgfoeicfigfepaaDoor
open Go.RowKit
set_option linter.unusedVariables false
set_option linter.unusedSimpArgs false
/-- Does q stand for the text from a byte on? -/
noncomputable def gJ (q v : List UInt8) (k : Nat) : Bool := validL (v.drop k) && fitsF q (v.drop k)
noncomputable def fJ (p v : List UInt8) (i : Nat) : Bool := validL (v.take i) && fitsF p (v.take i)
noncomputable def inJ (q v : List UInt8) (i k : Nat) : Bool := (List.range (k - i)).any fun j => gJ q v (i + j)
noncomputable def outJ (p q v : List UInt8) (i : Nat) : Bool := (List.range i).any fun j => fJ p v j && inJ q v j (v.length + 1)
theorem inJ_self (q v : List UInt8) (i : Nat) : inJ q v i i = false := by unfold inJ; rw [Nat.sub_self]; rfl
theorem inJ_succ {q v : List UInt8} {i k : Nat} (h : i ≤ k) : inJ q v i (k + 1) = (inJ q v i k || gJ q v k) := by
  unfold inJ
  rw [show k + 1 - i = (k - i) + 1 by omega, List.range_succ, List.any_append]
  simp only [List.any_cons, List.any_nil, Bool.or_false]
  rw [show i + (k - i) = k by omega]
theorem outJ_succ (p q v : List UInt8) (i : Nat) : outJ p q v (i + 1) = (outJ p q v i || (fJ p v i && inJ q v i (v.length + 1))) := by
  unfold outJ
  rw [List.range_succ, List.any_append]
  simp only [List.any_cons, List.any_nil, Bool.or_false]
theorem outJ_joins (p q v : List UInt8) : outJ p q v (v.length + 1) = true ↔ Joins p q v := by
  unfold outJ Joins
  rw [List.any_eq_true]
  constructor
  · rintro ⟨i, hi, h⟩
    rw [Bool.and_eq_true] at h
    obtain ⟨h1, h2⟩ := h
    unfold inJ at h2
    rw [List.any_eq_true] at h2
    obtain ⟨j, hj, h3⟩ := h2
    unfold fJ at h1
    unfold gJ at h3
    rw [Bool.and_eq_true] at h1 h3
    rw [List.mem_range] at hi hj
    exact ⟨i, i + j, by omega, by omega, h1.1, h1.2, h3.1, h3.2⟩
  · rintro ⟨i, k, h1, h2, h3, h4, h5, h6⟩
    refine ⟨i, List.mem_range.2 (by omega), ?_⟩
    rw [Bool.and_eq_true]
    refine ⟨by unfold fJ; rw [h3, h4]; rfl, ?_⟩
    unfold inJ
    rw [List.any_eq_true]
    refine ⟨k - i, List.mem_range.2 (by omega), ?_⟩
    unfold gJ
    rw [show i + (k - i) = k by omega, h5, h6]; rfl
theorem runesF_two (l : List UInt8) : ∃ n : Int, runesF l = (n, validL l) := by
  unfold runesF
  cases h : validL l with
  | true => exact ⟨_, rfl⟩
  | false => exact ⟨0, rfl⟩
theorem tx_join (p q : ByteArray) : tx (p ++ ⟨#[42]⟩ ++ q) = tx p ++ 42 :: tx q := by
  unfold tx
  simp [ByteArray.data_append]
set_option maxRecDepth 100000 in
set_option maxHeartbeats 16000000 in
theorem scopeJoins_walk (p0 q0 v0 : ByteArray) (w : World) (hT : Tb w) (hp0 : p0.size ≤ maxLen) (hq0 : q0.size ≤ maxLen) (hv0 : v0.size ≤ maxLen) :
    Calls Tryd.prog 3 #[.string p0, .string q0, .string v0] w fun e w' => e = .returned (.bool true) ∧ Below w.heap.size w w' := by
  have HT := Lib.hid hT
  have QSH := Lib.hid (shown_any w hT)
  unfold maxLen at hp0 hq0 hv0
  obtain ⟨a, ha⟩ : ∃ a : Nat, min p0.size 60 = a := ⟨_, rfl⟩
  obtain ⟨b, hb⟩ : ∃ a : Nat, min q0.size 60 = a := ⟨_, rfl⟩
  obtain ⟨c, hc⟩ : ∃ a : Nat, min v0.size 60 = a := ⟨_, rfl⟩
  have ma : min (p0.size : Int) 60 = (a : Int) := by omega
  have mb : min (q0.size : Int) 60 = (b : Int) := by omega
  have mc : min (v0.size : Int) 60 = (c : Int) := by omega
  have la0 : (0 : Int) ≤ (a : Int) := by omega
  have lb0 : (0 : Int) ≤ (b : Int) := by omega
  have lc0 : (0 : Int) ≤ (c : Int) := by omega
  have la1 : (a : Int) ≤ (p0.size : Int) := by omega
  have lb1 : (b : Int) ≤ (q0.size : Int) := by omega
  have lc1 : (c : Int) ≤ (v0.size : Int) := by omega
  have cut : ∀ (s : ByteArray) (k : Nat), k ≤ 60 → (s.extract 0 k).size ≤ 60 := fun s k h => by
    rw [← tx_len, tx_extract, List.drop_zero, List.length_take]; omega
  have hp := cut p0 a (by omega)
  have hq := cut q0 b (by omega)
  have hv := cut v0 c (by omega)
  clear ha hb hc cut hT
  go_enter Tryd.func3, Tryd.ntmps3
  go_wp2_with fail
  refine QSH.out.mono ?_
  rintro e w1 ⟨rfl, hb1⟩
  have HB1 := Lib.hid hb1
  clear hb1 QSH
  go_wp2_with fail
  generalize p0.extract 0 a = p at *
  generalize q0.extract 0 b = q at *
  generalize v0.extract 0 c = v at *
  have QR : Hid (∀ (s : ByteArray) w1, s.size ≤ 60 → Below w.heap.size w w1 → ∃ n : Int, Calls Tryd.prog 6 #[.string s] w1 fun e w' => e = .returned (.tuple #[.int .i64 n, .bool (validL (tx s))]) ∧ Below w1.heap.size w1 w') := fun s w1 hs hb => by
    obtain ⟨n, hn⟩ := runesF_two (tx s)
    have := runes_any s w1 (by omega) (HT.out.later hb)
    rw [hn] at this
    exact ⟨n, this⟩
  have QI : Hid (∀ (s : ByteArray) w1, s.size ≤ 200 → Below w.heap.size w w1 → Calls Tryd.prog 7 #[.string s] w1 fun e w' => e = .returned (.bool (signsF (tx s)).isSome) ∧ Below w1.heap.size w1 w') := fun s w1 hs hb => isPat_any s w1 (by omega) (HT.out.later hb)
  have QF : Hid (∀ (s t : ByteArray) w1, s.size ≤ 200 → t.size ≤ 60 → Below w.heap.size w w1 → Calls Tryd.prog 8 #[.string s, .string t] w1 fun e w' => e = .returned (.bool (fitsF (tx s) (tx t))) ∧ Below w1.heap.size w1 w') := fun s t w1 hs ht hb => fits_any s t w1 (by omega) (by omega) (HT.out.later hb)
  have j1 : Op.stringOp .add p ⟨#[42]⟩ = pure (.string (p ++ ⟨#[42]⟩)) := stringOp_add (by show p.size + 1 ≤ _; omega)
  have j2 : Op.stringOp .add (p ++ ⟨#[42]⟩) q = pure (.string (p ++ ⟨#[42]⟩ ++ q)) := stringOp_add (by rw [ByteArray.size_append]; show p.size + 1 + q.size ≤ _; omega)
  have hall : (p ++ ⟨#[42]⟩ ++ q).size ≤ 200 := by rw [ByteArray.size_append, ByteArray.size_append]; show p.size + 1 + q.size ≤ _; omega
  have HJ : Hid ((signsF (tx p)).isSome = true → (signsF (tx q)).isSome = true → (signsF (tx (p ++ ⟨#[42]⟩ ++ q))).isSome = true → validL (tx v) = true → fitsF (tx (p ++ ⟨#[42]⟩ ++ q)) (tx v) = outJ (tx p) (tx q) (tx v) ((tx v).length + 1)) := fun h1 h2 h3 h4 => by
    rw [tx_join] at h3 ⊢
    exact bool_iff ((scope_joins h1 h2 h3 h4).trans (outJ_joins _ _ _).symm)
  obtain ⟨r0, Q0⟩ := QR.out v w1 hv HB1.out
  have hvn : (tx v).length = v.size := tx_len v
  clear HT ma mb mc la0 lb0 lc0 la1 lb1 lc1 hp0 hq0 hv0
  refine Q0.mono ?_
  rintro e w2 ⟨rfl, hb2⟩
  have HB2 : Hid (Below w.heap.size w w2) := HB1.out.trans (hb2.mono HB1.out.size)
  clear hb2 Q0 HB1
  have QP := Lib.hid (QI.out p w2 (by omega) HB2.out)
  cases hval : validL (tx v) with
  | false =>
    clear QP QI QF QR HJ
    go_wp2_with fail
    go_ret
    exact ⟨rfl, HB2.out⟩
  | true =>
    cases h1 : (signsF (tx p)).isSome with
    | false =>
      rw [h1] at QP
      clear QI QF QR HJ
      go_wp2_with fail
      refine QP.out.mono ?_
      rintro e w3 ⟨rfl, hb3⟩
      go_wp2_with fail
      go_ret
      exact ⟨rfl, HB2.out.trans (hb3.mono HB2.out.size)⟩
    | true =>
      rw [h1] at QP
      go_wp2_with fail
      refine QP.out.mono ?_
      rintro e w3 ⟨rfl, hb3⟩
      have HB3 : Hid (Below w.heap.size w w3) := HB2.out.trans (hb3.mono HB2.out.size)
      clear hb3 QP HB2
      have QQ := Lib.hid (QI.out q w3 (by omega) HB3.out)
      cases h2 : (signsF (tx q)).isSome with
      | false =>
        rw [h2] at QQ
        clear QI QF QR HJ
        go_wp2_with fail
        refine QQ.out.mono ?_
        rintro e w4 ⟨rfl, hb4⟩
        go_wp2_with fail
        go_ret
        exact ⟨rfl, HB3.out.trans (hb4.mono HB3.out.size)⟩
      | true =>
        rw [h2] at QQ
        go_wp2_with fail
        refine QQ.out.mono ?_
        rintro e w4 ⟨rfl, hb4⟩
        have HB4 : Hid (Below w.heap.size w w4) := HB3.out.trans (hb4.mono HB3.out.size)
        clear hb4 QQ HB3
        have QA := Lib.hid (QI.out _ w4 hall HB4.out)
        cases h3 : (signsF (tx (p ++ ⟨#[42]⟩ ++ q))).isSome with
        | false =>
          rw [h3] at QA
          clear QI QF QR HJ
          go_wp2_with fail
          refine QA.out.mono ?_
          rintro e w5 ⟨rfl, hb5⟩
          go_wp2_with fail
          go_ret
          exact ⟨rfl, HB4.out.trans (hb5.mono HB4.out.size)⟩
        | true =>
          rw [h3] at QA
          have HR := Lib.hid (HJ.out h1 h2 h3 hval)
          clear h1 h2 h3 hval QI HJ j1 j2
          go_wp2_with fail
          refine QA.out.mono ?_
          rintro e w5 ⟨rfl, hb5⟩
          have HB5 : Hid (Below w.heap.size w w5) := HB4.out.trans (hb5.mono HB4.out.size)
          clear hb5 QA HB4
          generalize p ++ ⟨#[42]⟩ ++ q = all at *
          go_wp2_with fail
          go_loopw [11, 12] (fun s i wr => ∃ k : Nat, s = .bool (outJ (tx p) (tx q) (tx v) k) ∧ i = .int .i64 (k : Int) ∧ k ≤ v.size + 1 ∧ Hid (Below w.heap.size w wr)) (fun _ i _ => v.size + 1 - (RowKit.intOf i).toNat)
          case atStart => exact ⟨0, rfl, rfl, Nat.zero_le _, HB5.out⟩
          case round =>
            obtain ⟨k, rfl, rfl, hk, HB⟩ := hrel
            have lk0 : (0 : Int) ≤ (k : Int) := by omega
            by_cases hkv : k ≤ v.size
            · have d1 : decide ((k : Int) ≤ (v.size : Int)) = true := decide_eq_true (by omega)
              have lk1 : (k : Int) ≤ (v.size : Int) := by omega
              have ht : tx (v.extract 0 k) = (tx v).take k := by rw [tx_extract, List.drop_zero]
              have hts : (v.extract 0 k).size ≤ 60 := by rw [← tx_len, ht, List.length_take]; omega
              obtain ⟨n1, Q1⟩ := QR.out (v.extract 0 k) wr hts HB.out
              have HFJ : Hid (outJ (tx p) (tx q) (tx v) (k + 1) = (outJ (tx p) (tx q) (tx v) k || ((validL (tx (v.extract 0 k)) && fitsF (tx p) (tx (v.extract 0 k))) && inJ (tx q) (tx v) k ((tx v).length + 1)))) := by show _ = _; rw [outJ_succ, ht]; rfl
              have QFK : Hid (∀ w1, Below w.heap.size w w1 → Calls Tryd.prog 8 #[.string p, .string (v.extract 0 k)] w1 fun e w' => e = .returned (.bool (fitsF (tx p) (tx (v.extract 0 k)))) ∧ Below w1.heap.size w1 w') := fun w1 hb => QF.out p _ w1 (by omega) hts hb
              rw [hvn] at HFJ
              have HQ1 := Lib.hid Q1
              clear ht hts Q1
              cases hv1 : validL (tx (v.extract 0 k)) with
              | false =>
                rw [hv1] at HFJ HQ1
                have HN : Hid (outJ (tx p) (tx q) (tx v) (k + 1) = outJ (tx p) (tx q) (tx v) k) := by show _ = _; rw [HFJ.out]; simp
                clear hv1 HFJ QFK
                generalize outJ (tx p) (tx q) (tx v) k = ob at *
                go_wp2_with fail
                refine HQ1.out.mono ?_
                rintro e w6 ⟨rfl, hb6⟩
                have HB6 : Hid (Below w.heap.size w w6) := HB.out.trans (hb6.mono HB.out.size)
                clear hb6 HQ1
                go_wp2_with fail
                go_roundw
                case rel => exact ⟨k + 1, by rw [HN.out], by go_num, by omega, HB6.out⟩
                case measure => simp [RowKit.intOf]; omega
              | true =>
                cases hf1 : fitsF (tx p) (tx (v.extract 0 k)) with
                | false =>
                  rw [hv1, hf1] at HFJ
                  rw [hv1] at HQ1
                  rw [hf1] at QFK
                  have HN : Hid (outJ (tx p) (tx q) (tx v) (k + 1) = outJ (tx p) (tx q) (tx v) k) := by show _ = _; rw [HFJ.out]; simp
                  clear hv1 hf1 HFJ
                  generalize outJ (tx p) (tx q) (tx v) k = ob at *
                  go_wp2_with fail
                  refine HQ1.out.mono ?_
                  rintro e w6 ⟨rfl, hb6⟩
                  have HB6 : Hid (Below w.heap.size w w6) := HB.out.trans (hb6.mono HB.out.size)
                  have QF6 := Lib.hid (QFK.out w6 HB6.out)
                  clear hb6 HQ1 QFK
                  go_wp2_with fail
                  refine QF6.out.mono ?_
                  rintro e w7 ⟨rfl, hb7⟩
                  have HB7 : Hid (Below w.heap.size w w7) := HB6.out.trans (hb7.mono HB6.out.size)
                  clear hb7 QF6
                  go_wp2_with fail
                  go_roundw
                  case rel => exact ⟨k + 1, by rw [HN.out], by go_num, by omega, HB7.out⟩
                  case measure => simp [RowKit.intOf]; omega
                | true =>
                  rw [hv1, hf1] at HFJ
                  rw [hv1] at HQ1
                  rw [hf1] at QFK
                  simp only [Bool.and_self, Bool.true_and] at HFJ
                  have HO := Lib.hid HFJ.out
                  clear hv1 hf1 HFJ
                  generalize hob : outJ (tx p) (tx q) (tx v) k = ob at *
                  go_wp2_with fail
                  refine HQ1.out.mono ?_
                  rintro e w6 ⟨rfl, hb6⟩
                  have HB6 : Hid (Below w.heap.size w w6) := HB.out.trans (hb6.mono HB.out.size)
                  have QF6 := Lib.hid (QFK.out w6 HB6.out)
                  clear hb6 HQ1 QFK
                  go_wp2_with fail
                  refine QF6.out.mono ?_
                  rintro e w7 ⟨rfl, hb7⟩
                  have HB7 : Hid (Below w.heap.size w w7) := HB6.out.trans (hb7.mono HB6.out.size)
                  clear hb7 QF6
                  go_wp2_with fail
                  go_loopw [11, 15] (fun s i wt => ∃ m : Nat, s = .bool (ob || inJ (tx q) (tx v) k m) ∧ i = .int .i64 (m : Int) ∧ k ≤ m ∧ m ≤ v.size + 1 ∧ Hid (Below w.heap.size w wt)) (fun _ i _ => v.size + 1 - (RowKit.intOf i).toNat)
                  case atStart => exact ⟨k, by rw [inJ_self, Bool.or_false], rfl, Nat.le_refl _, hk, HB7.out⟩
                  case round =>
                    obtain ⟨m, rfl, rfl, hkm, hm, HC⟩ := hrel
                    have lm0 : (0 : Int) ≤ (m : Int) := by omega
                    by_cases hmv : m ≤ v.size
                    · have d2 : decide ((m : Int) ≤ (v.size : Int)) = true := decide_eq_true (by omega)
                      have lm1 : (m : Int) ≤ (v.size : Int) := by omega
                      have ht : tx (v.extract m v.size) = (tx v).drop m := by rw [tx_extract, List.take_of_length_le (by rw [tx_len]; exact Nat.le_refl _)]
                      have hts : (v.extract m v.size).size ≤ 60 := by rw [← tx_len, ht, List.length_drop, tx_len]; omega
                      obtain ⟨n2, Q2⟩ := QR.out (v.extract m v.size) wr hts HC.out
                      have HI2 : Hid (inJ (tx q) (tx v) k (m + 1) = (inJ (tx q) (tx v) k m || (validL (tx (v.extract m v.size)) && fitsF (tx q) (tx (v.extract m v.size))))) := by show _ = _; rw [inJ_succ hkm, ht]; rfl
                      have QFM : Hid (∀ w1, Below w.heap.size w w1 → Calls Tryd.prog 8 #[.string q, .string (v.extract m v.size)] w1 fun e w' => e = .returned (.bool (fitsF (tx q) (tx (v.extract m v.size)))) ∧ Below w1.heap.size w1 w') := fun w1 hb => QF.out q _ w1 (by omega) hts hb
                      have HQ2 := Lib.hid Q2
                      clear ht hts Q2
                      have HN0 : Hid (∀ g, (validL (tx (v.extract m v.size)) && fitsF (tx q) (tx (v.extract m v.size))) = g → (ob || inJ (tx q) (tx v) k (m + 1)) = ((ob || inJ (tx q) (tx v) k m) || g)) := fun g hg => by rw [HI2.out, hg, Bool.or_assoc]
                      clear HI2 HO QR QF HR hob
                      generalize (ob || inJ (tx q) (tx v) k m) = o at *
                      cases o with
                      | true =>
                        have HN : Hid ((ob || inJ (tx q) (tx v) k (m + 1)) = true) := by show _ = _; rw [HN0.out _ rfl, Bool.true_or]
                        clear HN0 QFM
                        cases hv2 : validL (tx (v.extract m v.size))
                        all_goals
                          rw [hv2] at HQ2
                          go_wp2_with fail
                          refine HQ2.out.mono ?_
                          rintro e w8 ⟨rfl, hb8⟩
                          have HB8 : Hid (Below w.heap.size w w8) := HC.out.trans (hb8.mono HC.out.size)
                          clear hb8 HQ2
                          go_wp2_with fail
                          go_roundw
                          case rel => exact ⟨m + 1, by rw [HN.out], by go_num, by omega, by omega, HB8.out⟩
                          case measure => simp [RowKit.intOf]; omega
                      | false =>
                        cases hv2 : validL (tx (v.extract m v.size)) with
                        | false =>
                          have HN : Hid ((ob || inJ (tx q) (tx v) k (m + 1)) = false) := by show _ = _; rw [HN0.out false (by rw [hv2]; rfl)]; rfl
                          rw [hv2] at HQ2
                          clear HN0 QFM
                          go_wp2_with fail
                          refine HQ2.out.mono ?_
                          rintro e w8 ⟨rfl, hb8⟩
                          have HB8 : Hid (Below w.heap.size w w8) := HC.out.trans (hb8.mono HC.out.size)
                          clear hb8 HQ2
                          go_wp2_with fail
                          go_roundw
                          case rel => exact ⟨m + 1, by rw [HN.out], by go_num, by omega, by omega, HB8.out⟩
                          case measure => simp [RowKit.intOf]; omega
                        | true =>
                          rw [hv2] at HQ2
                          cases hf2 : fitsF (tx q) (tx (v.extract m v.size)) with
                          | false =>
                            have HN : Hid ((ob || inJ (tx q) (tx v) k (m + 1)) = false) := by show _ = _; rw [HN0.out false (by rw [hv2, hf2]; rfl)]; rfl
                            rw [hf2] at QFM
                            clear HN0
                            go_wp2_with fail
                            refine HQ2.out.mono ?_
                            rintro e w8 ⟨rfl, hb8⟩
                            have HB8 : Hid (Below w.heap.size w w8) := HC.out.trans (hb8.mono HC.out.size)
                            have QF8 := Lib.hid (QFM.out w8 HB8.out)
                            clear hb8 HQ2 QFM
                            go_wp2_with fail
                            refine QF8.out.mono ?_
                            rintro e w9 ⟨rfl, hb9⟩
                            have HB9 : Hid (Below w.heap.size w w9) := HB8.out.trans (hb9.mono HB8.out.size)
                            clear hb9 QF8
                            go_wp2_with fail
                            go_roundw
                            case rel => exact ⟨m + 1, by rw [HN.out], by go_num, by omega, by omega, HB9.out⟩
                            case measure => simp [RowKit.intOf]; omega
                          | true =>
                            have HN : Hid ((ob || inJ (tx q) (tx v) k (m + 1)) = true) := by show _ = _; rw [HN0.out true (by rw [hv2, hf2]; rfl)]; rfl
                            rw [hf2] at QFM
                            clear HN0
                            go_wp2_with fail
                            refine HQ2.out.mono ?_
                            rintro e w8 ⟨rfl, hb8⟩
                            have HB8 : Hid (Below w.heap.size w w8) := HC.out.trans (hb8.mono HC.out.size)
                            have QF8 := Lib.hid (QFM.out w8 HB8.out)
                            clear hb8 HQ2 QFM
                            go_wp2_with fail
                            refine QF8.out.mono ?_
                            rintro e w9 ⟨rfl, hb9⟩
                            have HB9 : Hid (Below w.heap.size w w9) := HB8.out.trans (hb9.mono HB8.out.size)
                            clear hb9 QF8
                            go_wp2_with fail
                            go_roundw
                            case rel => exact ⟨m + 1, by rw [HN.out], by go_num, by omega, by omega, HB9.out⟩
                            case measure => simp [RowKit.intOf]; omega
                    · have hkk : v.size + 1 = m := by omega
                      have d2 : decide ((m : Int) ≤ (v.size : Int)) = false := decide_eq_false (by omega)
                      rw [hkk] at HO
                      generalize inJ (tx q) (tx v) k m = ib at *
                      go_wp2_with fail
                      go_roundw
                      case rel => exact ⟨k + 1, by rw [HO.out], by go_num, by omega, HC.out⟩
                      case measure => simp [RowKit.intOf]; omega
            · have hkk : v.size + 1 = k := by omega
              have d1 : decide ((k : Int) ≤ (v.size : Int)) = false := decide_eq_false (by omega)
              have QL := Lib.hid (QF.out all v wr hall hv HB.out)
              rw [HR.out, hvn, hkk] at QL
              clear QF QR HR
              generalize outJ (tx p) (tx q) (tx v) k = ob at *
              cases ob
              all_goals
                go_wp2_with fail
                refine QL.out.mono ?_
                rintro e w6 ⟨rfl, hb6⟩
                go_wp2_with fail
                go_ret
                exact ⟨rfl, HB.out.trans (hb6.mono HB.out.size)⟩
end Go.Proofs.YtgfoeicfigfepaaDoor

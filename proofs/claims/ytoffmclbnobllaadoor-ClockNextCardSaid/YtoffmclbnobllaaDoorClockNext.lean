/-
  The walk of the law aviarylaw14.ClockNext.
-/
import Derived.Test.YtoffmclbnobllaaDoorCkStart
namespace Go.Proofs.YtoffmclbnobllaaDoor
open Go.RowKit
set_option linter.unusedVariables false
set_option linter.unusedSimpArgs false
theorem nextF_zero {life : Int} {t : List Ser} : (nextF life t).2 = false → (nextF life t).1 = 0 := by
  have go : ∀ (t : List Ser) (p : Int × Bool), (p.2 = false → p.1 = 0) → (t.foldl (nextS life) p).2 = false → (t.foldl (nextS life) p).1 = 0 := by
    intro t
    induction t with
    | nil => intro p h; exact h
    | cons s t ih =>
      intro p h
      rw [List.foldl_cons]
      refine ih _ ?_
      unfold nextS
      split
      · exact h
      · split
        · intro e; cases e
        · exact h
  exact go t (0, false) (fun _ => rfl)
set_option maxRecDepth 100000 in
set_option maxHeartbeats 8000000 in
theorem clockNext_walk (A : Option Addr) (ms : List SerM) (n cap : Nat) (now life : Int) (u1 : U now) (u2 : U life) (hk : ms.length = min n 22) (hn : n ≤ maxLen) (hf : ∀ m ∈ ms, RawFit m) (w : World) (hT : Tb w) (hS : Tab w w.heap.size A ms) :
    Calls Tryd.prog 5 #[.slice A n cap, .int .u64 now, .int .u64 life] w fun e w' => e = .returned (.bool true) ∧ Below w.heap.size w w' := by
  have HT := Lib.hid hT
  have QF : Hid (∀ w1, Tab w1 w1.heap.size A ms → Calls Tryd.prog _ #[.slice A n cap] w1 _) := fun w1 h => few_tab A ms n cap hk hn hf w1 h
  have HS := Lib.hid hS
  have U1 := Lib.hid u1
  have U2 := Lib.hid u2
  clear hT hS hf hk hn u1 u2
  go_enter Tryd.func5, Tryd.ntmps5
  go_wp2_with fail
  refine (shown_any _).mono ?_
  rintro e w1 ⟨rfl, hb1⟩
  go_wp2_with fail
  refine (QF.out _ (HS.out.later hb1)).mono ?_
  clear QF HS
  rintro e w2 ⟨hb2, A1, c1, cs, rfl, hl22, hfit, ho⟩
  have HO := Lib.hid ho
  have HF := Lib.hid hfit
  have HB2 : Hid (Below w.heap.size w w2) := hb1.trans (hb2.mono hb1.size)
  clear ho hfit hb1 hb2
  have QE : Hid (∀ now life w1, U now → Below w2.heap.size w2 w1 → Calls Tryd.prog _ #[.slice A1 cs.length c1, .int .u64 now, .int .u64 life] w1 (ExpRet w1 (cs.map (·.s)) now life)) := fun now life w1 hu hb =>
    expire_any A1 cs c1 now life hu (by omega) HF.out w1 ((HT.out.later HB2.out).later hb) (HO.out.tab.later hb)
  have QR : Hid (∀ w1, Below w2.heap.size w2 w1 → Calls Tryd.prog _ #[.slice A1 cs.length c1] w1 _) := fun w1 hb => sright_any A1 cs c1 (by omega) HF.out w1 ((HT.out.later HB2.out).later hb) (HO.out.tab.later hb)
  have QN : Hid (∀ w1, Below w2.heap.size w2 w1 → Calls Tryd.prog _ #[.slice A1 cs.length c1, .int .u64 life] w1 _) := fun w1 hb => next_any A1 cs c1 life U2.out (by omega) HF.out w1 ((HT.out.later HB2.out).later hb) (HO.out.tab.later hb)
  have HU : Hid (∀ s ∈ cs.map (·.s), U s.seen) := fun s hs => by
    obtain ⟨m, hm, rfl⟩ := List.mem_map.1 hs
    exact (HF.out m hm).seen
  clear HF HO HT hl22
  generalize cs.length = L at *
  generalize cs.map (·.s) = T at *
  go_wp2_with fail
  refine (QR.out w2 (Below.refl _ _)).mono ?_
  rintro e w3 ⟨rfl, hb3⟩
  have HB3 : Hid (Below w.heap.size w w3) := HB2.out.trans (hb3.mono HB2.out.size)
  have B3 := Lib.hid hb3
  clear hb3 HB2 QR
  cases hr : rightT T with
  | false =>
    clear QE QN B3 HU
    go_wp2_with fail
    go_ret
    exact ⟨rfl, HB3.out⟩
  | true =>
    go_wp2_with fail
    refine (QN.out w3 B3.out).mono ?_
    rintro e w4 ⟨h4, hb4⟩
    rw [hr, if_pos rfl] at h4
    subst h4
    have HB4 : Hid (Below w.heap.size w w4) := HB3.out.trans (hb4.mono HB3.out.size)
    have B4 : Hid (Below w2.heap.size w2 w4) := B3.out.trans (hb4.mono B3.out.size)
    clear hb4 HB3 B3 QN
    have NI := Lib.hid (nextF_is U2.out T HU.out)
    have N0 := Lib.hid (fun h => next_none (now := now) U1.out HU.out U2.out h)
    have N1 := Lib.hid (fun h => next_some (now := now) U1.out HU.out U2.out h)
    have N2 := Lib.hid (fun h => next_some (now := (nextF life T).1) (NI.out.2 h).1 HU.out U2.out h)
    have UN : Hid (U (nextF life T).1) := by
      cases h : (nextF life T).2 with
      | true => exact (NI.out.2 h).1
      | false => rw [nextF_zero h]; exact ⟨by decide, by decide⟩
    clear NI HU
    generalize nextF life T = p at *
    obtain ⟨next, ok⟩ := p
    go_wp2_with fail
    refine (QE.out _ _ w4 U1.out B4.out).mono ?_
    rintro e w5 ⟨hb5, h5⟩
    rw [hr, if_pos rfl] at h5
    obtain ⟨A5, n5, c5, cs5, hn5, rfl, hm5, _⟩ := h5
    have HB5 : Hid (Below w.heap.size w w5) := HB4.out.trans (hb5.mono HB4.out.size)
    have B5 : Hid (Below w2.heap.size w2 w5) := B4.out.trans (hb5.mono B4.out.size)
    have E5 : Hid (n5 = (T.filter (freshF now life)).length) := by show _ = _; rw [← hm5, List.length_map]; exact hn5
    clear hb5 HB4 B4 hn5 hm5
    go_wp2_with fail
    refine (QE.out _ _ w5 UN.out B5.out).mono ?_
    rintro e w6 ⟨hb6, h6⟩
    rw [hr, if_pos rfl] at h6
    obtain ⟨A6, n6, c6, cs6, hn6, rfl, hm6, _⟩ := h6
    have HB6 : Hid (Below w.heap.size w w6) := HB5.out.trans (hb6.mono HB5.out.size)
    have E6 : Hid (n6 = (T.filter (freshF next life)).length) := by show _ = _; rw [← hm6, List.length_map]; exact hn6
    clear hb6 HB5 B5 hn6 hm6 QE UN
    cases ok with
    | false =>
      have q5 : n5 = T.length := E5.out.trans (N0.out rfl)
      clear N0 N1 N2 E5 E6
      subst q5
      have z1 : (T.length : Int) - (T.length : Int) = 0 := by omega
      go_wp2_with fail
      go_ret
      exact ⟨rfl, HB6.out⟩
    | true =>
      have q5 := N1.out rfl
      have q6 := (N2.out rfl).2 (Int.le_refl _)
      rw [← E5.out] at q5
      rw [← E6.out] at q6
      clear N0 N1 N2 E5 E6
      generalize T.length = m at *
      have k6 : n6 < m := q6
      have d6 : decide (n6 < m) = true := decide_eq_true k6
      have d6' : decide ((0 : Int) < (m : Int) - (n6 : Int)) = true := decide_eq_true (by omega)
      clear q6 k6
      by_cases hc : next ≤ now
      · have k5 := q5.2 hc
        have d5 : decide (n5 < m) = true := decide_eq_true k5
        have d5' : decide ((0 : Int) < (m : Int) - (n5 : Int)) = true := decide_eq_true (by omega)
        have d4 : decide (next ≤ now) = true := decide_eq_true hc
        clear q5 k5 hc
        go_wp2_with fail
        go_ret
        exact ⟨rfl, HB6.out⟩
      · have k5 : ¬ n5 < m := fun h => hc (q5.1 h)
        have d5 : decide (n5 < m) = false := decide_eq_false k5
        have d5' : decide ((0 : Int) < (m : Int) - (n5 : Int)) = false := decide_eq_false (by omega)
        have d4 : decide (next ≤ now) = false := decide_eq_false hc
        clear q5 k5 hc
        go_wp2_with fail
        go_ret
        exact ⟨rfl, HB6.out⟩
end Go.Proofs.YtoffmclbnobllaaDoor

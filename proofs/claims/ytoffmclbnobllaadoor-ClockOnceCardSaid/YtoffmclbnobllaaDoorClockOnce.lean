/-
  The walk of the law aviarylaw14.ClockOnce.
-/
import Derived.Test.YtoffmclbnobllaaDoorClockParts
namespace Go.Proofs.YtoffmclbnobllaaDoor
open Go.RowKit
set_option linter.unusedVariables false
set_option linter.unusedSimpArgs false
set_option maxRecDepth 100000 in
set_option maxHeartbeats 8000000 in
theorem clockOnce_walk (A : Option Addr) (ms : List SerM) (n cap : Nat) (now life : Int) (u1 : U now) (u2 : U life) (hk : ms.length = min n 22) (hn : n ≤ maxLen) (hf : ∀ m ∈ ms, RawFit m) (w : World) (hT : Tb w) (hS : Tab w w.heap.size A ms) :
    Calls Tryd.prog 6 #[.slice A n cap, .int .u64 now, .int .u64 life] w fun e w' => e = .returned (.bool true) ∧ Below w.heap.size w w' := by
  have HT := Lib.hid hT
  have QF : Hid (∀ w1, Tab w1 w1.heap.size A ms → Calls Tryd.prog _ #[.slice A n cap] w1 _) := fun w1 h => few_tab A ms n cap hk hn hf w1 h
  have HS := Lib.hid hS
  have M1 := Lib.hid u1
  clear hT hS hf hk hn u1 u2
  go_enter Tryd.func6, Tryd.ntmps6
  go_wp2_with fail
  refine (shown_any _).mono ?_
  rintro e w1 ⟨rfl, hb1⟩
  go_wp2_with fail
  refine (QF.out _ (HS.out.later hb1)).mono ?_
  clear QF HS
  rintro e w2 ⟨hb2, A1, c1, cs, rfl, hl22, hfit, ho⟩
  have HO := Lib.hid ho
  have HF := Lib.hid hfit
  have HB2 : Hid (Below w.heap.size w w2) := hb1.trans (hb2.mono hb1.size)
  clear ho hfit hb1 hb2
  go_wp2_with fail
  refine (expire_any A1 cs c1 now life M1.out (by omega) HF.out w2 (HT.out.later HB2.out) HO.out.tab).mono ?_
  rintro e w3 ⟨hb3, h3⟩
  have B3 := Lib.hid hb3
  have HB3 : Hid (Below w.heap.size w w3) := HB2.out.trans (hb3.mono HB2.out.size)
  clear hb3
  cases hr : rightT (cs.map (·.s)) with
  | false =>
    rw [hr, if_neg (by decide)] at h3
    subst h3
    have QR := Lib.hid (sright_any A1 cs c1 (by omega) HF.out w3 (HT.out.later HB3.out) (HO.out.tab.later B3.out))
    rw [hr] at QR
    clear HF HO HT HB2 B3 M1 hr
    generalize cs.length = m at *
    go_wp2_with fail
    refine QR.out.mono ?_
    rintro e w4 ⟨rfl, hb4⟩
    have HB4 : Hid (Below w.heap.size w w4) := HB3.out.trans (hb4.mono HB3.out.size)
    clear hb4 QR HB3
    go_wp2_with fail
    go_ret
    exact ⟨rfl, HB4.out⟩
  | true =>
    rw [hr, if_pos rfl] at h3
    obtain ⟨A3, n3, c3, cs3, hn3, rfl, hm3, ho3⟩ := h3
    subst hn3
    have F3 := Lib.hid (tab_part HF.out hm3)
    have L3 := len_part hm3
    have R3 : Hid (rightT (cs3.map (·.s)) = true) := by show _ = _; rw [hm3]; exact rightT_filter _ hr
    have Q2 : Hid (Calls Tryd.prog _ #[.slice A3 cs3.length c3, .int .u64 now, .int .u64 life] w3 (ExpRet w3 (cs3.map (·.s)) now life)) :=
      expire_any A3 cs3 c3 now life M1.out (by omega) F3.out w3 (HT.out.later HB3.out) ho3.tab
    have E3 := Lib.hid hm3
    have NS : Hid (∀ m ∈ cs3, staleF m.s.seen now life = false) := fun m hm =>
      filter_fresh now life (cs.map (·.s)) m.s (by rw [← E3.out]; exact List.mem_map.2 ⟨m, hm, rfl⟩)
    have T3 := Lib.hid ho3.tab
    clear ho3 hm3 HO HF HB2 B3 hr
    go_wp2_with fail
    refine Q2.out.mono ?_
    clear Q2
    rintro e w4 ⟨hb4, h4⟩
    rw [R3.out, if_pos rfl] at h4
    obtain ⟨A4, n4, c4, cs4, hn4, rfl, hm4, ho4⟩ := h4
    subst hn4
    have F4 := Lib.hid (tab_part F3.out hm4)
    have hq : cs4.map (·.s) = cs3.map (·.s) := by
      rw [hm4, E3.out]
      exact filter_two (fun s h => h) _
    have hlen : cs4.length = cs3.length := by
      have := congrArg List.length hq
      simpa using this
    have HB4 : Hid (Below w.heap.size w w4) := HB3.out.trans (hb4.mono HB3.out.size)
    have QS : Hid (∀ w5, Below w4.heap.size w4 w5 → Calls Tryd.prog _ #[.slice A3 cs3.length c3, .slice A4 cs4.length c4] w5 fun e w' => e = .returned (.bool true) ∧ Below w5.heap.size w5 w') := fun w5 hb => by
      have h := ssame_any A3 A4 cs3 cs4 c3 c4 (by omega) (by omega) F3.out F4.out w5 ((T3.out.later hb4).later hb) (ho4.tab.later hb)
      have e : sameT (cs3.map (·.s)) (cs4.map (·.s)) = true := decide_eq_true hq.symm
      rw [e] at h; exact h
    have QR : Hid (∀ w5, Below w4.heap.size w4 w5 → Calls Tryd.prog _ #[.slice A3 cs3.length c3] w5 fun e w' => e = .returned (.bool true) ∧ Below w5.heap.size w5 w') := fun w5 hb => by
      have h := sright_any A3 cs3 c3 (by omega) F3.out w5 ((HT.out.later HB4.out).later hb) ((T3.out.later hb4).later hb)
      rw [R3.out] at h; exact h
    replace T3 := Lib.hid (T3.out.later hb4)
    rw [hlen] at QS
    simp only [List.length_map, hlen, Int.sub_self]
    clear hb4 hm4 ho4 HB3 HT E3 R3 F4 hq hlen
    generalize hml : cs.length = m at *
    have z0 : (cs3.length : Int) - (cs3.length : Int) = 0 := by omega
    have z1 : (cs3.length : Int) + ((m : Int) - (cs3.length : Int)) = (m : Int) := by omega
    go_wp2_with fail
    go_loopw [6, 14] (fun r i wr => ∃ k : Nat, r = .bool false ∧ i = .int .i64 (k : Int) ∧ k ≤ cs3.length ∧ Hid (Below w4.heap.size w4 wr)) (fun _ i _ => cs3.length - (RowKit.intOf i).toNat)
    case atStart => exact ⟨0, rfl, rfl, Nat.zero_le _, Below.refl _ _⟩
    case round =>
      obtain ⟨k, rfl, rfl, hk, HB⟩ := hrel
      by_cases h1 : k < cs3.length
      · have d1 : decide ((k : Int) < (cs3.length : Int)) = true := decide_eq_true (by omega)
        obtain ⟨b, off, rfl, hb, hc⟩ := T3.out.at_ (by omega)
        obtain ⟨i0, i1, i2, i3, i4, i5, i6, i7, i8, i9, i10, i11⟩ := (hc k h1).below HB.out hb
        have hbw : b < wr.heap.size := by have := HB.out.size; omega
        have hi1 : (0 : Int) ≤ (k : Int) := by omega
        have hi2 : (k : Int) < (cs3.length : Int) := by omega
        have QT : Hid (∀ w, Calls Tryd.prog _ #[serV cs3[k], .int .u64 now, .int .u64 life] w _) := fun w => stale_any cs3[k] (F3.out _ (List.getElem_mem h1)) now life M1.out w
        rw [NS.out _ (List.getElem_mem h1)] at QT
        unfold serV at QT
        clear hc
        generalize cs3[k] = x at *
        go_wp2_with fail
        refine (QT.out _).mono ?_
        rintro e w5 ⟨rfl, hb5⟩
        have HB5 := Lib.hid (Below.two HB.out hb5)
        clear QT hb5 HB i0 i1 i2 i3 i4 i5 i6 i7 i8 i9 i10 i11
        go_wp2_with fail
        go_roundw
        case rel => exact ⟨k + 1, rfl, by go_num, by omega, HB5.out⟩
        case measure => simp [RowKit.intOf]; omega
      · have hkk : k = cs3.length := by omega
        subst hkk
        have d1 : decide ((cs3.length : Int) < (cs3.length : Int)) = false := by simp
        clear NS T3 F3
        generalize cs3.length = n3 at *
        go_wp2_with fail
        refine (QS.out _ HB.out).mono ?_
        rintro e w5 ⟨rfl, hb5⟩
        have HB5 := Lib.hid (Below.two HB.out hb5)
        clear hb5 HB QS
        go_wp2_with fail
        refine (QR.out _ HB5.out).mono ?_
        rintro e w6 ⟨rfl, hb6⟩
        have HB6 := Lib.hid (Below.two HB5.out hb6)
        have HBF : Hid (Below w.heap.size w w6) := HB4.out.trans (HB6.out.mono HB4.out.size)
        clear hb6 HB5 QR HB6
        go_wp2_with fail
        go_ret
        exact ⟨rfl, HBF.out⟩
end Go.Proofs.YtoffmclbnobllaaDoor

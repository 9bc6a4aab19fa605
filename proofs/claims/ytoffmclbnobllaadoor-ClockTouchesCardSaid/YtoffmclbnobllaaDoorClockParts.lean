/-
  The walk of the law aviarylaw14.ClockParts.
-/
import Derived.Test.YtoffmclbnobllaaDoorCkStart
namespace Go.Proofs.YtoffmclbnobllaaDoor
open Go.RowKit
set_option linter.unusedVariables false
set_option linter.unusedSimpArgs false
theorem tab_part {cs ds : List SerM} {p : Ser → Bool} (hf : ∀ m ∈ cs, SerFit m.s) (h : ds.map (·.s) = (cs.map (·.s)).filter p) : ∀ m ∈ ds, SerFit m.s := fun m hm => by
  have h1 : m.s ∈ ds.map (·.s) := List.mem_map.2 ⟨m, hm, rfl⟩
  rw [h] at h1
  obtain ⟨y, hy, e⟩ := List.mem_map.1 (List.mem_filter.1 h1).1
  rw [← e]; exact hf y hy
theorem len_part {cs ds : List SerM} {p : Ser → Bool} (h : ds.map (·.s) = (cs.map (·.s)).filter p) : ds.length ≤ cs.length := by
  have := congrArg List.length h
  have h2 := List.length_filter_le p (cs.map (·.s))
  rw [List.length_map] at this h2
  omega
set_option maxRecDepth 100000 in
set_option maxHeartbeats 8000000 in
theorem clockParts_walk (A : Option Addr) (ms : List SerM) (n cap : Nat) (now next life : Int) (u1 : U now) (u2 : U next) (u3 : U life) (hk : ms.length = min n 22) (hn : n ≤ maxLen) (hf : ∀ m ∈ ms, RawFit m) (w : World) (hT : Tb w) (hS : Tab w w.heap.size A ms) :
    Calls Tryd.prog 7 #[.slice A n cap, .int .u64 now, .int .u64 next, .int .u64 life] w fun e w' => e = .returned (.bool true) ∧ Below w.heap.size w w' := by
  have HT := Lib.hid hT
  have QF : Hid (∀ w1, Tab w1 w1.heap.size A ms → Calls Tryd.prog _ #[.slice A n cap] w1 _) := fun w1 h => few_tab A ms n cap hk hn hf w1 h
  have HS := Lib.hid hS
  have M1 := Lib.hid (min_U u1 u2)
  have M2 := Lib.hid (max_U u1 u2)
  have hle1 : min now next ≤ max now next := by omega
  have HLE := Lib.hid hle1
  clear hT hS hf hk hn u1 u2 u3 hle1
  go_enter Tryd.func7, Tryd.ntmps7
  go_wp2_with fail
  refine (shown_any _).mono ?_
  rintro e w1 ⟨rfl, hb1⟩
  go_wp2_with fail
  refine (QF.out _ (HS.out.later hb1)).mono ?_
  clear QF HS
  rintro e w2 ⟨hb2, A1, c1, cs, rfl, hl22, hfit, ho⟩
  have HO := Lib.hid ho
  have HF := Lib.hid hfit
  have HB2 : Hid (Below w.heap.size w w2) := hb1.trans (hb2.mono hb1.size)
  clear ho hfit hb1 hb2
  go_wp2_with fail
  have QE : Hid (∀ now life w1, U now → Below w2.heap.size w2 w1 → Calls Tryd.prog _ #[.slice A1 cs.length c1, .int .u64 now, .int .u64 life] w1 (ExpRet w1 (cs.map (·.s)) now life)) := fun now life w1 hu hb =>
    expire_any A1 cs c1 now life hu (by omega) HF.out w1 ((HT.out.later HB2.out).later hb) (HO.out.tab.later hb)
  have HL : Hid ((cs.map (·.s)).length = cs.length) := List.length_map ..
  refine (QE.out _ _ w2 M1.out (Below.refl _ _)).mono ?_
  rintro e w3 ⟨hb3, h3⟩
  have B3 := Lib.hid hb3
  have HB3 : Hid (Below w.heap.size w w3) := HB2.out.trans (hb3.mono HB2.out.size)
  clear hb3
  cases hr : rightT (cs.map (·.s)) with
  | false =>
    rw [hr, if_neg (by decide)] at h3
    subst h3
    have Q2 := Lib.hid (expire_any none [] 0 (max now next) life M2.out (by decide) (fun m hm => by cases hm) w3 (HT.out.later HB3.out) ⟨Rd.none_, fun m hm => by cases hm⟩)
    go_wp2_with fail
    refine Q2.out.mono ?_
    rintro e w4 ⟨hb4, h4⟩
    rw [if_pos (by rfl)] at h4
    obtain ⟨A4, n4, c4, cs4, hn4, rfl, hm4, ho4⟩ := h4
    have HB4 : Hid (Below w.heap.size w w4) := HB3.out.trans (hb4.mono HB3.out.size)
    have B4 : Hid (Below w2.heap.size w2 w4) := B3.out.trans (hb4.mono B3.out.size)
    clear hn4 hm4 ho4 hb4 Q2 HB3 B3
    go_wp2_with fail
    refine (QE.out _ _ w4 M2.out B4.out).mono ?_
    rintro e w5 ⟨hb5, h5⟩
    rw [hr, if_neg (by decide)] at h5
    subst h5
    have HB5 : Hid (Below w.heap.size w w5) := HB4.out.trans (hb5.mono HB4.out.size)
    clear QE hb5 HB4 B4
    go_wp2_with fail
    go_ret
    exact ⟨rfl, HB5.out⟩
  | true =>
    rw [hr, if_pos rfl] at h3
    obtain ⟨A3, n3, c3, cs3, hn3, rfl, hm3, ho3⟩ := h3
    subst hn3
    have F3 := Lib.hid (tab_part HF.out hm3)
    have L3 := len_part hm3
    have R3 : Hid (rightT (cs3.map (·.s)) = true) := by show _ = _; rw [hm3]; exact rightT_filter _ hr
    have Q2 : Hid (Calls Tryd.prog _ #[.slice A3 cs3.length c3, .int .u64 (max now next), .int .u64 life] w3 (ExpRet w3 (cs3.map (·.s)) (max now next) life)) :=
      expire_any A3 cs3 c3 (max now next) life M2.out (by omega) F3.out w3 (HT.out.later HB3.out) ho3.tab
    have E3 := Lib.hid hm3
    clear ho3 hm3 M1
    go_wp2_with fail
    refine Q2.out.mono ?_
    clear Q2
    rintro e w4 ⟨hb4, h4⟩
    rw [R3.out, if_pos rfl] at h4
    obtain ⟨A4, n4, c4, cs4, hn4, rfl, hm4, ho4⟩ := h4
    subst hn4
    have F4 := Lib.hid (tab_part F3.out hm4)
    have L4 := len_part hm4
    have E4 : Hid (cs4.map (·.s) = (cs.map (·.s)).filter (freshF (max now next) life)) := by
      show _ = _
      rw [hm4, E3.out]
      exact filter_two (fun s h => fresh_mono HLE.out (Int.le_refl _) s h) _
    have HB4 : Hid (Below w.heap.size w w4) := HB3.out.trans (hb4.mono HB3.out.size)
    have B4 : Hid (Below w2.heap.size w2 w4) := B3.out.trans (hb4.mono B3.out.size)
    have T4 := Lib.hid ho4.tab
    clear hb4 hm4 ho4 R3 F3 E3 HLE HB3 B3
    go_wp2_with fail
    refine (QE.out _ _ w4 M2.out B4.out).mono ?_
    rintro e w5 ⟨hb5, h5⟩
    rw [hr, if_pos rfl] at h5
    obtain ⟨A5, n5, c5, cs5, hn5, rfl, hm5, ho5⟩ := h5
    subst hn5
    have F5 := Lib.hid (tab_part HF.out hm5)
    have L5 := len_part hm5
    have HB5 : Hid (Below w.heap.size w w5) := HB4.out.trans (hb5.mono HB4.out.size)
    have hq : sameT (cs4.map (·.s)) (cs5.map (·.s)) = true := by
      unfold sameT; rw [E4.out, hm5]; exact decide_eq_true rfl
    have hlen : cs5.length = cs4.length := by
      have := congrArg List.length (hm5.trans E4.out.symm)
      simpa using this
    have QS := Lib.hid (ssame_any A4 A5 cs4 cs5 c4 c5 (by omega) (by omega) F4.out F5.out w5 (T4.out.later hb5) ho5.tab)
    rw [hq] at QS
    have hTl := HL.out
    clear hb5 HB4 B4 hm5 ho5 E4 T4 F4 F5 QE HF HO HL HT hq hr M2 HB2
    generalize cs5.length = n5 at *
    generalize cs4.length = n4 at *
    generalize cs3.length = n3 at *
    clear hTl
    simp only [List.length_map]
    generalize cs.length = m at *
    subst hlen
    have hm22 : m ≤ 22 := by omega
    have z1 : (m : Int) - (n3 : Int) + ((n3 : Int) - (n5 : Int)) = (m : Int) - (n5 : Int) := by omega
    go_wp2_with fail
    refine QS.out.mono ?_
    rintro e w6 ⟨rfl, hb6⟩
    have HB6 : Hid (Below w.heap.size w w6) := HB5.out.trans (hb6.mono HB5.out.size)
    clear QS hb6 HB5
    go_wp2_with fail
    go_ret
    exact ⟨rfl, HB6.out⟩
end Go.Proofs.YtoffmclbnobllaaDoor

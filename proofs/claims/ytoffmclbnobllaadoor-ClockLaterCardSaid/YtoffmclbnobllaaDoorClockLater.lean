/-
  The walk of the law aviarylaw14.ClockLater.
-/
import Derived.Test.YtoffmclbnobllaaDoorCkStart
namespace Go.Proofs.YtoffmclbnobllaaDoor
open Go.RowKit
set_option linter.unusedVariables false
set_option linter.unusedSimpArgs false
set_option maxRecDepth 100000 in
set_option maxHeartbeats 8000000 in
theorem clockLater_walk (A : Option Addr) (ms : List SerM) (n cap : Nat) (now next life other : Int) (u1 : U now) (u2 : U next) (u3 : U life) (u4 : U other) (hk : ms.length = min n 22) (hn : n ≤ maxLen) (hf : ∀ m ∈ ms, RawFit m) (w : World) (hT : Tb w) (hS : Tab w w.heap.size A ms) :
    Calls Tryd.prog 4 #[.slice A n cap, .int .u64 now, .int .u64 next, .int .u64 life, .int .u64 other] w fun e w' => e = .returned (.bool true) ∧ Below w.heap.size w w' := by
  have HT := Lib.hid hT
  have QF : Hid (∀ w1, Tab w1 w1.heap.size A ms → Calls Tryd.prog _ #[.slice A n cap] w1 _) := fun w1 h => few_tab A ms n cap hk hn hf w1 h
  have HS := Lib.hid hS
  have M1 := Lib.hid (min_U u1 u2)
  have M2 := Lib.hid (max_U u1 u2)
  have hle1 : min now next ≤ max now next := by omega
  have hle2 : min life other ≤ max life other := by omega
  have HLE := Lib.hid (⟨hle1, hle2⟩ : _ ∧ _)
  clear hT hS hf hk hn u1 u2 u3 u4 hle1 hle2
  go_enter Tryd.func4, Tryd.ntmps4
  go_wp2_with fail
  refine (shown_any _).mono ?_
  rintro e w1 ⟨rfl, hb1⟩
  go_wp2_with fail
  refine (QF.out _ (HS.out.later hb1)).mono ?_
  clear QF HS
  rintro e w2 ⟨hb2, A1, c1, cs, rfl, hl22, hfit, ho⟩
  have HO := Lib.hid ho
  have HF := Lib.hid hfit
  have HB2 : Hid (Below w.heap.size w w2) := hb1.trans (hb2.mono hb1.size)
  clear ho hfit hb1 hb2
  go_wp2_with fail
  have QE : Hid (∀ now life w1, U now → Below w2.heap.size w2 w1 → Calls Tryd.prog _ #[.slice A1 cs.length c1, .int .u64 now, .int .u64 life] w1 (ExpRet w1 (cs.map (·.s)) now life)) := fun now life w1 hu hb =>
    expire_any A1 cs c1 now life hu (by omega) HF.out w1 ((HT.out.later HB2.out).later hb) (HO.out.tab.later hb)
  have HL : Hid ((cs.map (·.s)).length = cs.length) := List.length_map ..
  clear HF HO HT hl22
  generalize cs.length = L at *
  generalize cs.map (·.s) = T at *
  refine (QE.out _ _ w2 M1.out (Below.refl _ _)).mono ?_
  rintro e w3 ⟨hb3, h3⟩
  have HB3 : Hid (Below w.heap.size w w3) := HB2.out.trans (hb3.mono HB2.out.size)
  have B3 := Lib.hid hb3
  clear hb3 M1 HB2
  cases hr : rightT T with
  | false =>
    rw [hr, if_neg (by decide)] at h3
    subst h3
    go_wp2_with fail
    refine (QE.out _ _ w3 M2.out B3.out).mono ?_
    rintro e w4 ⟨hb4, h4⟩
    rw [hr, if_neg (by decide)] at h4
    subst h4
    have HB4 : Hid (Below w.heap.size w w4) := HB3.out.trans (hb4.mono HB3.out.size)
    clear hb4 QE M2 B3 HB3
    go_wp2_with fail
    go_ret
    exact ⟨rfl, HB4.out⟩
  | true =>
    rw [hr, if_pos rfl] at h3
    obtain ⟨A3, n3, c3, cs3, hn3, rfl, hm3, _⟩ := h3
    have E3 : Hid (n3 = (T.filter (freshF (min now next) (max life other))).length) := by show _ = _; rw [← hm3, List.length_map]; exact hn3
    clear hn3 hm3
    go_wp2_with fail
    refine (QE.out _ _ w3 M2.out B3.out).mono ?_
    rintro e w4 ⟨hb4, h4⟩
    rw [hr, if_pos rfl] at h4
    obtain ⟨A4, n4, c4, cs4, hn4, rfl, hm4, _⟩ := h4
    have HB4 : Hid (Below w.heap.size w w4) := HB3.out.trans (hb4.mono HB3.out.size)
    have e4 : n4 = (T.filter (freshF (max now next) (min life other))).length := by rw [← hm4, List.length_map]; exact hn4
    have hle : n4 ≤ n3 := by
      rw [E3.out, e4]
      exact filter_len_le (fun s h => fresh_mono HLE.out.1 HLE.out.2 s h) T
    have d1 : decide ((T.length : Int) - (n3 : Int) ≤ (T.length : Int) - (n4 : Int)) = true := decide_eq_true (by omega)
    have d2 : decide (n4 ≤ n3) = true := decide_eq_true hle
    clear hb4 QE M2 B3 HB3 E3 e4 hm4 hn4 hle
    go_wp2_with fail
    go_ret
    exact ⟨rfl, HB4.out⟩
end Go.Proofs.YtoffmclbnobllaaDoor

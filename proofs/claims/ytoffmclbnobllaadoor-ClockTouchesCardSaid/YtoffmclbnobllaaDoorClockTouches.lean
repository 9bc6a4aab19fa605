/-
  The walk of the law aviarylaw14.ClockTouches.
-/
import Derived.Test.YtoffmclbnobllaaDoorClockParts
namespace Go.Proofs.YtoffmclbnobllaaDoor
open Go.RowKit
set_option linter.unusedVariables false
set_option linter.unusedSimpArgs false
/-- A time is written into a table of the call's own. -/
theorem otab_seen {w : World} {B g c k : Nat} {cs : List SerM} (v : Int) (hot : OTab w B (.slice (some ⟨g, 0, none⟩) cs.length c) cs) (hkc : k < cs.length) (hB : B ≤ w.heap.size) :
    OTab (w.setCell ⟨g, k * 12 + 11, none⟩ (.int .u64 v)) B (.slice (some ⟨g, 0, none⟩) cs.length c) (cs.set k (seenAt cs[k] v)) := by
  have hst := hot.own.stored (k * 12 + 11) (.int .u64 v)
  have hown := hst.1
  rw [tabC_set1 cs k (seenAt cs[k] v) _ hkc (by rfl)] at hown
  have hgr := hst.2
  refine ⟨by rw [List.length_set]; exact hown, fun m0 h => ?_, fun m0 h => ?_⟩
  · rcases List.mem_or_eq_of_mem_set h with h | h
    · exact (hot.ok m0 h).grown hgr (hot.ap m0 h)
    · subst h
      have := (hot.ok cs[k] (List.getElem_mem hkc)).grown hgr (hot.ap cs[k] (List.getElem_mem hkc))
      exact ⟨this.l, this.k⟩
  · rcases List.mem_or_eq_of_mem_set h with h | h
    · exact hot.ap m0 h
    · subst h; exact hot.ap cs[k] (List.getElem_mem hkc)
theorem back_seen {T : List Ser} {us : List SerM} {k : Nat} {now : Int} (hk : k < T.length) (hku : k < us.length) (hm : us.map (·.s) = T.set k { T[k] with seen := now }) : (us.set k (seenAt us[k] T[k].seen)).map (·.s) = T := by
  rw [map_set_s, hm]
  have e : us[k].s = { T[k] with seen := now } := by
    have : (us.map (·.s))[k]? = (T.set k { T[k] with seen := now })[k]? := by rw [hm]
    simpa [hku, hk] using this
  show (T.set k _).set k { us[k].s with seen := T[k].seen } = T
  rw [e, List.set_set]
  exact List.set_getElem_self hk
theorem at_seen {T : List Ser} {us : List SerM} {k : Nat} {now : Int} (hk : k < T.length) (hku : k < us.length) (hm : us.map (·.s) = T.set k { T[k] with seen := now }) : us[k].s.seen = now := by
  have : (us.map (·.s))[k]? = (T.set k { T[k] with seen := now })[k]? := by rw [hm]
  have e : us[k].s = { T[k] with seen := now } := by simpa [hku, hk] using this
  rw [e]
set_option maxRecDepth 100000 in
set_option maxHeartbeats 8000000 in
theorem clockTouches_walk (A : Option Addr) (ms : List SerM) (n cap : Nat) (at_ now life : Int) (u1 : U now) (u2 : U life) (hk : ms.length = min n 22) (hn : n ≤ maxLen) (hf : ∀ m ∈ ms, RawFit m) (w : World) (hT : Tb w) (hS : Tab w w.heap.size A ms) :
    Calls Tryd.prog 3 #[.slice A n cap, .int .i64 at_, .int .u64 now, .int .u64 life] w fun e w' => e = .returned (.bool true) ∧ Below w.heap.size w w' := by
  have HT := Lib.hid hT
  have QF : Hid (∀ w1, Tab w1 w1.heap.size A ms → Calls Tryd.prog _ #[.slice A n cap] w1 _) := fun w1 h => few_tab A ms n cap hk hn hf w1 h
  have HS := Lib.hid hS
  have M1 := Lib.hid u1
  have M2 := Lib.hid u2
  clear hT hS hf hk hn u1 u2
  go_enter Tryd.func3, Tryd.ntmps3
  go_wp2_with fail
  refine (shown_any _).mono ?_
  rintro e w1 ⟨rfl, hb1⟩
  go_wp2_with fail
  refine (QF.out _ (HS.out.later hb1)).mono ?_
  clear QF HS
  rintro e w2 ⟨hb2, A1, c1, cs, rfl, hl22, hfit, ho⟩
  have HO := Lib.hid ho
  have HF := Lib.hid hfit
  have HB2 : Hid (Below w.heap.size w w2) := hb1.trans (hb2.mono hb1.size)
  clear ho hfit hb1 hb2
  go_wp2_with fail
  refine (touch_any A1 cs c1 at_ now (by omega) HF.out w2 (HT.out.later HB2.out) HO.out.tab).mono ?_
  rintro e w3 ⟨hb3, h3⟩
  have B3 := Lib.hid hb3
  have HB3 : Hid (Below w.heap.size w w3) := HB2.out.trans (hb3.mono HB2.out.size)
  clear hb3
  rcases h3 with ⟨_, rfl⟩ | ⟨k, rfl, hr, hkT, ⟨_, rfl⟩ | ⟨hs, A3, c3, us, rfl, hm, ho3⟩⟩
  · clear HF HO HT HB2 B3
    go_wp2_with fail
    go_ret
    exact ⟨rfl, HB3.out⟩
  · clear HF HO HT HB2 B3
    go_wp2_with fail
    go_ret
    exact ⟨rfl, HB3.out⟩
  · have hlen : us.length = cs.length := by have := congrArg List.length hm; simpa using this
    have hkc : k < cs.length := by rw [List.length_map] at hkT; exact hkT
    have hku : k < us.length := by omega
    obtain ⟨g, c, arr, e3, hBg, hg, hblk, hnc, hcm⟩ := own_pos ho3.own (by omega)
    injection e3 with e3 e4 e5
    subst e3
    subst e5
    obtain ⟨b', off', e3, hgl, hcells⟩ := ho3.tab.at_ (by omega)
    cases e3
    have q11 := (serAt0 (hcells k hku)).c11
    rw [at_seen hkT hku hm] at q11
    have f11 := hblk.frozen (k * 12 + 11)
    obtain ⟨b, off, rfl, hb, hc⟩ := HO.out.tab.at_ (by omega)
    have p11 := (B3.out.cell (p := ⟨b, off + k * 12 + 11, none⟩) hb).trans (hc k hkc).c11
    have es : ((cs.map (fun m : SerM => m.s))[k]'hkT).seen = cs[k].s.seen := by rw [List.getElem_map]
    have hBK := back_seen hkT hku hm
    rw [es] at hs hBK
    have hUS := (HF.out _ (List.getElem_mem hkc)).seen
    generalize hwas : cs[k].s.seen = was at *
    have HOT := Lib.hid (otab_seen was ho3 hku (by have := B3.out.size; omega))
    have HB4 : Hid (Below w.heap.size w (w3.setCell ⟨g, k * 12 + 11, none⟩ (.int .u64 was))) := HB3.out.setCell (by have := HB2.out.size; show w.heap.size ≤ g; omega) _
    have B4 : Hid (Below w2.heap.size w2 (w3.setCell ⟨g, k * 12 + 11, none⟩ (.int .u64 was))) := B3.out.setCell hBg _
    have FU : Hid (∀ m ∈ us.set k (seenAt us[k] was), SerFit m.s) := fun m hm2 => by
      have h1 : m.s ∈ (us.set k (seenAt us[k] was)).map (·.s) := List.mem_map.2 ⟨m, hm2, rfl⟩
      rw [hBK] at h1
      obtain ⟨y, hy, e⟩ := List.mem_map.1 h1
      rw [← e]; exact HF.out y hy
    have hls : (us.set k (seenAt us[k] was)).length = cs.length := by rw [List.length_set]; exact hlen
    have QS : Hid (Calls Tryd.prog 11 #[.slice (some ⟨g, 0, none⟩) cs.length c3, .slice (some ⟨b, off, none⟩) cs.length c1] (w3.setCell ⟨g, k * 12 + 11, none⟩ (.int .u64 was)) fun e w' => e = .returned (.bool true) ∧ Below (w3.setCell ⟨g, k * 12 + 11, none⟩ (.int .u64 was)).heap.size (w3.setCell ⟨g, k * 12 + 11, none⟩ (.int .u64 was)) w') := by
      have ht := HOT.out
      rw [hlen] at ht
      have h := ssame_any (some ⟨g, 0, none⟩) (some ⟨b, off, none⟩) (us.set k (seenAt us[k] was)) cs c3 c1 (by omega) (by omega) FU.out HF.out _ ht.tab (HO.out.tab.later B4.out)
      have e : sameT ((us.set k (seenAt us[k] was)).map (·.s)) (cs.map (·.s)) = true := by rw [hBK]; exact decide_eq_true rfl
      rw [e, hls] at h
      exact h
    obtain ⟨n1, n2⟩ := M1.out
    obtain ⟨l1, l2⟩ := M2.out
    obtain ⟨later, hlater⟩ : ∃ later : Int, now + min life (18446744073709551615 - now) = later := ⟨_, rfl⟩
    have UL : Hid (U later) := ⟨by omega, by omega⟩
    have hst : staleF now later life = false := by unfold staleF; rw [decide_eq_false_iff_not]; omega
    have QT := Lib.hid (fun w => stale_gen (.slice none 0 0) (.int .i64 0) (.int .i64 0) (.slice none 0 0) (.int .i64 0) (.string ⟨#[]⟩) (.int .i64 0) (.int .i64 0) (.slice none 0 0) (.int .i64 0) (.slice none 0 0) rfl rfl rfl rfl rfl rfl rfl rfl rfl rfl rfl now later life M1.out UL.out w)
    rw [hst] at QT
    have b1 : decide (was ≤ now) = true := decide_eq_true hs
    have hi1 : (0 : Int) ≤ (k : Int) := by omega
    have hi2 : (k : Int) < (cs.length : Int) := by omega
    have b2 : decide ((k : Int) < 0) = false := decide_eq_false (by omega)
    have b3 : decide ((cs.length : Int) ≤ (k : Int)) = false := decide_eq_false (by omega)
    have b4 : decide (cs.length ≤ k) = false := decide_eq_false (by omega)
    have hgw : g < w3.heap.size := hgl
    rw [hlen]
    clear hBK hm ho3 hblk hc hcells FU HF HO HT HB2 HB3 B3 B4 HOT hr hkT hst es hls hwas hku
    generalize cs.length = m at *
    go_wp2_with fail
    refine QS.out.mono ?_
    rintro e w4 ⟨rfl, hb4⟩
    have HB5 : Hid (Below w.heap.size w w4) := HB4.out.trans (hb4.mono HB4.out.size)
    clear hb4 QS HB4
    go_wp2_with fail
    refine (QT.out _).mono ?_
    rintro e w5 ⟨rfl, hb5⟩
    have HB6 := Lib.hid (Below.two HB5.out hb5)
    clear hb5 QT HB5
    go_wp2_with fail
    go_ret
    exact ⟨rfl, HB6.out⟩
end Go.Proofs.YtoffmclbnobllaaDoor

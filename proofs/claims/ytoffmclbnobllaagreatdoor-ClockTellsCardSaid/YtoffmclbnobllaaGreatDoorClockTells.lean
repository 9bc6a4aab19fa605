/-
  The walk of the law aviarylaw14.ClockTells.
-/
import Derived.Test.YtoffmclbnobllaaGreatDoorCkR14
import Derived.Test.YtoffmclbnobllaaGreatDoorCkStart
namespace Go.Proofs.YtoffmclbnobllaaGreatDoor
open Go.RowKit
set_option linter.unusedVariables false
set_option linter.unusedSimpArgs false
/-- A table T, a count D and an error E are told. -/
def ExpIs (T : List Ser) (D E : Int) (w : World) (e : Ending) (w' : World) : Prop :=
  Below w.heap.size w w' ∧ ∃ A c cs, e = .returned (.tuple #[.slice A cs.length c, .int .i64 D, .int .i64 E]) ∧ cs.map (·.s) = T ∧ Tab w' w'.heap.size A cs
/-- A table T and an error E are told. -/
def TouIs (T : List Ser) (E : Int) (w : World) (e : Ending) (w' : World) : Prop :=
  Below w.heap.size w w' ∧ ∃ A c cs, e = .returned (.tuple #[.slice A cs.length c, .int .i64 E]) ∧ cs.map (·.s) = T ∧ Tab w' w'.heap.size A cs
theorem tab_none (w : World) (B : Nat) : Tab w B none [] := ⟨fun h => absurd rfl h, fun m hm => by cases hm⟩
theorem exp_det (ts : List Ser) (now life : Int) : ∃ T D E, (∀ s ∈ T, s ∈ ts) ∧ T.length ≤ ts.length ∧ ∀ w e w', ExpRet w ts now life e w' → ExpIs T D E w e w' := by
  cases hr : rightT ts with
  | false =>
    refine ⟨[], 0, 120, fun s hs => by (cases hs), Nat.zero_le _, ?_⟩
    rintro w e w' ⟨hb, h⟩
    rw [hr, if_neg (by decide)] at h
    subst h
    exact ⟨hb, none, 0, [], rfl, rfl, tab_none _ _⟩
  | true =>
    refine ⟨ts.filter (freshF now life), (ts.length : Int) - ((ts.filter (freshF now life)).length : Int), 0, fun s hs => (List.mem_filter.1 hs).1, List.length_filter_le _ _, ?_⟩
    rintro w e w' ⟨hb, h⟩
    rw [hr, if_pos rfl] at h
    obtain ⟨A, n, c, cs, hn, rfl, hm, ho⟩ := h
    subst hn
    refine ⟨hb, A, c, cs, ?_, hm, ho.tab⟩
    rw [← hm, List.length_map]
theorem tou_det (ts : List Ser) (at_ now : Int) (hu : U now) : ∃ T E, (∀ s ∈ T, ∃ t ∈ ts, s = t ∨ s = { t with seen := now }) ∧ T.length ≤ ts.length ∧ ∀ w e w', TouRet w ts at_ now e w' → TouIs T E w e w' := by
  by_cases hr : rightT ts = false ∨ at_ < 0 ∨ (ts.length : Int) ≤ at_
  · refine ⟨[], 120, fun s hs => by (cases hs), Nat.zero_le _, ?_⟩
    rintro w e w' ⟨hb, ⟨_, rfl⟩ | ⟨k, e1, h1, h2, _⟩⟩
    · exact ⟨hb, none, 0, [], rfl, rfl, tab_none _ _⟩
    · rcases hr with h | h | h
      · rw [h1] at h; cases h
      · omega
      · omega
  · have r1 : rightT ts = true := by
      cases h : rightT ts with
      | true => rfl
      | false => exact absurd (.inl h) hr
    obtain ⟨k, rfl⟩ : ∃ k : Nat, at_ = (k : Int) := ⟨at_.toNat, by omega⟩
    have hk : k < ts.length := by omega
    by_cases hs : now < ts[k].seen
    · refine ⟨[], 140, fun s hs => by (cases hs), Nat.zero_le _, ?_⟩
      rintro w e w' ⟨hb, ⟨h, _⟩ | ⟨j, e1, h1, h2, ⟨_, rfl⟩ | ⟨h3, _⟩⟩⟩
      · exact absurd h hr
      · exact ⟨hb, none, 0, [], rfl, rfl, tab_none _ _⟩
      · obtain rfl : k = j := by omega
        omega
    · refine ⟨ts.set k { ts[k] with seen := now }, 0, fun s hs => ?_, by rw [List.length_set]; exact Nat.le_refl _, ?_⟩
      · rcases List.mem_or_eq_of_mem_set hs with h | h
        · exact ⟨s, h, .inl rfl⟩
        · exact ⟨ts[k], List.getElem_mem hk, .inr h⟩
      · rintro w e w' ⟨hb, ⟨h, _⟩ | ⟨j, e1, h1, h2, ⟨h3, _⟩ | ⟨h3, A, c, cs, rfl, hm, ho⟩⟩⟩
        · exact absurd h hr
        · obtain rfl : k = j := by omega
          omega
        · obtain rfl : k = j := by omega
          exact ⟨hb, A, c, cs, rfl, hm, ho.tab⟩
/-- The two answers of one table are the same. -/
theorem two_same {T : List Ser} (hl : T.length ≤ 1000) (hf : ∀ s ∈ T, SerFit s) {A C : Option Addr} {ms ns : List SerM} (em : ms.map (·.s) = T) (en : ns.map (·.s) = T) (c d : Nat) (w : World) (hS : Tab w w.heap.size A ms) (hM : Tab w w.heap.size C ns) :
    Calls Tryz.prog 16 #[.slice A ms.length c, .slice C ns.length d] w fun e w' => e = .returned (.bool true) ∧ Below w.heap.size w w' := by
  have l1 : ms.length = T.length := by rw [← em, List.length_map]
  have l2 : ns.length = T.length := by rw [← en, List.length_map]
  have h := rsameT_any A C ms ns c d (by omega) (by omega) (fun m hm => hf _ (by rw [← em]; exact List.mem_map.2 ⟨m, hm, rfl⟩)) (fun m hm => hf _ (by rw [← en]; exact List.mem_map.2 ⟨m, hm, rfl⟩)) w hS hM
  have e : sameT (ms.map (·.s)) (ns.map (·.s)) = true := by rw [em, en]; exact decide_eq_true rfl
  rw [e] at h; exact h
set_option maxRecDepth 100000 in
set_option maxHeartbeats 16000000 in
theorem clockTells_walk (A : Option Addr) (ms : List SerM) (n cap : Nat) (now next life at_ : Int) (u1 : U now) (u2 : U next) (u3 : U life) (hk : ms.length = min n 22) (hn : n ≤ maxLen) (hf : ∀ m ∈ ms, RawFit m) (w : World) (hT : Tb w) (hS : Tab w w.heap.size A ms) :
    Calls Tryz.prog 3 #[.slice A n cap, .int .u64 now, .int .u64 next, .int .u64 life, .int .i64 at_] w fun e w' => e = .returned (.bool true) ∧ Below w.heap.size w w' := by
  have HT := Lib.hid hT
  have QF : Hid (∀ w1, Tab w1 w1.heap.size A ms → Calls Tryz.prog _ #[.slice A n cap] w1 _) := fun w1 h => few_tab A ms n cap hk hn hf w1 h
  have HS := Lib.hid hS
  have U1 := Lib.hid u1
  have U3 := Lib.hid u3
  clear hT hS hf hk hn u1 u2 u3
  go_enter Tryz.func3, Tryz.ntmps3
  go_wp2_with fail
  refine (shown_any _).mono ?_
  rintro e w1 ⟨rfl, hb1⟩
  go_wp2_with fail
  refine (QF.out _ (HS.out.later hb1)).mono ?_
  clear QF HS
  rintro e w2 ⟨hb2, A1, c1, cs, rfl, hl22, hfit, ho⟩
  have HO := Lib.hid ho
  have HF := Lib.hid hfit
  have HB2 : Hid (Below w.heap.size w w2) := hb1.trans (hb2.mono hb1.size)
  clear ho hfit hb1 hb2
  have HL : Hid (cs.length ≤ 1000) := by show _ ≤ _; omega
  have HTB : Hid (∀ w1, Below w2.heap.size w2 w1 → Tab w1 w1.heap.size A1 cs) := fun w1 hb => HO.out.tab.later hb
  have HT2 : Hid (∀ w1, Below w2.heap.size w2 w1 → Tb w1) := fun w1 hb => (HT.out.later HB2.out).later hb
  have QA : Hid (∀ w1, Calls Tryz.prog _ #[.int .u64 now, .int .u64 next] w1 _) := fun w1 => advance_any now next w1
  have QB : Hid (∀ w1, Calls Tryz.prog _ #[.int .u64 now, .int .u64 next] w1 _) := fun w1 => radvance_any now next w1
  have FSer : Hid (∀ s ∈ cs.map (·.s), SerFit s) := fun s hs => by
    obtain ⟨m, hm, rfl⟩ := List.mem_map.1 hs
    exact HF.out m hm
  have HLM : Hid ((cs.map (·.s)).length ≤ 1000) := by show _ ≤ _; rw [List.length_map]; exact HL.out
  obtain ⟨T, D, E, hTm, hTl, hdet⟩ := exp_det (cs.map (·.s)) now life
  have QE : Hid (∀ w1, Below w2.heap.size w2 w1 → Calls Tryz.prog _ #[.slice A1 cs.length c1, .int .u64 now, .int .u64 life] w1 (ExpIs T D E w1)) := fun w1 hb =>
    (expire_any A1 cs c1 now life U1.out HL.out HF.out w1 (HT2.out w1 hb) (HTB.out w1 hb)).mono fun e w' h => hdet _ _ _ h
  have QE2 : Hid (∀ w1, Below w2.heap.size w2 w1 → Calls Tryz.prog _ #[.slice A1 cs.length c1, .int .u64 now, .int .u64 life] w1 (ExpIs T D E w1)) := fun w1 hb =>
    (rexpire_any A1 cs c1 now life U1.out HL.out HF.out w1 (HTB.out w1 hb)).mono fun e w' h => hdet _ _ _ h
  have FT : Hid (∀ s ∈ T, SerFit s) := fun s hs => FSer.out s (hTm s hs)
  have LT : Hid (T.length ≤ 1000) := Nat.le_trans hTl HLM.out
  clear hTm hTl hdet
  obtain ⟨V, F, hVm, hVl, hdet⟩ := tou_det (cs.map (·.s)) at_ now U1.out
  have QT : Hid (∀ w1, Below w2.heap.size w2 w1 → Calls Tryz.prog _ #[.slice A1 cs.length c1, .int .i64 at_, .int .u64 now] w1 (TouIs V F w1)) := fun w1 hb =>
    (touch_any A1 cs c1 at_ now HL.out HF.out w1 (HT2.out w1 hb) (HTB.out w1 hb)).mono fun e w' h => hdet _ _ _ h
  have QT2 : Hid (∀ w1, Below w2.heap.size w2 w1 → Calls Tryz.prog _ #[.slice A1 cs.length c1, .int .i64 at_, .int .u64 now] w1 (TouIs V F w1)) := fun w1 hb =>
    (rtouch_any A1 cs c1 at_ now HL.out HF.out w1 (HTB.out w1 hb)).mono fun e w' h => hdet _ _ _ h
  have FV : Hid (∀ s ∈ V, SerFit s) := fun s hs => by
    obtain ⟨t, ht, rfl | rfl⟩ := hVm s hs
    · exact FSer.out _ ht
    · have := FSer.out _ ht; exact ⟨this.l, this.ls, this.k, U1.out⟩
  have LV : Hid (V.length ≤ 1000) := Nat.le_trans hVl HLM.out
  clear hVm hVl hdet
  obtain ⟨nv, hnv⟩ : ∃ nv : Int × Bool, nv = if rightT (cs.map (·.s)) = true then nextF life (cs.map (·.s)) else (0, false) := ⟨_, rfl⟩
  have QN : Hid (∀ w1, Below w2.heap.size w2 w1 → Calls Tryz.prog _ #[.slice A1 cs.length c1, .int .u64 life] w1 fun e w' => e = .returned (.tuple #[.int .u64 nv.1, .bool nv.2]) ∧ Below w1.heap.size w1 w') := fun w1 hb => by
    refine (next_any A1 cs c1 life U3.out HL.out HF.out w1 (HT2.out w1 hb) (HTB.out w1 hb)).mono ?_
    rintro e w' ⟨rfl, h⟩
    refine ⟨?_, h⟩
    rw [hnv]; split <;> rfl
  have QN2 : Hid (∀ w1, Below w2.heap.size w2 w1 → Calls Tryz.prog _ #[.slice A1 cs.length c1, .int .u64 life] w1 fun e w' => e = .returned (.tuple #[.int .u64 nv.1, .bool nv.2]) ∧ Below w1.heap.size w1 w') := fun w1 hb => by
    refine (rnext_any A1 cs c1 life U3.out HL.out HF.out w1 (HTB.out w1 hb)).mono ?_
    rintro e w' ⟨rfl, h⟩
    refine ⟨?_, h⟩
    rw [hnv]; split <;> rfl
  clear hnv HT2 FSer HLM HT
  generalize advF now next = av at *
  obtain ⟨a1, a2⟩ := av
  obtain ⟨p1, p2⟩ := nv
  go_wp2_with fail
  refine (QA.out _).mono ?_
  rintro e w3 ⟨rfl, hb3⟩
  subst hb3
  go_wp2_with fail
  refine (QB.out _).mono ?_
  rintro e w3 ⟨rfl, hb3⟩
  subst hb3
  clear QA QB
  go_wp2_with fail
  refine (QE.out _ (Below.refl _ _)).mono ?_
  rintro e w3 ⟨hb3, A3, c3, cs3, rfl, em3, t3⟩
  have B3 := Lib.hid hb3
  have T3 := Lib.hid t3
  have E3 := Lib.hid em3
  clear hb3 t3 em3 QE
  go_wp2_with fail
  refine (QE2.out _ B3.out).mono ?_
  rintro e w4 ⟨hb4, A4, c4, cs4, rfl, em4, t4⟩
  have B4 := Lib.hid (Below.two B3.out hb4)
  replace T3 := Lib.hid (T3.out.later hb4)
  have QS : Hid (∀ w5, Below w4.heap.size w4 w5 → Calls Tryz.prog 16 #[.slice A3 cs3.length c3, .slice A4 cs4.length c4] w5 fun e w' => e = .returned (.bool true) ∧ Below w5.heap.size w5 w') := fun w5 hb =>
    two_same LT.out FT.out E3.out em4 c3 c4 w5 (T3.out.later hb) (t4.later hb)
  clear hb4 t4 em4 QE2 B3 T3 E3 LT FT
  generalize cs3.length = n3 at *
  generalize cs4.length = n4 at *
  go_wp2_with fail
  refine (QT.out _ B4.out).mono ?_
  rintro e w5 ⟨hb5, A5, c5, cs5, rfl, em5, t5⟩
  have B5 := Lib.hid (Below.two B4.out hb5)
  have K5 := Lib.hid hb5
  have T5 := Lib.hid t5
  have E5 := Lib.hid em5
  clear hb5 t5 em5 QT B4
  go_wp2_with fail
  refine (QT2.out _ B5.out).mono ?_
  rintro e w6 ⟨hb6, A6, c6, cs6, rfl, em6, t6⟩
  have B6 := Lib.hid (Below.two B5.out hb6)
  have K6 := Lib.hid (Below.two K5.out hb6)
  replace T5 := Lib.hid (T5.out.later hb6)
  have QV : Hid (∀ w7, Below w6.heap.size w6 w7 → Calls Tryz.prog 16 #[.slice A5 cs5.length c5, .slice A6 cs6.length c6] w7 fun e w' => e = .returned (.bool true) ∧ Below w7.heap.size w7 w') := fun w7 hb =>
    two_same LV.out FV.out E5.out em6 c5 c6 w7 (T5.out.later hb) (t6.later hb)
  clear hb6 t6 em6 QT2 B5 T5 E5 LV FV K5
  generalize cs5.length = n5 at *
  generalize cs6.length = n6 at *
  go_wp2_with fail
  refine (QN.out _ B6.out).mono ?_
  rintro e w7 ⟨rfl, hb7⟩
  have B7 := Lib.hid (Below.two B6.out hb7)
  have K7 := Lib.hid (Below.two K6.out hb7)
  have J7 := Lib.hid hb7
  clear hb7 B6 K6 QN
  go_wp2_with fail
  refine (QN2.out _ B7.out).mono ?_
  rintro e w8 ⟨rfl, hb8⟩
  have B8 := Lib.hid (Below.two B7.out hb8)
  have K8 := Lib.hid (Below.two K7.out hb8)
  have J8 := Lib.hid (Below.two J7.out hb8)
  clear hb8 B7 K7 J7 QN2
  replace QS : Hid (∀ w5, Below w8.heap.size w8 w5 → Calls Tryz.prog 16 #[.slice A3 n3 c3, .slice A4 n4 c4] w5 fun e w' => e = .returned (.bool true) ∧ Below w5.heap.size w5 w') := fun w5 hb => QS.out w5 (Below.two K8.out hb)
  replace QV : Hid (∀ w5, Below w8.heap.size w8 w5 → Calls Tryz.prog 16 #[.slice A5 n5 c5, .slice A6 n6 c6] w5 fun e w' => e = .returned (.bool true) ∧ Below w5.heap.size w5 w') := fun w5 hb => QV.out w5 (Below.two J8.out hb)
  have HB8 : Hid (Below w.heap.size w w8) := HB2.out.trans (B8.out.mono HB2.out.size)
  replace HTB : Hid (∀ w1, Below w8.heap.size w8 w1 → Tab w1 w1.heap.size A1 cs) := fun w1 hb => HTB.out w1 (Below.two B8.out hb)
  clear K8 J8 HB2 B8 HO
  have T8 := Lib.hid (HTB.out w8 (Below.refl _ _))
  clear HTB
  go_wp2_with fail
  go_loopw [30] (fun i wr => ∃ k : Nat, i = .int .i64 (k : Int) ∧ k ≤ cs.length ∧ Hid (Below w8.heap.size w8 wr)) (fun i _ => cs.length - (RowKit.intOf i).toNat)
  case atStart => exact ⟨0, rfl, Nat.zero_le _, Below.refl _ _⟩
  case round =>
    obtain ⟨k, rfl, hk, HB⟩ := hrel
    by_cases h1 : k < cs.length
    · have d1 : decide ((k : Int) < (cs.length : Int)) = true := decide_eq_true (by omega)
      obtain ⟨b, off, rfl, hb, hc⟩ := T8.out.at_ (by omega)
      obtain ⟨i0, i1, i2, i3, i4, i5, i6, i7, i8, i9, i10, i11⟩ := (hc k h1).below HB.out hb
      have hbw : b < wr.heap.size := by have := HB.out.size; omega
      have hi1 : (0 : Int) ≤ (k : Int) := by omega
      have hi2 : (k : Int) < (cs.length : Int) := by omega
      have QP : Hid (∀ x : After wr, Calls Tryz.prog 14 #[serV cs[k], .int .u64 now, .int .u64 life] x.at_ fun e w' => e = .returned (.bool (staleF cs[k].s.seen now life)) ∧ Below x.at_.heap.size x.at_ w') := fun x => stale_any cs[k] (HF.out _ (List.getElem_mem h1)) now life U1.out x.at_
      have QR : Hid (∀ x : After wr, Calls Tryz.prog 15 #[serV cs[k], .int .u64 now, .int .u64 life] x.at_ fun e w' => e = .returned (.bool (staleF cs[k].s.seen now life)) ∧ Below x.at_.heap.size x.at_ w') := fun x => rstale_any cs[k] (HF.out _ (List.getElem_mem h1)) now life U1.out x.at_
      unfold serV at QP QR
      clear hc QS QV
      generalize cs[k] = x at *
      generalize staleF x.s.seen now life = v at *
      have F0 := After.cell i0 hbw
      have F1 := After.cell i1 hbw
      have F2 := After.cell i2 hbw
      have F3 := After.cell i3 hbw
      have F4 := After.cell i4 hbw
      have F5 := After.cell i5 hbw
      have F6 := After.cell i6 hbw
      have F7 := After.cell i7 hbw
      have F8 := After.cell i8 hbw
      have F9 := After.cell i9 hbw
      have F10 := After.cell i10 hbw
      have F11 := After.cell i11 hbw
      haveI hAW := After.some wr
      cases v
      all_goals
        go_wp2_with fail
        refine wp_region_below (by kernel_rfl) (by kernel_rfl) ?_
        repeat (go_big_quiet_step (first | with_reducible exact after_calls (QP.out _) | with_reducible exact after_calls (QR.out _)))
        refine wpQuiet_nil ?_
        rintro w9 ⟨x9, hx9⟩
        have HB9 : Hid (Below w8.heap.size w8 w9) := HB.out.trans ((show Below wr.heap.size wr w9 by rw [hx9]; exact x9.is).mono HB.out.size)
        clear hx9 x9 QP QR
        go_wp2_with fail
        go_roundw
        case rel => exact ⟨k + 1, by go_num, by omega, HB9.out⟩
        case measure => simp [RowKit.intOf]; omega
    · have hkk : k = cs.length := by omega
      subst hkk
      have d1 : decide ((cs.length : Int) < (cs.length : Int)) = false := by simp
      clear T8 HF
      generalize cs.length = n8 at *
      go_wp2_with fail
      refine (QS.out _ HB.out).mono ?_
      rintro e w9 ⟨rfl, hb9⟩
      have HB9 := Lib.hid (Below.two HB.out hb9)
      clear hb9 HB QS
      go_wp2_with fail
      refine (QV.out _ HB9.out).mono ?_
      rintro e w10 ⟨rfl, hb10⟩
      have HBF : Hid (Below w.heap.size w w10) := HB8.out.trans ((Below.two HB9.out hb10).mono HB8.out.size)
      clear hb10 HB9 QV
      go_wp2_with fail
      go_ret
      exact ⟨rfl, HBF.out⟩
end Go.Proofs.YtoffmclbnobllaaGreatDoor

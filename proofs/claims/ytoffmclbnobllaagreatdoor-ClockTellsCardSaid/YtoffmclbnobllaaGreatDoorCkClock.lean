/-
  clock.Stale, clock.Next, and what the law shows first.
-/
import Derived.Test.YtoffmclbnobllaaGreatDoorCkSSame
import Derived.IntWalk
namespace Go.Proofs.YtoffmclbnobllaaGreatDoor
open Go.RowKit
set_option linter.unusedVariables false
set_option linter.unusedSimpArgs false
theorem shown_any (w : World) : Calls Tryz.prog 4 #[] w fun e w' => e = .returned (.bool true) ∧ Below w.heap.size w w' := by
  go_enter Tryz.func4, Tryz.ntmps4
  go_wp2
  go_ret
  exact ⟨rfl, by repeat (first | exact below_0 _ | refine below_al ?_ _ | refine Below.drew ?_)⟩
def staleF (seen now life : Int) : Bool := decide (seen < now ∧ life < now - seen)
theorem stale_gen (c0 c1 c2 c3 c4 c5 c6 c7 c8 c9 c10 : Value) (o0 : c0.oneCell' = true) (o1 : c1.oneCell' = true) (o2 : c2.oneCell' = true) (o3 : c3.oneCell' = true) (o4 : c4.oneCell' = true) (o5 : c5.oneCell' = true) (o6 : c6.oneCell' = true) (o7 : c7.oneCell' = true) (o8 : c8.oneCell' = true) (o9 : c9.oneCell' = true) (o10 : c10.oneCell' = true)
    (seen now life : Int) (h0 : U seen) (h1 : U now) (w : World) :
    Calls Tryz.prog 14 #[.agg #[c0, c1, c2, c3, c4, c5, c6, c7, c8, c9, c10, .int .u64 seen], .int .u64 now, .int .u64 life] w fun e w' => e = .returned (.bool (staleF seen now life)) ∧ Below w.heap.size w w' := by
  obtain ⟨h0, hs⟩ := h0
  obtain ⟨h1, h1'⟩ := h1
  have HB := Lib.hid (below_al (below_0 w) (.cells #[c0, c1, c2, c3, c4, c5, c6, c7, c8, c9, c10, .int .u64 seen] 50))
  by_cases h2 : seen < now
  · by_cases h3 : life < now - seen
    · have HR : Hid (staleF seen now life = true) := by show _ = _; simp [staleF, h2, h3]
      go_enter Tryz.func14, Tryz.ntmps14
      go_wp2
      go_ret
      exact ⟨by rw [HR.out]; simp [h3], HB.out⟩
    · have HR : Hid (staleF seen now life = false) := by show _ = _; simp [staleF, h3]
      go_enter Tryz.func14, Tryz.ntmps14
      go_wp2
      go_ret
      exact ⟨by rw [HR.out]; simp [h3], HB.out⟩
  · have HR : Hid (staleF seen now life = false) := by show _ = _; simp [staleF, h2]
    go_enter Tryz.func14, Tryz.ntmps14
    go_wp2
    go_ret
    exact ⟨by rw [HR.out]; first | rfl | simp [h2] | simp; omega, HB.out⟩
theorem stale_any (m : SerM) (hf : SerFit m.s) (now life : Int) (h1 : U now) (w : World) :
    Calls Tryz.prog 14 #[serV m, .int .u64 now, .int .u64 life] w fun e w' => e = .returned (.bool (staleF m.s.seen now life)) ∧ Below w.heap.size w w' :=
  stale_gen _ _ _ _ _ _ _ _ _ _ _ rfl rfl rfl rfl rfl rfl rfl rfl rfl rfl rfl m.s.seen now life hf.seen h1 w
set_option maxRecDepth 100000 in
set_option maxHeartbeats 2000000 in
theorem wstale_any (m : SerM) (hf : SerFit m.s) (now life : Int) (h1 : U now) (w : World) :
    Calls Tryz.prog 21 #[.agg #[.int .u64 now, .int .u64 life], serV m] w fun e w' => e = .returned (.bool (staleF m.s.seen now life)) ∧ Below w.heap.size w w' := by
  have Q : Hid (∀ w, Calls Tryz.prog 14 #[serV m, .int .u64 now, .int .u64 life] w fun e w' => e = .returned (.bool (staleF m.s.seen now life)) ∧ Below w.heap.size w w') := fun w => stale_any m hf now life h1 w
  have HB := Lib.hid (below_al (below_al (below_0 w) (.cells #[.int .u64 now, .int .u64 life] 56)) (.cells (serA m) 50))
  clear hf
  generalize staleF m.s.seen now life = b at *
  unfold serV serA at *
  go_enter Tryz.func21, Tryz.ntmps21
  go_wp2_with fail
  refine (Q.out _).mono ?_
  rintro r w1 ⟨rfl, hb⟩
  go_wp2_with fail
  go_ret
  exact ⟨rfl, Below.two HB.out hb⟩
def nextS (life : Int) (p : Int × Bool) (s : Ser) : Int × Bool := if life = 18446744073709551615 ∨ 18446744073709551614 - life < s.seen then p else if p.2 = false ∨ s.seen + life + 1 < p.1 then (s.seen + life + 1, true) else p
/-- The least time at which one is stale. -/
def nextF (life : Int) (t : List Ser) : Int × Bool := t.foldl (nextS life) (0, false)
theorem nextF_succ {ms : List SerM} {k : Nat} (life : Int) (h : k < ms.length) : nextF life ((ms.map (·.s)).take (k + 1)) = nextS life (nextF life ((ms.map (·.s)).take k)) ms[k].s := by
  unfold nextF
  rw [List.take_succ_eq_append_getElem (by rw [List.length_map]; exact h), List.foldl_append]
  simp
set_option maxRecDepth 100000 in
set_option maxHeartbeats 8000000 in
theorem next_any (A : Option Addr) (ms : List SerM) (cap : Nat) (life : Int) (hlf : U life) (hl : ms.length ≤ 1000) (hf : ∀ m ∈ ms, SerFit m.s) (w : World) (hT : Tb w) (hS : Tab w w.heap.size A ms) :
    Calls Tryz.prog 12 #[.slice A ms.length cap, .int .u64 life] w fun e w' => e = .returned (if rightT (ms.map (·.s)) = true then .tuple #[.int .u64 (nextF life (ms.map (·.s))).1, .bool (nextF life (ms.map (·.s))).2] else .tuple #[.int .u64 0, .bool false]) ∧ Below w.heap.size w w' := by
  have QR := Lib.hid (sright_any A ms cap hl hf w hT hS)
  have HS := Lib.hid hS
  have HF := Lib.hid hf
  clear hS hf hT
  obtain ⟨lf0, lf1⟩ := hlf
  cases hr : rightT (ms.map (·.s)) with
  | false =>
    rw [hr] at QR
    rw [if_neg (by simp)]
    clear hr
    go_enter Tryz.func12, Tryz.ntmps12
    go_wp2_with fail
    refine QR.out.mono ?_
    rintro r w1 ⟨rfl, hb⟩
    go_wp2_with fail
    go_ret2
    exact ⟨rfl, hb⟩
  | true =>
    rw [hr] at QR
    rw [if_pos rfl]
    clear hr
    go_enter Tryz.func12, Tryz.ntmps12
    go_wp2_with fail
    refine QR.out.mono ?_
    rintro r w1 ⟨rfl, hb⟩
    have HB1 := Lib.hid hb
    clear hb QR
    go_wp2_with fail
    go_loopw [6, 7, 16] (fun n is i wr => ∃ k : Nat, i = .int .i64 (k : Int) ∧ k ≤ ms.length ∧ (∃ (q : Int) (f : Bool), n = .int .u64 q ∧ is = .bool f ∧ Hid (nextF life ((ms.map (·.s)).take k) = (q, f))) ∧ Hid (Below w.heap.size w wr)) (fun _ _ i _ => ms.length - (RowKit.intOf i).toNat)
    case atStart => exact ⟨0, rfl, Nat.zero_le _, ⟨0, false, rfl, rfl, rfl⟩, HB1.out⟩
    case round =>
      obtain ⟨k, rfl, hk, ⟨q, f, rfl, rfl, HE⟩, HB⟩ := hrel
      by_cases h1 : k < ms.length
      · have d1 : decide ((k : Int) < (ms.length : Int)) = true := decide_eq_true (by omega)
        obtain ⟨b, off, rfl, hb, hc⟩ := HS.out.at_ (by omega)
        obtain ⟨i0, i1, i2, i3, i4, i5, i6, i7, i8, i9, i10, i11⟩ := (hc k h1).below HB.out hb
        have hbw : b < wr.heap.size := by have := HB.out.size; omega
        have hi1 : (0 : Int) ≤ (k : Int) := by omega
        have hi2 : (k : Int) < (ms.length : Int) := by omega
        obtain ⟨sn0, sn1⟩ := (HF.out _ (List.getElem_mem h1)).seen
        have HN := Lib.hid (nextF_succ life h1)
        rw [HE.out] at HN
        have HB2 := Lib.hid (Below.two HB.out (below_al (below_0 wr) (.cells (serA ms[k]) 50)))
        unfold serA at HB2
        clear hc HE HB
        generalize ms[k] = m at *
        by_cases hm : life = 18446744073709551615
        · have bm : (life == 18446744073709551615) = true := by rw [beq_iff_eq]; exact hm
          have HR : Hid (nextF life ((ms.map (·.s)).take (k + 1)) = (q, f)) := HN.out.trans (by rw [nextS, if_pos (.inl hm)])
          clear HN hm
          go_wp2_with fail
          go_roundw
          case rel => exact ⟨k + 1, by go_num, by omega, ⟨q, f, rfl, rfl, HR.out⟩, HB2.out⟩
          case measure => simp [RowKit.intOf]; omega
        · have bm : (life == 18446744073709551615) = false := by rw [beq_eq_false_iff_ne]; exact hm
          have wm : IntKind.u64.wrap (18446744073709551614 - life) = 18446744073709551614 - life := IntWalk.u64_in _ (by omega)
          by_cases hs : 18446744073709551614 - life < m.s.seen
          · have bs : decide (18446744073709551614 - life < m.s.seen) = true := decide_eq_true hs
            have HR : Hid (nextF life ((ms.map (·.s)).take (k + 1)) = (q, f)) := HN.out.trans (by rw [nextS, if_pos (.inr hs)])
            clear HN hm
            go_wp2_with fail
            go_roundw
            case rel => exact ⟨k + 1, by go_num, by omega, ⟨q, f, rfl, rfl, HR.out⟩, HB2.out⟩
            case measure => simp [RowKit.intOf]; omega
          · have bs : decide (18446744073709551614 - life < m.s.seen) = false := decide_eq_false hs
            have w1' : IntKind.u64.wrap (m.s.seen + life) = m.s.seen + life := IntWalk.u64_in _ (by omega)
            have w2' : IntKind.u64.wrap (m.s.seen + life + 1) = m.s.seen + life + 1 := IntWalk.u64_in _ (by omega)
            have HN2 : Hid (nextF life ((ms.map (·.s)).take (k + 1)) = if f = false ∨ m.s.seen + life + 1 < q then (m.s.seen + life + 1, true) else (q, f)) := HN.out.trans (by rw [nextS, if_neg (fun h => h.elim hm hs)])
            clear HN hm hs
            cases f with
            | false =>
              have HR : Hid (nextF life ((ms.map (·.s)).take (k + 1)) = (m.s.seen + life + 1, true)) := HN2.out.trans (if_pos (.inl rfl))
              clear HN2
              go_wp2_with fail
              go_roundw
              case rel => exact ⟨k + 1, by go_num, by omega, ⟨_, true, rfl, rfl, HR.out⟩, HB2.out⟩
              case measure => simp [RowKit.intOf]; omega
            | true =>
              by_cases hq : m.s.seen + life + 1 < q
              · have bq : decide (m.s.seen + life + 1 < q) = true := decide_eq_true hq
                have HR : Hid (nextF life ((ms.map (·.s)).take (k + 1)) = (m.s.seen + life + 1, true)) := HN2.out.trans (if_pos (.inr hq))
                clear HN2 hq
                go_wp2_with fail
                go_roundw
                case rel => exact ⟨k + 1, by go_num, by omega, ⟨_, true, rfl, rfl, HR.out⟩, HB2.out⟩
                case measure => simp [RowKit.intOf]; omega
              · have bq : decide (m.s.seen + life + 1 < q) = false := decide_eq_false hq
                have HR : Hid (nextF life ((ms.map (·.s)).take (k + 1)) = (q, true)) := HN2.out.trans (if_neg (by simp; omega))
                clear HN2 hq
                go_wp2_with fail
                go_roundw
                case rel => exact ⟨k + 1, by go_num, by omega, ⟨_, true, rfl, rfl, HR.out⟩, HB2.out⟩
                case measure => simp [RowKit.intOf]; omega
      · have hkk : k = ms.length := by omega
        subst hkk
        have d1 : decide ((ms.length : Int) < (ms.length : Int)) = false := by simp
        have HR : Hid (nextF life (ms.map (·.s)) = (q, f)) := by
          have := HE.out
          rw [List.take_of_length_le (by rw [List.length_map]; exact Nat.le_refl _)] at this
          exact this
        clear HE
        go_wp2_with fail
        go_ret2
        exact ⟨by rw [HR.out]; rfl, HB.out⟩
end Go.Proofs.YtoffmclbnobllaaGreatDoor

/-
  clock.Advance, and the document's functions of chapter 14.
-/
import Derived.Test.YtoffmclbnobllaaGreatDoorCkR12
import Derived.Test.YtoffmclbnobllaaGreatDoorCkFew3
namespace Go.Proofs.YtoffmclbnobllaaGreatDoor
open Go.RowKit
set_option linter.unusedVariables false
set_option linter.unusedSimpArgs false
def advF (now next : Int) : Int × Int := if next < now then (0, 140) else (next, 0)
theorem advance_any (now next : Int) (w : World) : Calls Tryz.prog 6 #[.int .u64 now, .int .u64 next] w fun e w' => e = .returned (.tuple #[.int .u64 (advF now next).1, .int .i64 (advF now next).2]) ∧ w = w' := by
  by_cases h : next < now
  · have b : decide (next < now) = true := decide_eq_true h
    have HR : Hid (advF now next = (0, 140)) := by show _ = _; rw [advF, if_pos h]
    clear h
    go_enter Tryz.func6, Tryz.ntmps6
    go_wp2_with fail
    go_ret2
    exact ⟨by rw [HR.out]; rfl, rfl⟩
  · have b : decide (next < now) = false := decide_eq_false h
    have HR : Hid (advF now next = (next, 0)) := by show _ = _; rw [advF, if_neg h]
    clear h
    go_enter Tryz.func6, Tryz.ntmps6
    go_wp2_with fail
    go_ret2
    exact ⟨by rw [HR.out]; rfl, rfl⟩
theorem radvance_any (now next : Int) (w : World) : Calls Tryz.prog 7 #[.int .u64 now, .int .u64 next] w fun e w' => e = .returned (.tuple #[.int .u64 (advF now next).1, .int .i64 (advF now next).2]) ∧ w = w' := by
  by_cases h : next < now
  · have b : decide (next < now) = true := decide_eq_true h
    have HR : Hid (advF now next = (0, 140)) := by show _ = _; rw [advF, if_pos h]
    clear h
    go_enter Tryz.func7, Tryz.ntmps7
    go_wp2_with fail
    go_ret2
    exact ⟨by rw [HR.out]; rfl, rfl⟩
  · have b : decide (next < now) = false := decide_eq_false h
    have HR : Hid (advF now next = (next, 0)) := by show _ = _; rw [advF, if_neg h]
    clear h
    go_enter Tryz.func7, Tryz.ntmps7
    go_wp2_with fail
    go_ret2
    exact ⟨by rw [HR.out]; rfl, rfl⟩
theorem rstale_gen (c0 c1 c2 c3 c4 c5 c6 c7 c8 c9 c10 : Value) (o0 : c0.oneCell' = true) (o1 : c1.oneCell' = true) (o2 : c2.oneCell' = true) (o3 : c3.oneCell' = true) (o4 : c4.oneCell' = true) (o5 : c5.oneCell' = true) (o6 : c6.oneCell' = true) (o7 : c7.oneCell' = true) (o8 : c8.oneCell' = true) (o9 : c9.oneCell' = true) (o10 : c10.oneCell' = true)
    (seen now life : Int) (h0 : U seen) (h1 : U now) (w : World) :
    Calls Tryz.prog 15 #[.agg #[c0, c1, c2, c3, c4, c5, c6, c7, c8, c9, c10, .int .u64 seen], .int .u64 now, .int .u64 life] w fun e w' => e = .returned (.bool (staleF seen now life)) ∧ Below w.heap.size w w' := by
  obtain ⟨h0, hs⟩ := h0
  obtain ⟨h1, h1'⟩ := h1
  have HB := Lib.hid (below_al (below_0 w) (.cells #[c0, c1, c2, c3, c4, c5, c6, c7, c8, c9, c10, .int .u64 seen] 50))
  by_cases h2 : seen < now
  · by_cases h3 : life < now - seen
    · have HR : Hid (staleF seen now life = true) := by show _ = _; simp [staleF, h2, h3]
      go_enter Tryz.func15, Tryz.ntmps15
      go_wp2
      go_ret
      exact ⟨by rw [HR.out]; simp [h3], HB.out⟩
    · have HR : Hid (staleF seen now life = false) := by show _ = _; simp [staleF, h3]
      go_enter Tryz.func15, Tryz.ntmps15
      go_wp2
      go_ret
      exact ⟨by rw [HR.out]; simp [h3], HB.out⟩
  · have HR : Hid (staleF seen now life = false) := by show _ = _; simp [staleF, h2]
    go_enter Tryz.func15, Tryz.ntmps15
    go_wp2
    go_ret
    exact ⟨by rw [HR.out]; first | rfl | simp [h2] | simp; omega, HB.out⟩
theorem rstale_any (m : SerM) (hf : SerFit m.s) (now life : Int) (h1 : U now) (w : World) :
    Calls Tryz.prog 15 #[serV m, .int .u64 now, .int .u64 life] w fun e w' => e = .returned (.bool (staleF m.s.seen now life)) ∧ Below w.heap.size w w' :=
  rstale_gen _ _ _ _ _ _ _ _ _ _ _ rfl rfl rfl rfl rfl rfl rfl rfl rfl rfl rfl m.s.seen now life hf.seen h1 w
theorem right_nil : rightT [] = true := rfl
theorem next_nil (life : Int) : nextF life [] = (0, false) := rfl
set_option maxRecDepth 100000 in
set_option maxHeartbeats 8000000 in
theorem rnext_any (A : Option Addr) (ms : List SerM) (cap : Nat) (life : Int) (hlf : U life) (hl : ms.length ≤ 1000) (hf : ∀ m ∈ ms, SerFit m.s) (w : World) (hS : Tab w w.heap.size A ms) :
    Calls Tryz.prog 13 #[.slice A ms.length cap, .int .u64 life] w fun e w' => e = .returned (if rightT (ms.map (·.s)) = true then .tuple #[.int .u64 (nextF life (ms.map (·.s))).1, .bool (nextF life (ms.map (·.s))).2] else .tuple #[.int .u64 0, .bool false]) ∧ Below w.heap.size w w' := by
  have QR : Hid (∀ w1, Tab w1 w1.heap.size A ms → Calls Tryz.prog _ #[.slice A ms.length cap] w1 _) := fun w1 h => rrightT_any A ms cap hl hf w1 h
  have HS := Lib.hid hS
  have HF := Lib.hid hf
  have HN0 : Hid (rightT (ms.map (·.s)) = false → 0 < ms.length) := fun h => by
    cases ms with
    | nil => exact absurd h (by decide)
    | cons _ _ => simp
  clear hS hf
  obtain ⟨lf0, lf1⟩ := hlf
  cases hr : rightT (ms.map (·.s)) with
  | false =>
    have h0 := HN0.out hr
    rw [hr] at QR
    rw [if_neg (by simp)]
    clear hr HN0
    have d1 : decide ((0 : Int) < (ms.length : Int)) = true := decide_eq_true (by omega)
    have d2 : decide (0 < ms.length) = true := decide_eq_true h0
    go_enter Tryz.func13, Tryz.ntmps13
    go_wp2_with fail
    go_loopw [6, 7, 8] (fun n is i wr => n = .int .u64 0 ∧ is = .bool false ∧ i = .int .i64 0 ∧ Hid (Below w.heap.size w wr)) (fun _ _ i _ => 0)
    case atStart => exact ⟨rfl, rfl, rfl, below_0 _⟩
    case round =>
      obtain ⟨rfl, rfl, rfl, HB⟩ := hrel
      go_wp2_with fail
      refine (QR.out _ (HS.out.later HB.out)).mono ?_
      rintro r w1 ⟨rfl, hb⟩
      have HB1 := Lib.hid (Below.two HB.out hb)
      clear hb QR HB
      go_wp2_with fail
      go_ret2
      exact ⟨rfl, HB1.out⟩
  | true =>
    rw [hr] at QR
    rw [if_pos rfl]
    clear hr HN0
    go_enter Tryz.func13, Tryz.ntmps13
    go_wp2_with fail
    go_loopw [6, 7, 8] (fun n is i wr => ∃ k : Nat, i = .int .i64 (k : Int) ∧ k ≤ ms.length ∧ (∃ (q : Int) (f : Bool), n = .int .u64 q ∧ is = .bool f ∧ Hid (nextF life ((ms.map (·.s)).take k) = (q, f))) ∧ Hid (Below w.heap.size w wr)) (fun _ _ i _ => ms.length - (RowKit.intOf i).toNat)
    case atStart => exact ⟨0, rfl, Nat.zero_le _, ⟨0, false, rfl, rfl, rfl⟩, below_0 _⟩
    case round =>
      obtain ⟨k, rfl, hk, ⟨q, f, rfl, rfl, HE⟩, HB⟩ := hrel
      by_cases h1 : k < ms.length
      · have d1 : decide ((k : Int) < (ms.length : Int)) = true := decide_eq_true (by omega)
        obtain ⟨b, off, rfl, hb, hc⟩ := HS.out.at_ (by omega)
        have HC : Hid (∀ w', Below w.heap.size w w' → SerAt w' b (off + k * 12) ms[k]) := fun w' h => (hc k h1).below h hb
        have hi1 : (0 : Int) ≤ (k : Int) := by omega
        have hi2 : (k : Int) < (ms.length : Int) := by omega
        obtain ⟨sn0, sn1⟩ := (HF.out _ (List.getElem_mem h1)).seen
        have HN := Lib.hid (nextF_succ life h1)
        rw [HE.out] at HN
        have QR1 := Lib.hid (QR.out _ (HS.out.later HB.out))
        have HST := HS
        clear hc HE
        generalize ms[k] = m at *
        by_cases hs : life < 18446744073709551615 - m.s.seen
        · have ws : IntKind.u64.wrap (18446744073709551615 - m.s.seen) = 18446744073709551615 - m.s.seen := IntWalk.u64_in _ (by omega)
          have bs : decide (life < 18446744073709551615 - m.s.seen) = true := decide_eq_true hs
          have w1' : IntKind.u64.wrap (m.s.seen + life) = m.s.seen + life := IntWalk.u64_in _ (by omega)
          have w2' : IntKind.u64.wrap (m.s.seen + life + 1) = m.s.seen + life + 1 := IntWalk.u64_in _ (by omega)
          have HN2 : Hid (nextF life ((ms.map (·.s)).take (k + 1)) = if f = false ∨ m.s.seen + life + 1 < q then (m.s.seen + life + 1, true) else (q, f)) := HN.out.trans (by rw [nextS, if_neg (by omega)])
          clear HN hs
          cases f with
          | false =>
            have HR : Hid (nextF life ((ms.map (·.s)).take (k + 1)) = (m.s.seen + life + 1, true)) := HN2.out.trans (if_pos (.inl rfl))
            clear HN2
            go_wp2_with fail
            refine QR1.out.mono ?_
            rintro r w1 ⟨rfl, hb1⟩
            have HB2 := Lib.hid (Below.two HB.out hb1)
            have c11 := (HC.out _ HB2.out).c11
            clear hb1 QR1 HB
            go_wp2_with fail
            go_roundw
            case rel => exact ⟨k + 1, by go_num, by omega, ⟨_, true, rfl, rfl, HR.out⟩, HB2.out⟩
            case measure => simp [RowKit.intOf]; omega
          | true =>
            by_cases hq : m.s.seen + life + 1 < q
            · have bq : decide (m.s.seen + life + 1 < q) = true := decide_eq_true hq
              have HR : Hid (nextF life ((ms.map (·.s)).take (k + 1)) = (m.s.seen + life + 1, true)) := HN2.out.trans (if_pos (.inr hq))
              clear HN2 hq
              go_wp2_with fail
              refine QR1.out.mono ?_
              rintro r w1 ⟨rfl, hb1⟩
              have HB2 := Lib.hid (Below.two HB.out hb1)
              have c11 := (HC.out _ HB2.out).c11
              clear hb1 QR1 HB
              go_wp2_with fail
              go_roundw
              case rel => exact ⟨k + 1, by go_num, by omega, ⟨_, true, rfl, rfl, HR.out⟩, HB2.out⟩
              case measure => simp [RowKit.intOf]; omega
            · have bq : decide (m.s.seen + life + 1 < q) = false := decide_eq_false hq
              have HR : Hid (nextF life ((ms.map (·.s)).take (k + 1)) = (q, true)) := HN2.out.trans (if_neg (by simp; omega))
              clear HN2 hq
              go_wp2_with fail
              refine QR1.out.mono ?_
              rintro r w1 ⟨rfl, hb1⟩
              have HB2 := Lib.hid (Below.two HB.out hb1)
              have c11 := (HC.out _ HB2.out).c11
              clear hb1 QR1 HB
              go_wp2_with fail
              go_roundw
              case rel => exact ⟨k + 1, by go_num, by omega, ⟨_, true, rfl, rfl, HR.out⟩, HB2.out⟩
              case measure => simp [RowKit.intOf]; omega
        · have ws : IntKind.u64.wrap (18446744073709551615 - m.s.seen) = 18446744073709551615 - m.s.seen := IntWalk.u64_in _ (by omega)
          have bs : decide (life < 18446744073709551615 - m.s.seen) = false := decide_eq_false hs
          have HR : Hid (nextF life ((ms.map (·.s)).take (k + 1)) = (q, f)) := HN.out.trans (by rw [nextS, if_pos (by omega)])
          clear HN hs
          go_wp2_with fail
          refine QR1.out.mono ?_
          rintro r w1 ⟨rfl, hb1⟩
          have HB2 := Lib.hid (Below.two HB.out hb1)
          have c11 := (HC.out _ HB2.out).c11
          clear hb1 QR1 HB
          go_wp2_with fail
          go_roundw
          case rel => exact ⟨k + 1, by go_num, by omega, ⟨q, f, rfl, rfl, HR.out⟩, HB2.out⟩
          case measure => simp [RowKit.intOf]; omega
      · have hkk : k = ms.length := by omega
        subst hkk
        have d1 : decide ((ms.length : Int) < (ms.length : Int)) = false := by simp
        have HR : Hid (nextF life (ms.map (·.s)) = (q, f)) := by
          have := HE.out
          rw [List.take_of_length_le (by rw [List.length_map]; exact Nat.le_refl _)] at this
          exact this
        clear HE
        go_wp2_with fail
        go_ret2
        exact ⟨by rw [HR.out]; rfl, HB.out⟩
theorem filter_succ {ms : List SerM} {k : Nat} {p : Ser → Bool} (h : k < ms.length) : ((ms.map (·.s)).take (k + 1)).filter p = ((ms.map (·.s)).take k).filter p ++ (if p ms[k].s = true then [ms[k].s] else []) := by
  rw [List.take_succ_eq_append_getElem (by rw [List.length_map]; exact h), List.filter_append]
  simp only [List.getElem_map, List.filter_cons, List.filter_nil]
set_option maxRecDepth 100000 in
set_option maxHeartbeats 16000000 in
theorem rexpire_any (A : Option Addr) (ms : List SerM) (cap : Nat) (now life : Int) (hu : U now) (hl : ms.length ≤ 1000) (hf : ∀ m ∈ ms, SerFit m.s) (w : World) (hS : Tab w w.heap.size A ms) :
    Calls Tryz.prog 9 #[.slice A ms.length cap, .int .u64 now, .int .u64 life] w (ExpRet w (ms.map (·.s)) now life) := by
  have QR := Lib.hid (rrightT_any A ms cap hl hf w hS)
  have HS := Lib.hid hS
  have HF := Lib.hid hf
  clear hS hf
  cases hr : rightT (ms.map (·.s)) with
  | false =>
    rw [hr] at QR
    have HRT := Lib.hid hr
    clear hr
    go_enter Tryz.func9, Tryz.ntmps9
    go_wp2_with fail
    refine QR.out.mono ?_
    rintro r w1 ⟨rfl, hb⟩
    go_wp2_with fail
    go_ret3
    exact ExpRet.no HRT.out hb
  | true =>
    rw [hr] at QR
    have HRT := Lib.hid hr
    clear hr
    obtain ⟨i0, hi0, hz0, hz1, hz2⟩ := info_parts Tryz.infoSer
    go_enter Tryz.func9, Tryz.ntmps9
    go_wp2_with fail
    refine QR.out.mono ?_
    rintro r w1 ⟨rfl, hb⟩
    have HB1 := Lib.hid hb
    clear hb QR
    go_wp2_with fail
    go_loopw [9, 10] (fun v i wr => ∃ (k : Nat) (cs : List SerM), i = .int .i64 (k : Int) ∧ k ≤ ms.length ∧ cs.length ≤ k ∧ Hid (cs.map (·.s) = ((ms.map (·.s)).take k).filter (freshF now life)) ∧ Hid (OTab wr w.heap.size v cs) ∧ Hid (Below w.heap.size w wr)) (fun _ i _ => ms.length - (RowKit.intOf i).toNat)
    case atStart => exact ⟨0, [], rfl, Nat.zero_le _, Nat.le_refl _, by show _ = _; simp, ⟨⟨by simp [tabC], .inl ⟨rfl, rfl⟩⟩, fun m hm => (by simp at hm), fun m hm => (by simp at hm)⟩, HB1.out⟩
    case round =>
      clear HB1
      obtain ⟨k, cs, rfl, hk, hcl, HE, HO, HB⟩ := hrel
      by_cases h1 : k < ms.length
      · have d1 : decide ((k : Int) < (ms.length : Int)) = true := decide_eq_true (by omega)
        obtain ⟨b, off, rfl, hb, hc⟩ := HS.out.at_ (by omega)
        obtain ⟨i0', i1, i2, i3, i4, i5, i6, i7, i8, i9, i10, i11⟩ := (hc k h1).below HB.out hb
        have HC : Hid (∀ w', Below w.heap.size w w' → SerAt w' b (off + k * 12) ms[k]) := fun w' h => (hc k h1).below h hb
        have hbw : b < wr.heap.size := by have := HB.out.size; omega
        have hi1 : (0 : Int) ≤ (k : Int) := by omega
        have hi2 : (k : Int) < (ms.length : Int) := by omega
        have HFS := Lib.hid (filter_succ (p := freshF now life) h1)
        rw [← HE.out] at HFS
        have HOK0 := Lib.hid (HS.out.ok _ (List.getElem_mem h1))
        have QT : Hid (∀ w, Calls Tryz.prog _ #[serV ms[k], .int .u64 now, .int .u64 life] w _) := fun w => rstale_any ms[k] (HF.out _ (List.getElem_mem h1)) now life hu w
        clear hc HE
        generalize ms[k] = m at *
        cases hst : staleF m.s.seen now life with
        | true =>
          have HM6 : Hid (cs.map (·.s) = ((ms.map (·.s)).take (k + 1)).filter (freshF now life)) := by
            show _ = _
            rw [HFS.out, if_neg (by simp [freshF, hst]), List.append_nil]
          rw [hst] at QT
          unfold serV at QT
          clear hst HFS
          go_wp2_with fail
          refine (QT.out _).mono ?_
          rintro r w5 ⟨rfl, hb5⟩
          have HB5 := Lib.hid (Below.two HB.out hb5)
          have HO5 := Lib.hid (HO.out.later hb5)
          clear QT hb5 HB HO HOK0 i0' i1 i2 i3 i4 i5 i6 i7 i8 i9 i10 i11
          go_wp2_with fail
          go_roundw
          case rel => exact ⟨k + 1, cs, by go_num, by omega, by omega, HM6.out, HO5.out, HB5.out⟩
          case measure => simp [RowKit.intOf]; omega
        | false =>
          have HM6 : Hid ((cs ++ [m]).map (·.s) = ((ms.map (·.s)).take (k + 1)).filter (freshF now life)) := by
            show _ = _
            rw [HFS.out, if_pos (by simp [freshF, hst]), List.map_append]; rfl
          rw [hst] at QT
          unfold serV at QT
          clear hst HFS
          go_wp2_with fail
          refine (QT.out _).mono ?_
          rintro r w5 ⟨rfl, hb5⟩
          have HB5 := Lib.hid (Below.two HB.out hb5)
          have HO5 := Lib.hid (HO.out.later hb5)
          clear QT hb5 HB HO i0' i1 i2 i3 i4 i5 i6 i7 i8 i9 i10 i11
          obtain ⟨i0', i1, i2, i3, i4, i5, i6, i7, i8, i9, i10, i11⟩ := HC.out _ HB5.out
          have hbw5 : b < w5.heap.size := by have := HB5.out.size; omega
          have BX : Blk (World.alloc w5 (.cells (serA m) 50)) w5.heap.size 50 (serA m) := Blk.new w5 50 (serA m)
          have HBA : Hid (Below w.heap.size w (World.alloc w5 (.cells (serA m) 50))) := below_al HB5.out _
          have SOK : Hid (SerOk (World.alloc w5 (.cells (serA m) 50)) (World.alloc w5 (.cells (serA m) 50)).heap.size m) := (HOK0.out.later HBA.out)
          have hAs : (World.alloc w5 (.cells (serA m) 50)).heap.size = w5.heap.size + 1 := by simp
          have hs1 := HB5.out.size
          have SAP : Hid (∀ v : Option Nat, (∀ q, v = some q → w.heap.size ≤ q) → Apart v m) := fun v hv => by
            cases v with
            | none => exact ⟨fun _ _ _ e => (nomatch e), fun _ _ _ e => (nomatch e), fun _ _ _ e => (nomatch e), fun _ _ _ e => (nomatch e)⟩
            | some q => exact HOK0.out.apart (hv q rfl)
          have HOWN := Lib.hid (fun q e => own_n HO5.out.own q e)
          have rdN := rd_box BX
          have hcs : cs.length ≤ 1000 := by omega
          unfold serA at rdN HBA SOK
          go_wp2_with (at_builtin; refine wpList_append_rd _ rfl (.tmp 28) (.tmp 33) 22 rfl w.heap.size 50 i0 _ 12 168 Tryz.underlying22 hi0 hz0 hz1 hz2 rfl (by decide) _ cs.length _ rfl (HO5.out.own.alloc _) (w5.heap.size + 1) (some ⟨w5.heap.size, 0, none⟩) 1 1 (serC m) rfl (by rw [serC_len]) rdN (serC_one _) (by unfold maxLen; omega) (by omega) (by simp; omega) ?_; intro v' W6 hown6 hg6 hv6)
          have HO6 : Hid (OTab W6 w.heap.size v' (cs ++ [m])) := by
            refine ⟨by rw [List.length_append, tabC_snoc]; exact hown6, fun m0 hm0 => ?_, fun m0 hm0 => ?_⟩
            · rcases List.mem_append.1 hm0 with h | h
              · exact (((HO5.out.later (below_al (below_0 _) _)).ok m0 h).grown hg6 (HO5.out.ap m0 h))
              · simp at h; subst h
                exact SOK.out.grown hg6 (SAP.out _ (fun q e => (HOWN.out q e).1))
            · rcases hv6 with e | e
              · rw [e]
                rcases List.mem_append.1 hm0 with h | h
                · exact HO5.out.ap m0 h
                · simp at h; subst h
                  exact SAP.out _ (fun q e => (HOWN.out q e).1)
              · rw [e]
                rcases List.mem_append.1 hm0 with h | h
                · exact ((HO5.out.later (below_al (below_0 _) _)).ok m0 h).apart (Nat.le_refl _)
                · simp at h; subst h
                  exact SOK.out.apart (Nat.le_refl _)
          have HB6 : Hid (Below w.heap.size w W6) := HBA.out.grown hg6 HBA.out.size (fun q e => (HOWN.out q e).1)
          clear hown6 hg6 hv6 HO5 HBA SOK SAP HOWN rdN BX HB5 HOK0
          go_wp2_with fail
          go_roundw
          case rel => exact ⟨k + 1, _, by go_num, by omega, by rw [List.length_append, List.length_singleton]; omega, HM6.out, HO6.out, HB6.out⟩
          case measure => simp [RowKit.intOf]; omega
      · have hkk : k = ms.length := by omega
        subst hkk
        have d1 : decide ((ms.length : Int) < (ms.length : Int)) = false := by simp
        have HFM : Hid (cs.map (·.s) = (ms.map (·.s)).filter (freshF now life)) := by
          have := HE.out
          rw [List.take_of_length_le (by rw [List.length_map]; exact Nat.le_refl _)] at this
          exact this
        obtain ⟨A3, c3, rfl, _, _, _⟩ := own_rd HO.out.own
        have hw9 : IntKind.i64.wrap ((ms.length : Int) - (cs.length : Int)) = (ms.length : Int) - (cs.length : Int) := IntWalk.i64_in _ (by omega)
        clear HE
        go_wp2_with fail
        go_ret3
        exact ExpRet.yes HRT.out HB.out rfl (by rw [List.length_map]) HFM.out HO.out
set_option maxRecDepth 100000 in
set_option maxHeartbeats 8000000 in
theorem rtouch_any (A : Option Addr) (ms : List SerM) (cap : Nat) (at_ now : Int) (hl : ms.length ≤ 1000) (hf : ∀ m ∈ ms, SerFit m.s) (w : World) (hS : Tab w w.heap.size A ms) :
    Calls Tryz.prog 11 #[.slice A ms.length cap, .int .i64 at_, .int .u64 now] w (TouRet w (ms.map (·.s)) at_ now) := by
  have QR := Lib.hid (rrightT_any A ms cap hl hf w hS)
  have HS := Lib.hid hS
  have HF := Lib.hid hf
  clear hS hf
  cases hr : rightT (ms.map (·.s)) with
  | false =>
    rw [hr] at QR
    have HRT := Lib.hid hr
    clear hr
    go_enter Tryz.func11, Tryz.ntmps11
    go_wp2_with fail
    refine QR.out.mono ?_
    rintro r w1 ⟨rfl, hb⟩
    go_wp2_with fail
    go_ret2
    exact TouRet.no (.inl HRT.out) hb
  | true =>
    rw [hr] at QR
    have HRT := Lib.hid hr
    clear hr
    by_cases h0 : at_ < 0
    · have b0 : decide (at_ < 0) = true := decide_eq_true h0
      have H0 := Lib.hid h0
      clear h0
      go_enter Tryz.func11, Tryz.ntmps11
      go_wp2_with fail
      refine QR.out.mono ?_
      rintro r w1 ⟨rfl, hb⟩
      go_wp2_with fail
      go_ret2
      exact TouRet.no (.inr (.inl H0.out)) hb
    · obtain ⟨k, rfl⟩ : ∃ k : Nat, at_ = (k : Int) := ⟨at_.toNat, by omega⟩
      have b0 : decide ((k : Int) < 0) = false := decide_eq_false h0
      clear h0
      by_cases h1 : k < ms.length
      · have b1 : decide ((ms.length : Int) ≤ (k : Int)) = false := decide_eq_false (by omega)
        have b2 : decide (ms.length ≤ k) = false := decide_eq_false (by omega)
        have hi1 : (0 : Int) ≤ (k : Int) := by omega
        have hi2 : (k : Int) < (ms.length : Int) := by omega
        obtain ⟨b, off, rfl, hb, hc⟩ := HS.out.at_ (by omega)
        have c11 := Lib.hid (hc k h1).c11
        clear hc
        have HK : Hid (∃ h : k < (ms.map (·.s)).length, (ms.map (·.s))[k] = ms[k].s) := ⟨by rw [List.length_map]; exact h1, by rw [List.getElem_map]⟩
        generalize hse : ms[k].s.seen = se at *
        have HSE := Lib.hid hse
        clear hse
        go_enter Tryz.func11, Tryz.ntmps11
        go_wp2_with fail
        refine QR.out.mono ?_
        rintro r w1 ⟨rfl, hb1⟩
        have HB1 := Lib.hid hb1
        have i11 := (hb1.cell (p := ⟨b, off + k * 12 + 11, none⟩) hb).trans c11.out
        clear hb1 QR
        by_cases hs : now < se
        · have bs : decide (now < se) = true := decide_eq_true hs
          have HLATE := Lib.hid hs
          clear hs
          go_wp2_with fail
          go_ret2
          obtain ⟨h, e⟩ := HK.out
          exact TouRet.late HRT.out h (by rw [e, HSE.out]; exact HLATE.out) HB1.out
        · have bs : decide (now < se) = false := decide_eq_false hs
          have HNOT : Hid (se ≤ now) := by show _ ≤ _; omega
          clear hs
          obtain ⟨i0, hi0, hz0, hz1, hz2⟩ := info_parts Tryz.infoSer
          have hml : 0 < ms.length := by omega
          have HTB := Lib.hid (HS.out.later HB1.out)
          have HAP : Hid (∀ (v : Option Nat), (∀ q, v = some q → w1.heap.size ≤ q) → ∀ m ∈ ms, Apart v m) := fun v hv m hm => by
            cases v with
            | none => exact ⟨fun _ _ _ e => (nomatch e), fun _ _ _ e => (nomatch e), fun _ _ _ e => (nomatch e), fun _ _ _ e => (nomatch e)⟩
            | some q => exact (HTB.out.ok m hm).apart (hv q rfl)
          go_wp2_with (at_builtin; refine wpList_append_rd _ rfl (.tmp 29) (.tmp 30) 22 rfl w1.heap.size 50 i0 _ 12 168 Tryz.underlying22 hi0 hz0 hz1 hz2 rfl (by decide) (.slice none 0 0) 0 [] rfl ⟨by simp, .inl ⟨rfl, rfl⟩⟩ w1.heap.size (some ⟨b, off, none⟩) ms.length cap (tabC ms) rfl (by rw [tabC_len, Nat.mul_comm]) HTB.out.rd (fun u hu => by obtain ⟨m, _, h⟩ := List.mem_flatMap.1 hu; exact serC_one m u h) (by unfold maxLen; omega) (by omega) (Nat.le_refl _) ?_; intro v w2 hown2 hg2 hv2)
          rw [Nat.zero_add, List.nil_append] at hown2
          have hb2 : Below w1.heap.size w1 w2 := (below_0 w1).grown hg2 (Nat.le_refl _) (fun q e => (nomatch e))
          obtain ⟨cs, hcs⟩ : ∃ cs, cs = ms := ⟨_, rfl⟩
          have hot : OTab w2 w1.heap.size v cs := by
            subst hcs
            refine ⟨hown2, fun m hm => (HTB.out.ok m hm).later hb2, fun m hm => HAP.out _ (fun q e => ?_) m hm⟩
            exact (own_n hown2 q e).1
          have hcl : cs.length = ms.length := by rw [hcs]
          have hmap : cs.map (·.s) = ms.map (·.s) := by rw [hcs]
          clear hown2 hg2 hv2 HAP HTB hcs
          have hkc : k < cs.length := by omega
          obtain ⟨g, c, arr, rfl, hBg, hg, hblk, hnc, hcm⟩ := own_pos hot.own (by omega)
          have HB2 := Lib.hid (Below.two HB1.out hb2)
          obtain ⟨b', off', e3, hgl, hcells⟩ := hot.tab.at_ (by omega)
          cases e3
          have q11 := (serAt0 (hcells k hkc)).c11
          have f11 := hblk.frozen (k * 12 + 11)
          have hst := hot.own.stored (k * 12 + 11) (.int .u64 now)
          have hown := hst.1
          rw [tabC_set1 cs k (seenAt cs[k] now) _ hkc (by rfl)] at hown
          have hgr := hst.2
          have HOT : Hid (OTab (w2.setCell ⟨g, k * 12 + 11, none⟩ (.int .u64 now)) w.heap.size (.slice (some ⟨g, 0, none⟩) cs.length c) (cs.set k (seenAt cs[k] now))) := by
            refine ⟨by rw [List.length_set]; exact own_base hown HB1.out.size, fun m0 h => ?_, fun m0 h => ?_⟩
            · rcases List.mem_or_eq_of_mem_set h with h | h
              · exact (hot.ok m0 h).grown hgr (hot.ap m0 h)
              · subst h
                have := (hot.ok cs[k] (List.getElem_mem hkc)).grown hgr (hot.ap cs[k] (List.getElem_mem hkc))
                exact ⟨this.l, this.k⟩
            · rcases List.mem_or_eq_of_mem_set h with h | h
              · exact hot.ap m0 h
              · subst h; exact hot.ap cs[k] (List.getElem_mem hkc)
          have HB3 : Hid (Below w.heap.size w (w2.setCell ⟨g, k * 12 + 11, none⟩ (.int .u64 now))) := HB2.out.setCell (by have := HB1.out.size; show w.heap.size ≤ g; omega) _
          have HMS : Hid ((cs.set k (seenAt cs[k] now)).map (·.s) = (ms.map (·.s)).set k { ms[k].s with seen := now }) := by
            show _ = _
            rw [map_set_s, hmap]
            congr 1
            have e : cs[k].s = ms[k].s := by
              have : (cs.map (·.s))[k]? = (ms.map (·.s))[k]? := by rw [hmap]
              simpa [hkc, h1] using this
            unfold seenAt
            simp only [e]
          rw [hcl] at HOT
          have hi3 : (k : Int) < (cs.length : Int) := by omega
          clear hst hown hgr hot hmap hb2 hcells hblk HB2 i11
          go_wp2_with fail
          go_ret2
          obtain ⟨h, e⟩ := HK.out
          exact TouRet.yes HRT.out h (by rw [e, HSE.out]; exact HNOT.out) HB3.out (by rw [List.length_set, hcl]) (by rw [e]; exact HMS.out) HOT.out
      · have b1 : decide ((ms.length : Int) ≤ (k : Int)) = true := decide_eq_true (by omega)
        have b2 : decide (ms.length ≤ k) = true := decide_eq_true (by omega)
        have H1 : Hid (((ms.map (·.s)).length : Int) ≤ (k : Int)) := by show _ ≤ _; rw [List.length_map]; omega
        clear h1
        go_enter Tryz.func11, Tryz.ntmps11
        go_wp2_with fail
        refine QR.out.mono ?_
        rintro r w1 ⟨rfl, hb⟩
        go_wp2_with fail
        go_ret2
        exact TouRet.no (.inr (.inr H1.out)) hb
end Go.Proofs.YtoffmclbnobllaaGreatDoor

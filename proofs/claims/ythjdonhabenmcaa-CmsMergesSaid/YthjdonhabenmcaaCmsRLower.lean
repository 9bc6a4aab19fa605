/-
  The walk of the reference's Lower.
-/
import Derived.Test.YthjdonhabenmcaaCmsRMerge
import Derived.Test.YthjdonhabenmcaaCmsLower
namespace Go.Proofs.Ythjdonhabenmcaa
open Go.RowKit
set_option linter.unusedVariables false
/-- The first n counters of half as many columns. -/
def halfL (H : Nat) (l : List Int) (n : Nat) : List Int := (List.range n).map (halfF H l)
theorem halfL_succ (H : Nat) (l : List Int) (n : Nat) : halfL H l (n + 1) = halfL H l n ++ [halfF H l n] := by simp [halfL, List.range_succ]
theorem length_halfL (H : Nat) (l : List Int) (n : Nat) : (halfL H l n).length = n := by simp [halfL]
theorem halfL_all (H : Nat) (l : List Int) (n : Nat) : halfL H l n = chgAll (fun p _ => halfF H l p) (List.replicate n 0) (List.range n) :=
  list_ext (by rw [length_halfL, length_chgAll]; simp) (fun i hi => by
    rw [length_halfL] at hi
    rw [nth_chgAll _ _ _ _ (fun p hp => by rw [List.length_replicate]; exact List.mem_range.1 hp) List.nodup_range, if_pos (List.mem_range.2 hi)]
    simp [nth, halfL, hi])
theorem mul_add_dm' {a b c : Nat} (hc : c < b) : (a * b + c) / b = a ∧ (a * b + c) % b = c :=
  ⟨by rw [Nat.add_comm, Nat.add_mul_div_right _ _ (by omega), Nat.div_eq_of_lt hc, Nat.zero_add], by rw [Nat.add_comm, Nat.add_mul_mod_self_right, Nat.mod_eq_of_lt hc]⟩
theorem rlower_bad (r c : Int) (A : Option Addr) (l : List Int) (cap : Nat) (w : World) (hr : rightC r c l.length = false) :
    Calls Try.prog 29 #[.agg #[.int .i64 r, .int .i64 c, .slice A l.length cap]] w (CRes w (lowerC ⟨r, c, l⟩)) := by
  have HR : Hid (lowerC ⟨r, c, l⟩ = (Cm.none, 80)) := by show lowerC _ = _; rw [lowerC, if_neg (by simp [hr])]
  have H := Lib.hid hr
  clear hr
  go_enter Try.func29, Try.ntmps29
  go_wp2_with fail
  refine (rright_any r c A l.length cap _).mono ?_
  rintro e w' ⟨rfl, rfl⟩
  rw [H.out]
  go_wp2_with fail
  refine bodyPost_ret (v := .tuple #[.agg #[.int .i64 0, .int .i64 0, .slice none 0 0], .int .i64 80]) (by simp [results, Try.results29, go_sem]) rfl
    ⟨below_al (below_al (below_al (below_0 _) _) _) _, .slice none 0 0, by rw [HR.out]; rfl, ?_⟩
  rw [HR.out]
  exact held_nil _ _
theorem rlower_four (r : Int) (A : Option Addr) (l : List Int) (cap : Nat) (w : World) (hr : rightC r 4 l.length = true) :
    Calls Try.prog 29 #[.agg #[.int .i64 r, .int .i64 4, .slice A l.length cap]] w (CRes w (lowerC ⟨r, 4, l⟩)) := by
  have HR : Hid (lowerC ⟨r, 4, l⟩ = (Cm.none, 80)) := by show lowerC _ = _; rw [lowerC, if_neg (by simp)]
  have H := Lib.hid hr
  clear hr
  go_enter Try.func29, Try.ntmps29
  go_wp2_with fail
  refine (rright_any r 4 A l.length cap _).mono ?_
  rintro e w' ⟨rfl, rfl⟩
  rw [H.out]
  go_wp2_with fail
  refine bodyPost_ret (v := .tuple #[.agg #[.int .i64 0, .int .i64 0, .slice none 0 0], .int .i64 80]) (by simp [results, Try.results29, go_sem]) rfl
    ⟨below_al (below_al (below_al (below_0 _) _) _) _, .slice none 0 0, by rw [HR.out]; rfl, ?_⟩
  rw [HR.out]
  exact held_nil _ _
set_option maxHeartbeats 2000000 in
theorem rlower_good (R H : Nat) (A : Option Addr) (l : List Int) (cap : Nat) (hU : Us l) (w : World) (hS : Sl w w.heap.size A l) (hr : rightC R (2 * (H : Int)) l.length = true) (h4 : H ≠ 2) :
    Calls Try.prog 29 #[.agg #[.int .i64 R, .int .i64 (2 * (H : Int)), .slice A l.length cap]] w (CRes w (lowerC ⟨R, (2 * (H : Int)), l⟩)) := by
  obtain ⟨q1, q2, q3⟩ := shape_of (right_of hr).1
  have hl : l.length = R * (2 * H) := by
    have := (right_of hr).2
    rw [show (R : Int) * (2 * (H : Int)) = ((R * (2 * H) : Nat) : Int) by simp] at this
    omega
  have hd : (2 * (H : Int)) / 2 = (H : Int) := by omega
  have hn : ((R : Int) * (H : Int)).toNat = R * H := by rw [← Int.natCast_mul, Int.toNat_natCast]
  have HR : Hid (lowerC ⟨R, (2 * (H : Int)), l⟩ = (⟨R, H, halfL H l (R * H)⟩, 0)) := by
    show lowerC _ = _
    rw [lowerC, if_pos ⟨hr, by show (2 * (H : Int)) ≠ 4; omega⟩]
    simp only [hd, hn, Int.toNat_natCast, halfL_all]
  have q4 : R ≤ 4 := by omega
  have q5 : 0 < H := by omega
  have q6 : H ≤ 16 := by omega
  have q7 : 1 ≤ R := by omega
  have hl0 : 0 < l.length := by rw [hl]; exact Nat.mul_pos q7 (by omega)
  have hlb : l.length ≤ 128 := by rw [hl]; exact Nat.le_trans (Nat.mul_le_mul q4 (show 2 * H ≤ 32 by omega)) (by omega)
  obtain ⟨bx, ox, rfl, hbx, hcx⟩ := hS.at_ hl0
  have DA : Below w.heap.size w (((w.alloc (.cells #[.int .i64 R, .int .i64 (2 * (H : Int)), .slice (some ⟨bx, ox, none⟩) l.length cap] 24)).alloc (.cells #[.int .i64 0, .int .i64 0, .slice none 0 0] 24)).alloc (.cells #[.int .i64 R, .int .i64 (2 * (H : Int)), .slice (some ⟨bx, ox, none⟩) l.length cap] 24)) := refW_below R (2 * (H : Int)) (some ⟨bx, ox, none⟩) l cap w
  have X : Hid (Blk (((w.alloc (.cells #[.int .i64 R, .int .i64 (2 * (H : Int)), .slice (some ⟨bx, ox, none⟩) l.length cap] 24)).alloc (.cells #[.int .i64 0, .int .i64 0, .slice none 0 0] 24)).alloc (.cells #[.int .i64 R, .int .i64 (2 * (H : Int)), .slice (some ⟨bx, ox, none⟩) l.length cap] 24)) w.heap.size 24 #[.int .i64 R, .int .i64 (2 * (H : Int)), .slice (some ⟨bx, ox, none⟩) l.length cap]) := refW_x R (2 * (H : Int)) (some ⟨bx, ox, none⟩) l cap w
  have Z : Hid (Blk (((w.alloc (.cells #[.int .i64 R, .int .i64 (2 * (H : Int)), .slice (some ⟨bx, ox, none⟩) l.length cap] 24)).alloc (.cells #[.int .i64 0, .int .i64 0, .slice none 0 0] 24)).alloc (.cells #[.int .i64 R, .int .i64 (2 * (H : Int)), .slice (some ⟨bx, ox, none⟩) l.length cap] 24)) (w.heap.size + 1) 24 #[.int .i64 0, .int .i64 0, .slice none 0 0]) := refW_r R (2 * (H : Int)) (some ⟨bx, ox, none⟩) l cap w
  have HCX := Lib.hid hcx
  have HL := Lib.hid hl
  have HH := Lib.hid hr
  have d4 : ((2 * (H : Int)) == 4) = false := by simp; omega
  obtain ⟨i0, hi0, hz0, hz1, hz2⟩ := info_parts Try.infoU64
  clear hr hl hd hn hS hcx q1 q2 q3
  go_enter Try.func29, Try.ntmps29
  go_wp2_with fail
  refine (rright_any _ _ _ l.length cap _).mono ?_
  rintro e w' ⟨rfl, rfl⟩
  rw [HH.out]
  go_wp2_with fail
  clear d4
  generalize (((w.alloc (.cells #[.int .i64 R, .int .i64 (2 * (H : Int)), .slice (some ⟨bx, ox, none⟩) l.length cap] 24)).alloc (.cells #[.int .i64 0, .int .i64 0, .slice none 0 0] 24)).alloc (.cells #[.int .i64 R, .int .i64 (2 * (H : Int)), .slice (some ⟨bx, ox, none⟩) l.length cap] 24)) = V at *
  go_loopw [5, 6] (fun v i wr => ∃ k : Nat, k ≤ R ∧ i = .int .i64 k ∧ wr.ownsRow V.heap.size 25 1 v (k * H) ((halfL H l (k * H)).map (Value.int .u64)) ∧ Below V.heap.size V wr) (fun _ i _ => R - (intOf i).toNat)
  case atStart => exact ⟨0, Nat.zero_le _, rfl, by rw [Nat.zero_mul]; exact World.ownsRow_nil _ _ _ _, below_0 _⟩
  case round =>
    obtain ⟨k, hk, rfl, hown, hb⟩ := hrel
    have HX := Lib.hid (X.out.later hb)
    have x0 := HX.out.c0
    have zx := HX.out.lt
    by_cases hlt : k < R
    · obtain ⟨wo, hwo⟩ : ∃ wo : World, wr = wo := ⟨_, rfl⟩
      rw [hwo] at hown hb HX x0 zx ⊢
      clear hwo
      have HO := Lib.hid hown
      clear hown
      go_wp2_with fail
      clear x0
      go_loopw [5, 7] (fun v i wr => ∃ j : Nat, j ≤ H ∧ i = .int .i64 j ∧ wr.ownsRow V.heap.size 25 1 v (k * H + j) ((halfL H l (k * H + j)).map (Value.int .u64)) ∧ Below V.heap.size V wr) (fun _ i _ => H - (intOf i).toNat)
      case atStart => exact ⟨0, Nat.zero_le _, rfl, HO.out, hb⟩
      case round =>
        obtain ⟨j, hj, rfl, hown2, hb2⟩ := hrel
        have HX2 := Lib.hid (X.out.later hb2)
        have DB := Below.two DA hb2
        by_cases hlj : j < H
        · obtain ⟨Av, cv, rfl, _, _, _⟩ := owns_form hown2
          have HO2 := Lib.hid hown2
          clear hown2
          have hkH : k * (2 * H) + 2 * H ≤ R * (2 * H) := by have := Nat.mul_le_mul_right (2 * H) hlt; rw [Nat.succ_mul] at this; exact this
          obtain ⟨q, hq⟩ : ∃ q, k * (2 * H) + j = q := ⟨_, rfl⟩
          obtain ⟨q', hq'⟩ : ∃ q', q + H = q' := ⟨_, rfl⟩
          have hql : q < l.length := by rw [HL.out]; omega
          have hql' : q' < l.length := by rw [HL.out]; omega
          have hfr : fromF H (k * H + j) = q := by
            obtain ⟨a1, a2⟩ := mul_add_dm' (a := k) hlj
            rw [fromF, a1, a2]; exact hq
          have HZS : Hid (halfL H l (k * H + (j + 1)) = halfL H l (k * H + j) ++ [sat (nth l q) (nth l q')]) := by
            show _ = _
            rw [← Nat.add_assoc, halfL_succ, halfF, hfr, hq']
          have hc1 : (k : Int) * (2 * (H : Int)) = ((k * (2 * H) : Nat) : Int) := by simp
          have m1 : 0 ≤ (k : Int) * (2 * (H : Int)) := by rw [hc1]; omega
          have m2 : (k : Int) * (2 * (H : Int)) ≤ 128 := by rw [hc1]; rw [HL.out] at hlb; omega
          have w1 : IntKind.i64.wrap ((k : Int) * (2 * (H : Int))) = (k : Int) * (2 * (H : Int)) := IntWalk.i64_in _ (by omega)
          have w2 : IntKind.i64.wrap ((k : Int) * (2 * (H : Int)) + (j : Int)) = (q : Int) := by rw [IntWalk.i64_in _ (by omega), hc1]; omega
          have w3 : IntKind.i64.wrap ((k : Int) * (2 * (H : Int)) + (H : Int)) = (k : Int) * (2 * (H : Int)) + (H : Int) := IntWalk.i64_in _ (by omega)
          have w4 : IntKind.i64.wrap ((k : Int) * (2 * (H : Int)) + (H : Int) + (j : Int)) = (q' : Int) := by rw [IntWalk.i64_in _ (by omega), hc1]; omega
          have CX0 := Lib.hid (HCX.out q hql)
          have CY0 := Lib.hid (HCX.out q' hql')
          have cx := (DB.cell (p := ⟨bx, ox + q, none⟩) hbx).trans CX0.out
          have cy := (DB.cell (p := ⟨bx, ox + q', none⟩) hbx).trans CY0.out
          have u1 := nth_U hU q
          have u2 := nth_U hU q'
          have hnb : k * H + j + 1 ≤ 128 := by
            have h1 : k * H + H ≤ R * H := by have := Nat.mul_le_mul_right H hlt; rw [Nat.succ_mul] at this; exact this
            have h2 : R * H ≤ 64 := Nat.le_trans (Nat.mul_le_mul q4 q6) (by omega)
            omega
          generalize nth l q = a at *
          generalize nth l q' = b at *
          have y1 := HX2.out.c1
          have y2 := HX2.out.c2
          have zy := HX2.out.lt
          have zbx : bx < wr.heap.size := by have := DB.size; omega
          have i1 : (0 : Int) ≤ (q : Int) := by omega
          have i2 : (q : Int) < (l.length : Int) := by omega
          have i3 : (0 : Int) ≤ (q' : Int) := by omega
          have i4 : (q' : Int) < (l.length : Int) := by omega
          have vz := hb2.size
          clear hc1 hfr hq hq' hkH
          go_wp2_with fail
          go_region_held3 (fun w' => w'.cell? ⟨w.heap.size, 1, none⟩ = some (.int .i64 (2 * (H : Int))) ∧ w'.cell? ⟨w.heap.size, 2, none⟩ = some (.slice (some ⟨bx, ox, none⟩) l.length cap) ∧ w'.cell? ⟨bx, ox + q, none⟩ = some (.int .u64 a) ∧ w'.cell? ⟨bx, ox + q', none⟩ = some (.int .u64 b)) (first | go_keep | exact ⟨j1, j2, j3, j4⟩)
            (first
              | (go_at_call 25; refine (plus_any a b u1 u2 _).mono ?_; rintro e w' ⟨rfl, rfl⟩)
              | (refine step_append_rd rfl (.tmp 31) (.tmp 55) 22 rfl V.heap.size 25 i0 (.int .u64 0) 1 8 Try.underlying22 hi0 hz0 hz1 hz2 rfl (by decide) (.slice Av (k * H + j) cv) (k * H + j) _ rfl (HO2.out.alloc (.cells #[.int .u64 (sat a b)] 25)).drew (wr.heap.size + 1) (some ⟨wr.heap.size, 0, none⟩) 1 1 [.int .u64 (sat a b)] rfl (by simp) (fun _ => ⟨wr.heap.size, 0, rfl, by omega, fun i u hu => by rw [Nat.zero_add]; exact ((Blk.new wr 25 #[.int .u64 (sat a b)]).drew.cell i).trans (by simpa using hu)⟩) (by intro u hu; simp at hu; subst hu; rfl) (by unfold maxLen; omega) (by omega) (by simp; omega) ?_; intro A2 c2 w2' hown3 hg3; have hb3 : Below V.heap.size V w2' := (below_al hb2 (.cells #[.int .u64 (sat a b)] 25)).drew.grown hg3 (by simp; omega) (fun q e => own_base2 HO2.out q e); have DC := Below.two DA hb3; have j1 := (X.out.later hb3).c1; have j2 := (X.out.later hb3).c2; have j3 := (DC.cell (p := ⟨bx, ox + q, none⟩) hbx).trans CX0.out; have j4 := (DC.cell (p := ⟨bx, ox + q', none⟩) hbx).trans CY0.out))
          have HN : Hid (w2'.ownsRow V.heap.size 25 1 (.slice A2 (k * H + j + 1) c2) (k * H + (j + 1)) ((halfL H l (k * H + (j + 1))).map (Value.int .u64))) := by
            show World.ownsRow _ _ _ _ _ _ _
            rw [HZS.out, List.map_append]
            exact hown3
          clear hown3 hg3 cx cy y1 y2 j1 j2 j3 j4 w1 w2 w3 w4
          go_wp2_with fail
          go_roundw
          case rel => exact ⟨j + 1, by omega, by go_num, HN.out, hb3⟩
          case measure => simp [intOf]; omega
        · obtain rfl : j = H := by omega
          have HO3 := Lib.hid hown2
          rw [show k * j + j = (k + 1) * j by rw [Nat.succ_mul]] at HO3
          clear hown2
          go_wp2_with fail
          go_roundw
          case rel => exact ⟨k + 1, by omega, by go_num, HO3.out, hb2⟩
          case measure => simp [intOf]; omega
    · obtain rfl : k = R := by omega
      obtain ⟨Av, cv, rfl, _, _, _⟩ := owns_form hown
      have HZ := Lib.hid (Z.out.later hb)
      have DB := Below.two DA hb
      have f0 := HZ.out.frozen 0
      have f1 := HZ.out.frozen 1
      have f2 := HZ.out.frozen 2
      have u0 := HZ.out.c0
      have u1 := HZ.out.c1
      have u2 := HZ.out.c2
      have HHH : Hid (Held wr w.heap.size (.slice Av (k * H) cv) (halfL H l (k * H))) := held_owned hown (length_halfL _ _ _) DA.size
      have HLN := Lib.hid (length_halfL H l (k * H))
      clear hown
      go_wp2_with fail
      have K := HZ.out.set3 (x := .int .i64 k) (y := .int .i64 H) (z := .slice Av (k * H) cv)
      have k0 := K.c0
      have k1 := K.c1
      have k2 := K.c2
      refine bodyPost_ret (v := .tuple #[.agg #[.int .i64 k, .int .i64 H, .slice Av (k * H) cv], .int .i64 0]) (by simp [results, Try.results29, go_sem, k0, k1, k2]) rfl
        ⟨below_set3 DB (by omega) _ _ _, .slice Av (k * H) cv, by rw [HR.out], ?_⟩
      rw [HR.out]
      exact res_stored HZ.out HHH.out
theorem rlower_any (r c : Int) (A : Option Addr) (l : List Int) (cap : Nat) (hU : Us l) (w : World) (hS : Sl w w.heap.size A l) :
    Calls Try.prog 29 #[.agg #[.int .i64 r, .int .i64 c, .slice A l.length cap]] w (CRes w (lowerC ⟨r, c, l⟩)) := by
  cases hr : rightC r c l.length with
  | false => exact rlower_bad r c A l cap w hr
  | true =>
    by_cases h4 : c = 4
    · subst h4; exact rlower_four r A l cap w hr
    · obtain ⟨q1, q2, q3⟩ := shape_of (right_of hr).1
      obtain ⟨R, rfl⟩ : ∃ R : Nat, r = R := ⟨r.toNat, by omega⟩
      obtain ⟨H, rfl⟩ : ∃ H : Nat, c = 2 * (H : Int) := ⟨(c / 2).toNat, by omega⟩
      exact rlower_good R H A l cap hU w hS hr (by omega)
end Go.Proofs.Ythjdonhabenmcaa

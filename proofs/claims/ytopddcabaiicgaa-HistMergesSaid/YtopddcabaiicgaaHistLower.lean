/-
  The walk of hist.Lower.
-/
import Derived.Test.YtopddcabaiicgaaHistMerge
namespace Go.Proofs.Ytopddcabaiicgaa
open Go.RowKit
set_option linter.unusedVariables false
set_option linter.unusedSimpArgs false
/-- A bin's place among those of a digit less. -/
def lowB (f : Int) (x : Int × Int) : Int × Int := (bucketF (f - 1) (boundsF f x.1).1, x.2)
/-- What Lower tells. -/
def lowerH (f : Int) (l : Bins) : Int × Bins × Int := if rightB f l = true ∧ fineB (f - 1) = true then (f - 1, putAll [] (l.map (lowB f)), 0) else (0, [], 90)
theorem boundsF_U (f a : Int) : U (boundsF f a).1 ∧ U (boundsF f a).2.1 := by
  unfold boundsF
  split
  · rename_i h
    obtain ⟨h1, h2⟩ := fine_of h.1
    cases hb : bnd f.toNat a.toNat with
    | none => simp [U]
    | some q =>
      have := bnd_ok (lo := q.1) (hi := q.2) (by omega) hb
      have h3 := this.lt
      have h4 := this.le
      simp only [U]; omega
  · simp [U]
theorem lowB_ubs {f : Int} {l : Bins} (h : UBs l) : UBs (l.map (lowB f)) := fun x hx => by
  obtain ⟨y, hy, rfl⟩ := List.mem_map.1 hx
  exact ⟨bucketF_i64 _ (boundsF_U f y.1).1, (h y hy).2⟩
theorem lowB_nz {f : Int} {l : Bins} (h : NZ l) : NZ (l.map (lowB f)) := fun x hx => by
  obtain ⟨y, hy, rfl⟩ := List.mem_map.1 hx
  exact h y hy
/-- Between two rounds of Lower. -/
def LwI (w : World) (f : Int) (A : Option Addr) (n cap gw B : Nat) (x : Bins) (k : Nat) (wr : World) : Prop :=
  Blk wr w.heap.size 25 #[.int .i64 f, .slice A n cap] ∧ Blk wr (w.heap.size + 1) 25 #[.int .i64 0, .slice none 0 0] ∧ Blk wr gw 59 #[.map (some B), .int .i64 (f - 1)] ∧ Mp wr B k x ∧ Below w.heap.size w wr
set_option maxRecDepth 100000 in
set_option maxHeartbeats 4000000 in
theorem lower_good (f : Int) (A : Option Addr) (l : Bins) (cap : Nat) (hU : UBs l) (hl : l.length ≤ 60000) (hr : rightB f l = true) (hf : fineB (f - 1) = true) (w : World) (hS : Sb w w.heap.size A l) :
    Calls Try.prog 25 #[.agg #[.int .i64 f, .slice A l.length cap]] w (HsRes w (f - 1, putAll [] (l.map (lowB f)), 0)) := by
  have T : Below w.heap.size w ((w.alloc (.cells #[.int .i64 f, .slice A l.length cap] 25)).alloc (.cells #[.int .i64 0, .slice none 0 0] 25)) := below_al (below_al (below_0 _) _) _
  have X := Lib.hid ((Blk.new w 25 #[.int .i64 f, .slice A l.length cap]).alloc (.cells #[.int .i64 0, .slice none 0 0] 25))
  have Y := Lib.hid (Blk.new2 w (.cells #[.int .i64 f, .slice A l.length cap] 25) 25 #[.int .i64 0, .slice none 0 0])
  have HS := Lib.hid (Sb.later hS T)
  have HS0 := Lib.hid hS
  have R := rt_of hr
  have HR := Lib.hid hr
  have HF := Lib.hid hf
  obtain ⟨f1, f2⟩ := fine_of hf
  clear hS hr hf
  go_enter Try.func25, Try.ntmps25
  go_wp2_with fail
  generalize (w.alloc (.cells #[.int .i64 f, .slice A l.length cap] 25)).alloc (.cells #[.int .i64 0, .slice none 0 0] 25) = w0 at *
  refine (right_any f A l cap hU (by omega) _ HS.out).mono ?_
  rintro e w1 ⟨rfl, hb1⟩
  rw [HR.out]
  replace X := Lib.hid (X.out.later hb1)
  replace Y := Lib.hid (Y.out.later hb1)
  replace T := Below.two T hb1
  have x0 := X.out.d0
  clear hb1 HS
  go_wp2_with fail
  refine (blank_good (f - 1) HF.out _).mono ?_
  rintro e w2 ⟨B, rfl, hM, hB, hb2⟩
  clear x0
  have hI : LwI w f A l.length cap w2.heap.size B (putAll [] ((l.take 0).map (lowB f))) 0 (w2.alloc (.cells #[.map (some B), .int .i64 (f - 1)] 59)) :=
    ⟨(X.out.later hb2).alloc _, (Y.out.later hb2).alloc _, Blk.new w2 _ _, hM.alloc _, below_al (Below.two T hb2) _⟩
  have HI := Lib.hid hI
  have hwB : w.heap.size ≤ B := Nat.le_trans T.size hB
  have zx := (X.out.later hb2).lt
  have x1 := (X.out.later hb2).d1
  clear hI X Y T hM hB hb2
  go_wp2_with fail
  clear x1
  go_loopw [30] (fun i wr => ∃ k : Nat, k ≤ l.length ∧ i = .int .i64 k ∧ LwI w f A l.length cap w2.heap.size B (putAll [] ((l.take k).map (lowB f))) k wr) (fun i _ => l.length - (RowKit.intOf i).toNat)
  case atStart => exact ⟨0, Nat.zero_le _, rfl, HI.out⟩
  case round =>
    obtain ⟨k, hk, rfl, X, Y, Z, M, T⟩ := hrel
    clear HI
    have x0 := X.d0
    have zx := X.lt
    have z0 := Z.d0
    have z1 := Z.d1
    have zz := Z.lt
    have HX := Lib.hid X
    have HY := Lib.hid Y
    have HZ := Lib.hid Z
    have HM := Lib.hid M
    have hrs : Rise (putAll [] ((l.take k).map (lowB f))) := putAll_rise List.Pairwise.nil
    have hub : UBs (putAll [] ((l.take k).map (lowB f))) := putAll_ubs (fun _ h => by simp at h) (lowB_ubs (hU.take k))
    clear X Y M Z
    by_cases hlt : k < l.length
    · obtain ⟨b, off, rfl, hb, hcs⟩ := HS0.out.at_ (by omega)
      obtain ⟨h1, h2⟩ := hcs k hlt
      have i1 := (T.cell (p := ⟨b, off + k * 2, none⟩) hb).trans h1
      have i2 := (T.cell (p := ⟨b, off + k * 2 + 1, none⟩) hb).trans h2
      have hbw : b < wr.heap.size := by have := T.size; omega
      have HN : Hid (putAll [] ((l.take (k + 1)).map (lowB f)) = putL (putAll [] ((l.take k).map (lowB f))) (bucketF (f - 1) (boundsF f (bth l k).1).1) (bth l k).2) := by show _ = _; rw [take_bth_succ hlt, List.map_append, List.map_singleton, putAll_snoc]; rfl
      obtain ⟨u1, u2⟩ := bth_U hU k
      generalize bth l k = it at *
      generalize putAll [] ((l.take k).map (lowB f)) = m at *
      have uq := boundsF_U f it.1
      obtain ⟨q, hq⟩ : ∃ q, boundsF f it.1 = q := ⟨_, rfl⟩
      rw [hq] at uq HN
      have HQ := Lib.hid hq
      have hi1 : (0 : Int) ≤ (k : Int) := by omega
      have hi2 : (k : Int) < (l.length : Int) := by omega
      clear hcs h1 h2 hq
      go_wp2_with fail
      refine (bounds_any f it.1 u1 _).mono ?_
      rintro e w3 ⟨rfl, n3, rfl⟩
      rw [HQ.out]
      have N := Lib.hid (Blk.new wr 71 #[.int .i64 it.1, .int .u64 it.2])
      have hba := below_drewN (below_al (below_0 wr) (.cells #[.int .i64 it.1, .int .u64 it.2] 71)) n3
      replace HX := Lib.hid (HX.out.later hba)
      replace HY := Lib.hid (HY.out.later hba)
      replace HZ := Lib.hid (HZ.out.later hba)
      replace HM := Lib.hid (HM.out.later hba)
      replace T := Below.two T hba
      have N : Hid (Blk ((wr.alloc (.cells #[.int .i64 it.1, .int .u64 it.2] 71)).drewN n3) wr.heap.size 71 #[.int .i64 it.1, .int .u64 it.2]) := N
      clear hba x0 z0 z1 i1 i2
      generalize (wr.alloc (.cells #[.int .i64 it.1, .int .u64 it.2] 71)).drewN n3 = w4 at *
      have z0 := HZ.out.d0
      have z1 := HZ.out.d1
      have n1 := N.out.d1
      have zz4 := HZ.out.lt
      have zn4 := N.out.lt
      go_wp2_with fail
      have hbb := bucketF_i64 (f - 1) uq.1
      obtain ⟨bb, hbe⟩ : ∃ b, bucketF (f - 1) q.1 = b := ⟨_, rfl⟩
      rw [hbe] at hbb HN
      have HBB := Lib.hid hbe
      clear hbe
      refine wp_region_held_drew (S := fun w' => w'.cell? ⟨w2.heap.size, 0, none⟩ = some (.map (some B)) ∧ w'.cell? ⟨w2.heap.size, 1, none⟩ = some (.int .i64 (f - 1)) ∧ w'.cell? ⟨wr.heap.size, 1, none⟩ = some (.int .u64 it.2)) (by kernel_rfl) ⟨z0, z1, n1⟩ (fun hHeld => ?_)
      refine wpAnyH_take (i := 0) (v := (.agg #[.map (some B), .int .i64 (f - 1)])) rfl (by kernel_rfl) (by kernel_rfl) (by kernel_rfl) (fun _ _ _ h => h) (Or.inl ⟨by rfl, ?_⟩) hHeld ?_
      · (intro w hSw; (try dsimp only at hSw); (try obtain ⟨s0, s1, s2⟩ := hSw); go_simp)
      simp only [Act.put, List.setIfInBounds_toArray, List.set_cons_zero, List.set_cons_succ]
      refine wpAnyH_take (i := 1) (v := (.pointer (some ⟨w2.heap.size, 1, none⟩))) rfl (by kernel_rfl) (by kernel_rfl) (by kernel_rfl) (fun _ _ _ h => h) (Or.inl ⟨by rfl, ?_⟩) hHeld ?_
      · (intro w hSw; (try dsimp only at hSw); (try obtain ⟨s0, s1, s2⟩ := hSw); go_simp)
      simp only [Act.put, List.setIfInBounds_toArray, List.set_cons_zero, List.set_cons_succ]
      refine wpAnyH_take (i := 2) (v := (.int .i64 (f - 1))) rfl (by kernel_rfl) (by kernel_rfl) (by kernel_rfl) (fun _ _ _ h => h) (Or.inl ⟨by rfl, ?_⟩) hHeld ?_
      · (intro w hSw; (try dsimp only at hSw); (try obtain ⟨s0, s1, s2⟩ := hSw); go_simp)
      simp only [Act.put, List.setIfInBounds_toArray, List.set_cons_zero, List.set_cons_succ]
      refine wpAnyH_take (i := 3) (v := (.int .u64 q.1)) rfl (by kernel_rfl) (by kernel_rfl) (by kernel_rfl) (fun _ _ _ h => h) (Or.inl ⟨by rfl, ?_⟩) hHeld ?_
      · (intro w hSw; (try dsimp only at hSw); (try obtain ⟨s0, s1, s2⟩ := hSw); go_simp)
      simp only [Act.put, List.setIfInBounds_toArray, List.set_cons_zero, List.set_cons_succ]
      refine wpAnyH_take (i := 5) (v := (.pointer (some ⟨wr.heap.size, 1, none⟩))) rfl (by kernel_rfl) (by kernel_rfl) (by kernel_rfl) (fun _ _ _ h => h) (Or.inl ⟨by rfl, ?_⟩) hHeld ?_
      · (intro w hSw; (try dsimp only at hSw); (try obtain ⟨s0, s1, s2⟩ := hSw); go_simp)
      simp only [Act.put, List.setIfInBounds_toArray, List.set_cons_zero, List.set_cons_succ]
      refine wpAnyH_take (i := 6) (v := (.int .u64 it.2)) rfl (by kernel_rfl) (by kernel_rfl) (by kernel_rfl) (fun _ _ _ h => h) (Or.inl ⟨by rfl, ?_⟩) hHeld ?_
      · (intro w hSw; (try dsimp only at hSw); (try obtain ⟨s0, s1, s2⟩ := hSw); go_simp)
      simp only [Act.put, List.setIfInBounds_toArray, List.set_cons_zero, List.set_cons_succ]
      refine wpAnyH_ready (rs := [4]) (by kernel_rfl) (by simp) ?_
      refine AllReadyH.cons rfl (fun K hK => ?_) AllReadyH.nil
      go_simp
      refine (bucket_any (f - 1) q.1 uq.1 _).mono ?_
      rintro e w5 ⟨rfl, n5, rfl⟩
      rw [HBB.out]
      refine hK.out _ _ ⟨z0, z1, n1⟩ (fun hHeld => ?_)
      clear hK K
      try simp only [Act.put, List.setIfInBounds_toArray, List.set_cons_zero, List.set_cons_succ]
      refine wpAnyH_ready (rs := [7]) (by kernel_rfl) (by simp) ?_
      refine AllReadyH.cons rfl (fun K hK => ?_) AllReadyH.nil
      go_simp
      refine (put_any m (f - 1) bb it.2 B k hrs hub.ub hbb u2 _ (by exact HM.out) (by unfold maxLen; omega)).mono ?_
      rintro e w6 ⟨rfl, hM6, hG6⟩
      have hG5 : w4.grownBy w6 (some B) := ⟨hG6.os, hG6.tape, hG6.output, hG6.size, hG6.block⟩
      have hI : LwI w f (some ⟨b, off, none⟩) l.length cap w2.heap.size B (putAll [] ((l.take (k + 1)).map (lowB f))) (k + 1) w6 :=
        ⟨HX.out.grown hG5 (blk_not_mp HM.out HX.out), HY.out.grown hG5 (blk_not_mp HM.out HY.out), HZ.out.grown hG5 (blk_not_mp HM.out HZ.out), by rw [HN.out]; exact hM6, below_turned T hG5 hwB⟩
      have HI := Lib.hid hI
      have N6 := Lib.hid (N.out.grown hG5 (blk_not_mp HM.out N.out))
      have Z6 := Lib.hid (HZ.out.grown hG5 (blk_not_mp HM.out HZ.out))
      clear hI hM6 hG6 hG5 z0 z1 n1
      refine hK.out _ _ ⟨Z6.out.d0, Z6.out.d1, N6.out.d1⟩ (fun hHeld => ?_)
      clear hK K
      try simp only [Act.put, List.setIfInBounds_toArray, List.set_cons_zero, List.set_cons_succ]
      refine wpAnyH_done (by kernel_rfl) ?_ _
      go_wp2_with fail
      go_roundw
      case rel => exact ⟨k + 1, by omega, by go_num, HI.out⟩
      case measure => simp [RowKit.intOf]; omega
    · obtain rfl : k = l.length := by omega
      rw [List.take_of_length_le (Nat.le_refl _)] at HM hrs hub
      have hle : (putAll [] (l.map (lowB f))).length ≤ 65536 := by have := putAll_length (l.map (lowB f)) []; simp at this; omega
      have HZ2 := Lib.hid (dropZ_nz (putAll_nz (l := []) (fun _ h => by simp at h) (lowB_ubs hU).ub (fun _ h => by simp at h) (lowB_nz (f := f) R.nz)))
      obtain ⟨x, hx⟩ : ∃ x, putAll [] (l.map (lowB f)) = x := ⟨_, rfl⟩
      rw [hx] at HM hrs hub hle HZ2
      have HXX := Lib.hid hx
      clear hx
      go_wp2_with fail
      refine (done_any x (f - 1) B l.length hrs hub hle _ HM.out).mono ?_
      rintro e w5 ⟨hG5, v5, rfl, hh5⟩
      rw [HZ2.out] at hh5
      obtain ⟨A5, c5, rfl, hc5, hA5, hS5, hF5⟩ := hh5
      have hh5 : HeldB w5 w.heap.size (.slice A5 x.length c5) x := ⟨A5, c5, rfl, hc5, hA5, hS5, hF5.from T.size⟩
      have Y5 := Lib.hid (HY.out.grown hG5 (blk_not_mp HM.out HY.out))
      have T5 := Lib.hid (below_turned T hG5 hwB)
      have HH := Lib.hid hh5
      have y50 := Y5.out.d0
      have y51 := Y5.out.d1
      have fy0 := Y5.out.frozen 0
      have fy1 := Y5.out.frozen 1
      have zy := Y5.out.lt
      clear hh5 hS5 hF5 hA5 hG5 z0 z1 x0
      have K := Y5.out.set2 (x := .int .i64 (f - 1)) (y := .slice A5 x.length c5)
      have k0 := K.d0
      have k1 := K.d1
      go_wp2_with fail
      rw [HXX.out]
      exact bodyPost_ret (v := .tuple #[.agg #[.int .i64 (f - 1), .slice A5 x.length c5], .int .i64 0]) (by simp [results, Try.results25, go_sem, k0, k1]) rfl
        ⟨below_set2 T5.out (by omega) _ _, _, rfl, heldB_set2 HH.out Y5.out⟩
set_option maxRecDepth 100000 in
set_option maxHeartbeats 2000000 in
theorem lower_bad1 (f : Int) (A : Option Addr) (l : Bins) (cap : Nat) (hU : UBs l) (hl : l.length ≤ 60000) (hr : rightB f l = false) (w : World) (hS : Sb w w.heap.size A l) :
    Calls Try.prog 25 #[.agg #[.int .i64 f, .slice A l.length cap]] w (HsRes w (0, [], 90)) := by
  have T : Below w.heap.size w ((w.alloc (.cells #[.int .i64 f, .slice A l.length cap] 25)).alloc (.cells #[.int .i64 0, .slice none 0 0] 25)) := below_al (below_al (below_0 _) _) _
  have X := Lib.hid ((Blk.new w 25 #[.int .i64 f, .slice A l.length cap]).alloc (.cells #[.int .i64 0, .slice none 0 0] 25))
  have Y := Lib.hid (Blk.new2 w (.cells #[.int .i64 f, .slice A l.length cap] 25) 25 #[.int .i64 0, .slice none 0 0])
  have HS := Lib.hid (Sb.later hS T)
  have HR := Lib.hid hr
  clear hr
  clear hS
  go_enter Try.func25, Try.ntmps25
  go_wp2_with fail
  generalize (w.alloc (.cells #[.int .i64 f, .slice A l.length cap] 25)).alloc (.cells #[.int .i64 0, .slice none 0 0] 25) = w0 at *
  refine (right_any f A l cap hU (by omega) _ HS.out).mono ?_
  rintro e w1 ⟨rfl, hb1⟩
  rw [HR.out]
  replace X := Lib.hid (X.out.later hb1)
  replace Y := Lib.hid (Y.out.later hb1)
  replace T := Below.two T hb1
  clear hb1 HS
  have y50 := Y.out.d0
  have y51 := Y.out.d1
  have fy0 := Y.out.frozen 0
  have fy1 := Y.out.frozen 1
  have zy := Y.out.lt
  have K := Y.out.set2 (x := .int .i64 0) (y := .slice none 0 0)
  have k0 := K.d0
  have k1 := K.d1
  go_wp2_with fail
  exact bodyPost_ret (v := .tuple #[.agg #[.int .i64 0, .slice none 0 0], .int .i64 90]) (by simp [results, Try.results25, go_sem, k0, k1]) rfl
    ⟨below_set2 T (by omega) _ _, _, rfl, heldB_set2 (heldB_nil _ _) Y.out⟩
set_option maxRecDepth 100000 in
set_option maxHeartbeats 2000000 in
theorem lower_bad2 (f : Int) (A : Option Addr) (l : Bins) (cap : Nat) (hU : UBs l) (hl : l.length ≤ 60000) (hr : rightB f l = true) (hf : fineB (f - 1) = false) (w : World) (hS : Sb w w.heap.size A l) :
    Calls Try.prog 25 #[.agg #[.int .i64 f, .slice A l.length cap]] w (HsRes w (0, [], 90)) := by
  have T : Below w.heap.size w ((w.alloc (.cells #[.int .i64 f, .slice A l.length cap] 25)).alloc (.cells #[.int .i64 0, .slice none 0 0] 25)) := below_al (below_al (below_0 _) _) _
  have X := Lib.hid ((Blk.new w 25 #[.int .i64 f, .slice A l.length cap]).alloc (.cells #[.int .i64 0, .slice none 0 0] 25))
  have Y := Lib.hid (Blk.new2 w (.cells #[.int .i64 f, .slice A l.length cap] 25) 25 #[.int .i64 0, .slice none 0 0])
  have HS := Lib.hid (Sb.later hS T)
  have HR := Lib.hid hr
  have HF := Lib.hid hf
  obtain ⟨f1, f2⟩ := fine_of (rt_of hr).fine
  clear hr hf
  clear hS
  go_enter Try.func25, Try.ntmps25
  go_wp2_with fail
  generalize (w.alloc (.cells #[.int .i64 f, .slice A l.length cap] 25)).alloc (.cells #[.int .i64 0, .slice none 0 0] 25) = w0 at *
  refine (right_any f A l cap hU (by omega) _ HS.out).mono ?_
  rintro e w1 ⟨rfl, hb1⟩
  rw [HR.out]
  replace X := Lib.hid (X.out.later hb1)
  replace Y := Lib.hid (Y.out.later hb1)
  replace T := Below.two T hb1
  clear hb1 HS
  have x0 := X.out.d0
  go_wp2_with fail
  refine (blank_bad (f - 1) HF.out _).mono ?_
  rintro e w2 ⟨s, rfl, hb2⟩
  have hba := below_al (below_0 w2) (.cells #[.map none, .int .i64 0] 59)
  replace Y := Lib.hid ((Y.out.later hb2).later hba)
  replace T := Below.two (Below.two T hb2) hba
  clear hb2 hba X x0
  go_wp2_with fail
  generalize w2.alloc (.cells #[.map none, .int .i64 0] 59) = w3 at *
  refine (errno_err _ _).mono ?_
  rintro e w9 ⟨rfl, rfl⟩
  have hba := below_al (below_0 w3) (.cells #[.string s] 73)
  replace Y := Lib.hid (Y.out.later hba)
  replace T := Below.two T hba
  generalize w3.alloc (.cells #[.string s] 73) = w9 at *
  have y50 := Y.out.d0
  have y51 := Y.out.d1
  have fy0 := Y.out.frozen 0
  have fy1 := Y.out.frozen 1
  have zy := Y.out.lt
  have K := Y.out.set2 (x := .int .i64 0) (y := .slice none 0 0)
  have k0 := K.d0
  have k1 := K.d1
  go_wp2_with fail
  exact bodyPost_ret (v := .tuple #[.agg #[.int .i64 0, .slice none 0 0], .int .i64 90]) (by simp [results, Try.results25, go_sem, k0, k1]) rfl
    ⟨below_set2 T (by omega) _ _, _, rfl, heldB_set2 (heldB_nil _ _) Y.out⟩
theorem lower_any (f : Int) (A : Option Addr) (l : Bins) (cap : Nat) (hU : UBs l) (hl : l.length ≤ 60000) (w : World) (hS : Sb w w.heap.size A l) :
    Calls Try.prog 25 #[.agg #[.int .i64 f, .slice A l.length cap]] w (HsRes w (lowerH f l)) := by
  cases h1 : rightB f l with
  | false => rw [lowerH, if_neg (by simp [h1])]; exact lower_bad1 f A l cap hU hl h1 w hS
  | true =>
    cases h2 : fineB (f - 1) with
    | false => rw [lowerH, if_neg (by simp [h2])]; exact lower_bad2 f A l cap hU hl h1 h2 w hS
    | true => rw [lowerH, if_pos ⟨h1, h2⟩]; exact lower_good f A l cap hU hl h1 h2 w hS
end Go.Proofs.Ytopddcabaiicgaa

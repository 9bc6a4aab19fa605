/-
  The document's own Lower and Total.
-/
import Derived.Test.YtopddcabaiicgaaHistRef4
import Derived.Test.YtopddcabaiicgaaHistRef7
import Derived.Test.YtopddcabaiicgaaHistTotal
import Derived.IntWalk
import Derived.Test.YtopddcabaiicgaaHistLaws2
namespace Go.Proofs.Ytopddcabaiicgaa
open Go.RowKit
set_option linter.unusedVariables false
set_option linter.unusedSimpArgs false
def RlI (w : World) (f : Int) (A : Option Addr) (nl cap : Nat) (wr : World) : Prop :=
  Blk wr w.heap.size 25 #[.int .i64 f, .slice A nl cap] ∧ Blk wr (w.heap.size + 1) 25 #[.int .i64 0, .slice none 0 0] ∧ Below w.heap.size w wr
theorem RlI.later {w : World} {f : Int} {A : Option Addr} {nl cap : Nat} {wr w' : World} (h : RlI w f A nl cap wr) (hb : Below wr.heap.size wr w') : RlI w f A nl cap w' :=
  ⟨h.1.later hb, h.2.1.later hb, Below.two h.2.2 hb⟩
theorem fine_of_right {f : Int} {l : Bins} (h : rightB f l = true) : 0 ≤ f ∧ f ≤ 3 := by
  have := (rt_of h).fine; simp [fineB] at this; omega
set_option maxHeartbeats 1000000 in
theorem rlower_bad1 (f : Int) (A : Option Addr) (l : Bins) (cap : Nat) (hU : UBs l) (hl : l.length ≤ 30000) (hr : rightB f l = false) (w : World) (hS : Sb w w.heap.size A l) :
    Calls Try.prog 31 #[.agg #[.int .i64 f, .slice A l.length cap]] w (RdRes w (0, [], 90)) := by
  have HR := Lib.hid hr
  clear hr
  have T : Below w.heap.size w ((w.alloc (.cells #[.int .i64 f, .slice A l.length cap] 25)).alloc (.cells #[.int .i64 0, .slice none 0 0] 25)) := below_al (below_al (below_0 _) _) _
  have I : Hid (RlI w f A l.length cap ((w.alloc (.cells #[.int .i64 f, .slice A l.length cap] 25)).alloc (.cells #[.int .i64 0, .slice none 0 0] 25))) := ⟨(Blk.new w _ _).alloc _, Blk.new2 w _ _ _, T⟩
  have HS := Lib.hid hS
  clear hS T
  go_enter Try.func31, Try.ntmps31
  go_wp2_with fail
  generalize (w.alloc (.cells #[.int .i64 f, .slice A l.length cap] 25)).alloc (.cells #[.int .i64 0, .slice none 0 0] 25) = w0 at *
  refine (rright_any f A l cap hU (by omega) _ (Sb.later HS.out I.out.2.2)).mono ?_
  rintro e w1 ⟨rfl, hb1⟩
  rw [HR.out]
  replace I := Lib.hid (I.out.later hb1)
  clear hb1
  have x0 := I.out.1.d0
  have x1 := I.out.1.d1
  have zx := I.out.1.lt
  have Z := Lib.hid I.out.2.1
  have T := I.out.2.2
  have y50 := Z.out.d0
  have y51 := Z.out.d1
  have fy0 := Z.out.frozen 0
  have fy1 := Z.out.frozen 1
  have zz := Z.out.lt
  have K := Z.out.set2 (x := .int .i64 0) (y := .slice none 0 0)
  have k0 := K.d0
  have k1 := K.d1
  go_wp2_with fail
  exact bodyPost_ret (v := .tuple #[.agg #[.int .i64 0, .slice none 0 0], .int .i64 90]) (by simp [results, Try.results31, go_sem, k0, k1]) rfl
    ⟨below_set2 T (by omega) _ _, _, rfl, rdB_set2 (rdB_nil _) Z.out⟩
set_option maxHeartbeats 1000000 in
theorem rlower_bad2 (f : Int) (A : Option Addr) (l : Bins) (cap : Nat) (hU : UBs l) (hl : l.length ≤ 30000) (hr : rightB f l = true) (h0 : f = 0) (w : World) (hS : Sb w w.heap.size A l) :
    Calls Try.prog 31 #[.agg #[.int .i64 f, .slice A l.length cap]] w (RdRes w (0, [], 90)) := by
  have HR := Lib.hid hr
  have d0 : (f == 0) = true := by simp [h0]
  clear hr h0
  have T : Below w.heap.size w ((w.alloc (.cells #[.int .i64 f, .slice A l.length cap] 25)).alloc (.cells #[.int .i64 0, .slice none 0 0] 25)) := below_al (below_al (below_0 _) _) _
  have I : Hid (RlI w f A l.length cap ((w.alloc (.cells #[.int .i64 f, .slice A l.length cap] 25)).alloc (.cells #[.int .i64 0, .slice none 0 0] 25))) := ⟨(Blk.new w _ _).alloc _, Blk.new2 w _ _ _, T⟩
  have HS := Lib.hid hS
  clear hS T
  go_enter Try.func31, Try.ntmps31
  go_wp2_with fail
  generalize (w.alloc (.cells #[.int .i64 f, .slice A l.length cap] 25)).alloc (.cells #[.int .i64 0, .slice none 0 0] 25) = w0 at *
  refine (rright_any f A l cap hU (by omega) _ (Sb.later HS.out I.out.2.2)).mono ?_
  rintro e w1 ⟨rfl, hb1⟩
  rw [HR.out]
  replace I := Lib.hid (I.out.later hb1)
  clear hb1
  have x0 := I.out.1.d0
  have x1 := I.out.1.d1
  have zx := I.out.1.lt
  have Z := Lib.hid I.out.2.1
  have T := I.out.2.2
  have y50 := Z.out.d0
  have y51 := Z.out.d1
  have fy0 := Z.out.frozen 0
  have fy1 := Z.out.frozen 1
  have zz := Z.out.lt
  have K := Z.out.set2 (x := .int .i64 0) (y := .slice none 0 0)
  have k0 := K.d0
  have k1 := K.d1
  go_wp2_with fail
  exact bodyPost_ret (v := .tuple #[.agg #[.int .i64 0, .slice none 0 0], .int .i64 90]) (by simp [results, Try.results31, go_sem, k0, k1]) rfl
    ⟨below_set2 T (by omega) _ _, _, rfl, rdB_set2 (rdB_nil _) Z.out⟩
set_option maxRecDepth 100000 in
set_option maxHeartbeats 4000000 in
theorem rlower_good (f : Int) (A : Option Addr) (l : Bins) (cap : Nat) (hU : UBs l) (hl : l.length ≤ 30000) (hr : rightB f l = true) (h0 : f ≠ 0) (w : World) (hS : Sb w w.heap.size A l) :
    Calls Try.prog 31 #[.agg #[.int .i64 f, .slice A l.length cap]] w (RdRes w (f - 1, putAll [] (l.map (lowB f)), 0)) := by
  have HR := Lib.hid hr
  have R1 := Lib.hid (rt_of hr)
  obtain ⟨f1, f3⟩ := fine_of_right hr
  have f1' : 1 ≤ f := by omega
  have fd : (f == 0) = false := by simp [h0]
  have HM : Hid (UBs (l.map (lowB f))) := lowB_ubs hU
  clear hr h0 f1
  have T : Below w.heap.size w ((w.alloc (.cells #[.int .i64 f, .slice A l.length cap] 25)).alloc (.cells #[.int .i64 0, .slice none 0 0] 25)) := below_al (below_al (below_0 _) _) _
  have I : Hid (RlI w f A l.length cap ((w.alloc (.cells #[.int .i64 f, .slice A l.length cap] 25)).alloc (.cells #[.int .i64 0, .slice none 0 0] 25))) := ⟨(Blk.new w _ _).alloc _, Blk.new2 w _ _ _, T⟩
  have HS := Lib.hid hS
  clear hS T
  go_enter Try.func31, Try.ntmps31
  go_wp2_with fail
  generalize (w.alloc (.cells #[.int .i64 f, .slice A l.length cap] 25)).alloc (.cells #[.int .i64 0, .slice none 0 0] 25) = w0 at *
  refine (rright_any f A l cap hU (by omega) _ (Sb.later HS.out I.out.2.2)).mono ?_
  rintro e w1 ⟨rfl, hb1⟩
  rw [HR.out]
  replace I := Lib.hid (I.out.later hb1)
  clear hb1
  have x0 := I.out.1.d0
  have x1 := I.out.1.d1
  have zx := I.out.1.lt
  have HV : Hid (RdB w1 (.slice none 0 0) (putAll [] ((l.map (lowB f)).take 0))) := rdB_nil _
  go_wp2_with fail
  clear x0 x1 zx
  go_loopw [4, 5] (fun lv i wr => ∃ k : Nat, k ≤ l.length ∧ i = .int .i64 k ∧ RlI w f A l.length cap wr ∧ RdB wr lv (putAll [] ((l.map (lowB f)).take k))) (fun _ i _ => l.length - (RowKit.intOf i).toNat)
  case atStart => exact ⟨0, Nat.zero_le _, rfl, I.out, HV.out⟩
  case round =>
    clear I HV
    obtain ⟨k, hk, rfl, hI, hv⟩ := hrel
    obtain ⟨A4, c4, rfl⟩ := hv.form
    have I := Lib.hid hI
    have HV := Lib.hid hv
    have x0 := I.out.1.d0
    have x1 := I.out.1.d1
    have zx := I.out.1.lt
    have hub : UBs (putAll [] ((l.map (lowB f)).take k)) := putAll_ubs (fun x h => by cases h) (UBs.take HM.out k)
    have hlen : (putAll [] ((l.map (lowB f)).take k)).length ≤ 60000 := by have := putAll_length ((l.map (lowB f)).take k) []; rw [List.length_take, List.length_map] at this; simp at this ⊢; omega
    clear hI hv
    by_cases hlt : k < l.length
    · obtain ⟨b, off, rfl, hb, hcs⟩ := HS.out.at_ (by omega)
      obtain ⟨h1, h2⟩ := hcs k hlt
      have T := I.out.2.2
      have i1 := (T.cell (p := ⟨b, off + k * 2, none⟩) hb).trans h1
      have i2 := (T.cell (p := ⟨b, off + k * 2 + 1, none⟩) hb).trans h2
      have hbw : b < wr.heap.size := by have := T.size; omega
      obtain ⟨u1, u2⟩ := bth_U hU k
      have HN : Hid (putAll [] ((l.map (lowB f)).take (k + 1)) = addL (putAll [] ((l.map (lowB f)).take k)) (bucketF (f - 1) (boundsF f (bth l k).1).1) (bth l k).2) := by
        show _ = _
        have e : bth (l.map (lowB f)) k = lowB f (bth l k) := by unfold bth; rw [List.getElem?_map, List.getElem?_eq_getElem hlt]; rfl
        rw [take_bth_succ (by rw [List.length_map]; exact hlt), putAll_snoc, e, addL, if_neg (R1.out.nz _ (bth_mem hlt))]; rfl
      have hi1 : (0 : Int) ≤ (k : Int) := by omega
      have hi2 : (k : Int) < (l.length : Int) := by omega
      have H1 := Lib.hid h1
      have H2 := Lib.hid h2
      clear hcs h1 h2 T
      generalize bth l k = it at *
      have QB : Hid (∀ w, Calls Try.prog 14 #[.int .i64 f, .int .i64 it.1] w fun e w' => e = .returned (bdV (boundsF f it.1)) ∧ ∃ n, w' = w.drewN n) := fun w => rbounds_any f _ u1 w
      have uq := (boundsF_U f it.1).1
      generalize putAll [] ((l.map (lowB f)).take k) = x at *
      generalize boundsF f it.1 = q at *
      have QC : Hid (∀ w, Calls Try.prog 18 #[.int .i64 (f - 1), .int .u64 q.1] w fun e w' => e = .returned (.int .i64 (bucketF (f - 1) q.1)) ∧ w = w') := fun w => rbucket_any (f - 1) q.1 uq w
      generalize bucketF (f - 1) q.1 = bb at *
      rw [bdV] at QB
      go_wp2_with fail
      go_quiet ((go_at_call 14; exact Calls.quiet_of (QB.out _)))
      rename_i nq
      have hd : Below wr.heap.size wr (wr.drewN nq) := below_drewN (below_0 wr) _
      have i1 : (wr.drewN nq).cell? ⟨b, off + k * 2, none⟩ = some (.int .i64 it.1) := i1
      have i2 : (wr.drewN nq).cell? ⟨b, off + k * 2 + 1, none⟩ = some (.int .u64 it.2) := i2
      have hbw : b < (wr.drewN nq).heap.size := hbw
      replace I := Lib.hid (I.out.later hd)
      replace HV := Lib.hid (HV.out.later hd)
      clear hd x0 x1 zx
      generalize wr.drewN nq = V at *
      have x0 := I.out.1.d0
      have x1 := I.out.1.d1
      have zx := I.out.1.lt
      go_wp2_with fail
      refine wp_region_held_drew (S := fun w' => w'.cell? ⟨w.heap.size, 0, none⟩ = some (.int .i64 f) ∧ w'.cell? ⟨w.heap.size, 1, none⟩ = some (.slice (some ⟨b, off, none⟩) l.length cap) ∧ w'.cell? ⟨b, off + k * 2, none⟩ = some (.int .i64 it.1) ∧ w'.cell? ⟨b, off + k * 2 + 1, none⟩ = some (.int .u64 it.2)) (by kernel_rfl) ⟨x0, x1, i1, i2⟩ (fun hHeld => ?_)
      refine wpAnyH_take (i := 0) (v := (.slice A4 x.length c4)) rfl (by kernel_rfl) (by kernel_rfl) (by kernel_rfl) (fun _ _ _ h => h) (Or.inl ⟨by rfl, ?_⟩) hHeld ?_
      · (intro w hSw; (try dsimp only at hSw); obtain ⟨s0, s1, s2, s3⟩ := hSw; go_simp)
      simp only [Act.put, List.setIfInBounds_toArray, List.set_cons_zero, List.set_cons_succ]
      refine wpAnyH_take (i := 1) (v := (.pointer (some ⟨w.heap.size, 0, none⟩))) rfl (by kernel_rfl) (by kernel_rfl) (by kernel_rfl) (fun _ _ _ h => h) (Or.inl ⟨by rfl, ?_⟩) hHeld ?_
      · (intro w hSw; (try dsimp only at hSw); obtain ⟨s0, s1, s2, s3⟩ := hSw; go_simp)
      simp only [Act.put, List.setIfInBounds_toArray, List.set_cons_zero, List.set_cons_succ]
      refine wpAnyH_take (i := 2) (v := (.int .i64 f)) rfl (by kernel_rfl) (by kernel_rfl) (by kernel_rfl) (fun _ _ _ h => h) (Or.inl ⟨by rfl, ?_⟩) hHeld ?_
      · (intro w hSw; (try dsimp only at hSw); obtain ⟨s0, s1, s2, s3⟩ := hSw; go_simp)
      simp only [Act.put, List.setIfInBounds_toArray, List.set_cons_zero, List.set_cons_succ]
      refine wpAnyH_take (i := 3) (v := (.int .i64 (f - 1))) rfl (by kernel_rfl) (by kernel_rfl) (by kernel_rfl) (fun _ _ _ h => h) (Or.inl ⟨by rfl, ?_⟩) hHeld ?_
      · (intro w hSw; have hwr : IntKind.i64.wrap (f - 1) = f - 1 := IntWalk.i64_in _ (by omega); (try dsimp only at hSw); obtain ⟨s0, s1, s2, s3⟩ := hSw; go_simp)
      simp only [Act.put, List.setIfInBounds_toArray, List.set_cons_zero, List.set_cons_succ]
      refine wpAnyH_take (i := 4) (v := (.int .u64 q.1)) rfl (by kernel_rfl) (by kernel_rfl) (by kernel_rfl) (fun _ _ _ h => h) (Or.inl ⟨by rfl, ?_⟩) hHeld ?_
      · (intro w hSw; (try dsimp only at hSw); obtain ⟨s0, s1, s2, s3⟩ := hSw; go_simp)
      simp only [Act.put, List.setIfInBounds_toArray, List.set_cons_zero, List.set_cons_succ]
      refine wpAnyH_take (i := 6) (v := (.pointer (some ⟨w.heap.size, 1, none⟩))) rfl (by kernel_rfl) (by kernel_rfl) (by kernel_rfl) (fun _ _ _ h => h) (Or.inl ⟨by rfl, ?_⟩) hHeld ?_
      · (intro w hSw; (try dsimp only at hSw); obtain ⟨s0, s1, s2, s3⟩ := hSw; go_simp)
      simp only [Act.put, List.setIfInBounds_toArray, List.set_cons_zero, List.set_cons_succ]
      refine wpAnyH_take (i := 7) (v := (.slice (some ⟨b, off, none⟩) l.length cap)) rfl (by kernel_rfl) (by kernel_rfl) (by kernel_rfl) (fun _ _ _ h => h) (Or.inl ⟨by rfl, ?_⟩) hHeld ?_
      · (intro w hSw; (try dsimp only at hSw); obtain ⟨s0, s1, s2, s3⟩ := hSw; go_simp)
      simp only [Act.put, List.setIfInBounds_toArray, List.set_cons_zero, List.set_cons_succ]
      refine wpAnyH_take (i := 8) (v := (.int .i64 (k : Int))) rfl (by kernel_rfl) (by kernel_rfl) (by kernel_rfl) (fun _ _ _ h => h) (Or.inl ⟨by rfl, ?_⟩) hHeld ?_
      · (intro w hSw; (try dsimp only at hSw); obtain ⟨s0, s1, s2, s3⟩ := hSw; go_simp)
      simp only [Act.put, List.setIfInBounds_toArray, List.set_cons_zero, List.set_cons_succ]
      refine wpAnyH_take (i := 9) (v := (.pointer (some ⟨b, off + k * 2, none⟩))) rfl (by kernel_rfl) (by kernel_rfl) (by kernel_rfl) (fun _ _ _ h => h) (Or.inl ⟨by rfl, ?_⟩) hHeld ?_
      · (intro w hSw; (try dsimp only at hSw); obtain ⟨s0, s1, s2, s3⟩ := hSw; go_simp)
      simp only [Act.put, List.setIfInBounds_toArray, List.set_cons_zero, List.set_cons_succ]
      refine wpAnyH_take (i := 10) (v := (.pointer (some ⟨b, off + k * 2 + 1, none⟩))) rfl (by kernel_rfl) (by kernel_rfl) (by kernel_rfl) (fun _ _ _ h => h) (Or.inl ⟨by rfl, ?_⟩) hHeld ?_
      · (intro w hSw; (try dsimp only at hSw); obtain ⟨s0, s1, s2, s3⟩ := hSw; go_simp)
      simp only [Act.put, List.setIfInBounds_toArray, List.set_cons_zero, List.set_cons_succ]
      refine wpAnyH_take (i := 11) (v := (.int .u64 it.2)) rfl (by kernel_rfl) (by kernel_rfl) (by kernel_rfl) (fun _ _ _ h => h) (Or.inl ⟨by rfl, ?_⟩) hHeld ?_
      · (intro w hSw; (try dsimp only at hSw); obtain ⟨s0, s1, s2, s3⟩ := hSw; go_simp)
      simp only [Act.put, List.setIfInBounds_toArray, List.set_cons_zero, List.set_cons_succ]
      have hd : Below V.heap.size V V.drew := below_drewN (below_0 V) 1
      replace I := Lib.hid (I.out.later hd)
      replace HV := Lib.hid (HV.out.later hd)
      clear hd zx hbw
      refine wpAnyH_ready (rs := [5]) (by kernel_rfl) (by simp) ?_
      refine AllReadyH.cons rfl (fun K hK => ?_) AllReadyH.nil
      go_simp
      refine (QC.out _).mono ?_
      rintro e w3 ⟨rfl, rfl⟩
      refine hK.out _ _ ⟨x0, x1, i1, i2⟩ (fun hHeld => ?_)
      clear hK K
      try simp only [Act.put, List.getElem_toArray, List.getElem_cons_succ, List.getElem_cons_zero, List.setIfInBounds_toArray, List.set_cons_zero, List.set_cons_succ]
      refine wpAnyH_ready (rs := [12]) (by kernel_rfl) (by simp) ?_
      refine AllReadyH.cons rfl (fun K hK => ?_) AllReadyH.nil
      go_simp
      refine (rput_any bb it.2 hub hlen u2 _ HV.out).mono ?_
      rintro e w4 ⟨hb4, v4, rfl, hv4⟩
      obtain ⟨A5, c5, rfl⟩ := hv4.form
      replace I := Lib.hid (I.out.later hb4)
      have HV4 := Lib.hid hv4
      clear hb4 hv4 HV
      have j0 := I.out.1.d0
      have j1 := I.out.1.d1
      refine hK.out _ _ ⟨j0, j1, (I.out.2.2.cell (p := ⟨b, off + k * 2, none⟩) hb).trans H1.out, (I.out.2.2.cell (p := ⟨b, off + k * 2 + 1, none⟩) hb).trans H2.out⟩ (fun hHeld => ?_)
      clear hK K
      try simp only [Act.put, List.getElem_toArray, List.getElem_cons_succ, List.getElem_cons_zero, List.setIfInBounds_toArray, List.set_cons_zero, List.set_cons_succ]
      refine wpAnyH_take (i := 13) (v := (.slice A5 (addL x bb it.2).length c5)) rfl (by kernel_rfl) (by kernel_rfl) (by kernel_rfl) (fun _ _ _ h => h) (Or.inl ⟨by rfl, ?_⟩) hHeld ?_
      · (intro w hSw; go_simp)
      simp only [Act.put, List.getElem_toArray, List.getElem_cons_succ, List.getElem_cons_zero, List.setIfInBounds_toArray, List.set_cons_zero, List.set_cons_succ]
      refine wpAnyH_done (by kernel_rfl) ?_ _
      go_wp2_with fail
      go_roundw
      case rel => exact ⟨k + 1, by omega, by go_num, I.out, by rw [HN.out]; exact HV4.out⟩
      case measure => simp [RowKit.intOf]; omega
    · obtain rfl : k = l.length := by omega
      rw [List.take_of_length_le (by simp)] at HV hub hlen ⊢
      generalize putAll [] (l.map (lowB f)) = x at *
      clear x0 x1 zx
      have x0 := I.out.1.d0
      have x1 := I.out.1.d1
      have zx := I.out.1.lt
      have Z := Lib.hid I.out.2.1
      have T := I.out.2.2
      have y50 := Z.out.d0
      have y51 := Z.out.d1
      have fy0 := Z.out.frozen 0
      have fy1 := Z.out.frozen 1
      have zz := Z.out.lt
      have K := Z.out.set2 (x := .int .i64 (f - 1)) (y := .slice A4 x.length c4)
      have k0 := K.d0
      have k1 := K.d1
      go_wp2_with fail
      exact bodyPost_ret (v := .tuple #[.agg #[.int .i64 (f - 1), .slice A4 x.length c4], .int .i64 0]) (by simp [results, Try.results31, go_sem, k0, k1]) rfl
        ⟨below_set2 T (by omega) _ _, _, rfl, rdB_set2 (HV.out) Z.out⟩
theorem rlower_any (f : Int) (A : Option Addr) (l : Bins) (cap : Nat) (hU : UBs l) (hl : l.length ≤ 30000) (w : World) (hS : Sb w w.heap.size A l) :
    Calls Try.prog 31 #[.agg #[.int .i64 f, .slice A l.length cap]] w (RdRes w (lowerH f l)) := by
  cases h1 : rightB f l with
  | false => rw [lowerH, if_neg (by simp [h1])]; exact rlower_bad1 f A l cap hU hl h1 w hS
  | true =>
    obtain ⟨f1, f3⟩ := fine_of_right h1
    by_cases h0 : f = 0
    · rw [lowerH, if_neg (by subst h0; simp [fineB])]; exact rlower_bad2 f A l cap hU hl h1 h0 w hS
    · rw [lowerH, if_pos ⟨h1, by simp [fineB]; omega⟩]; exact rlower_good f A l cap hU hl h1 h0 w hS
end Go.Proofs.Ytopddcabaiicgaa

/-
  The document's own Add, Merge and Lower.
-/
import Derived.Test.YtopddcabaiicgaaHistRput
import Derived.Test.YtopddcabaiicgaaHistRef3
import Derived.Test.YtopddcabaiicgaaHistMerge
import Derived.Test.YtopddcabaiicgaaHistLower
namespace Go.Proofs.Ytopddcabaiicgaa
open Go.RowKit
set_option linter.unusedVariables false
set_option linter.unusedSimpArgs false
/-- The document's put, whatever comes. -/
theorem rput_any {v : Value} {l : Bins} (a n : Int) (hU : UBs l) (hl : l.length ≤ 60000) (hn : U n) (w : World) (hv : RdB w v l) :
    Calls Try.prog 40 #[v, .int .i64 a, .int .u64 n] w fun e w' => Below w.heap.size w w' ∧ ∃ v', e = .returned v' ∧ RdB w' v' (addL l a n) := by
  obtain ⟨A, c, rfl, hc, hA, hS⟩ := hv
  by_cases h : n = 0
  · subst h
    refine (rput_zero A l c a hU hl w hS).mono ?_
    rintro e w' ⟨rfl, rfl⟩
    exact ⟨below_0 _, _, rfl, by rw [addL, if_pos rfl]; exact ⟨A, c, rfl, hc, hA, hS⟩⟩
  · rw [addL, if_neg h]
    exact rput_good A l c a n hU hl hc hA hn h w hS
theorem RdB.form {w : World} {v : Value} {l : Bins} (h : RdB w v l) : ∃ A c, v = .slice A l.length c := by
  obtain ⟨A, c, e, _⟩ := h; exact ⟨A, c, e⟩
theorem rdB_set2 {w : World} {g : Nat} {t : TypeId} {a : Int} {A : Option Addr} {n c : Nat} {v x y : Value} {l : Bins} (h : RdB w v l) (hx : Blk w g t #[.int .i64 a, .slice A n c]) : RdB ((w.setCell ⟨g, 0, none⟩ x).setCell ⟨g, 1, none⟩ y) v l := by
  obtain ⟨A, c, e, hc, hA, hS⟩ := h
  exact ⟨A, c, e, hc, hA, sb_turned hS hx no_u64 (grow_set2 _ _ _ _)⟩
/-- What the document's functions hand back. -/
def RdRes (w : World) (x : Int × Bins × Int) (e : Ending) (w' : World) : Prop :=
  Below w.heap.size w w' ∧ ∃ v, e = .returned (.tuple #[.agg #[.int .i64 x.1, v], .int .i64 x.2.2]) ∧ RdB w' v x.2.1
set_option maxHeartbeats 1000000 in
theorem radd_bad (f : Int) (A : Option Addr) (l : Bins) (cap : Nat) (v n : Int) (hU : UBs l) (hl : l.length ≤ 60000) (hr : rightB f l = false) (w : World) (hS : Sb w w.heap.size A l) :
    Calls Try.prog 16 #[.agg #[.int .i64 f, .slice A l.length cap], .int .u64 v, .int .u64 n] w (RdRes w (0, [], 90)) := by
  have T : Below w.heap.size w ((w.alloc (.cells #[.int .i64 f, .slice A l.length cap] 25)).alloc (.cells #[.int .i64 0, .slice none 0 0] 25)) := below_al (below_al (below_0 _) _) _
  have X := Lib.hid ((Blk.new w 25 #[.int .i64 f, .slice A l.length cap]).alloc (.cells #[.int .i64 0, .slice none 0 0] 25))
  have Y := Lib.hid (Blk.new2 w (.cells #[.int .i64 f, .slice A l.length cap] 25) 25 #[.int .i64 0, .slice none 0 0])
  have HS := Lib.hid (Sb.later hS T)
  have HS0 := Lib.hid hS
  have HR := Lib.hid hr
  clear hS hr
  go_enter Try.func16, Try.ntmps16
  go_wp2_with fail
  generalize (w.alloc (.cells #[.int .i64 f, .slice A l.length cap] 25)).alloc (.cells #[.int .i64 0, .slice none 0 0] 25) = w0 at *
  refine (rright_any f A l cap hU (by omega) _ HS.out).mono ?_
  rintro e w1 ⟨rfl, hb1⟩
  rw [HR.out]
  replace X := Lib.hid (X.out.later hb1)
  replace Y := Lib.hid (Y.out.later hb1)
  replace T := Below.two T hb1
  clear hb1 HS
  have x0 := X.out.d0
  have x1 := X.out.d1
  have zx := X.out.lt
  have y50 := Y.out.d0
  have y51 := Y.out.d1
  have fy0 := Y.out.frozen 0
  have fy1 := Y.out.frozen 1
  have zy := Y.out.lt
  have K := Y.out.set2 (x := .int .i64 0) (y := .slice none 0 0)
  have k0 := K.d0
  have k1 := K.d1
  go_wp2_with fail
  exact bodyPost_ret (v := .tuple #[.agg #[.int .i64 0, .slice none 0 0], .int .i64 90]) (by simp [results, Try.results16, go_sem, k0, k1]) rfl
    ⟨below_set2 T (by omega) _ _, _, rfl, rdB_set2 (rdB_nil _) Y.out⟩
set_option maxRecDepth 100000 in
set_option maxHeartbeats 4000000 in
theorem radd_good (f : Int) (A : Option Addr) (l : Bins) (cap : Nat) (v n : Int) (hv : U v) (hn : U n) (hU : UBs l) (hl : l.length ≤ 60000) (hc : l.length ≤ cap) (hA : cap ≠ 0 → ∃ b off, A = some ⟨b, off, none⟩) (hr : rightB f l = true) (w : World) (hS : Sb w w.heap.size A l) :
    Calls Try.prog 16 #[.agg #[.int .i64 f, .slice A l.length cap], .int .u64 v, .int .u64 n] w (RdRes w (f, addL l (bucketF f v) n, 0)) := by
  have T : Below w.heap.size w ((w.alloc (.cells #[.int .i64 f, .slice A l.length cap] 25)).alloc (.cells #[.int .i64 0, .slice none 0 0] 25)) := below_al (below_al (below_0 _) _) _
  have X := Lib.hid ((Blk.new w 25 #[.int .i64 f, .slice A l.length cap]).alloc (.cells #[.int .i64 0, .slice none 0 0] 25))
  have Y := Lib.hid (Blk.new2 w (.cells #[.int .i64 f, .slice A l.length cap] 25) 25 #[.int .i64 0, .slice none 0 0])
  have HS := Lib.hid (Sb.later hS T)
  have HS0 := Lib.hid hS
  have HR := Lib.hid hr
  clear hS hr
  go_enter Try.func16, Try.ntmps16
  go_wp2_with fail
  generalize (w.alloc (.cells #[.int .i64 f, .slice A l.length cap] 25)).alloc (.cells #[.int .i64 0, .slice none 0 0] 25) = w0 at *
  refine (rright_any f A l cap hU (by omega) _ HS.out).mono ?_
  rintro e w1 ⟨rfl, hb1⟩
  rw [HR.out]
  replace X := Lib.hid (X.out.later hb1)
  replace Y := Lib.hid (Y.out.later hb1)
  replace T := Below.two T hb1
  clear hb1 HS
  have x0 := X.out.d0
  have x1 := X.out.d1
  have zx := X.out.lt
  have HV : Hid (RdB w1 (.slice A l.length cap) l) := ⟨A, cap, rfl, hc, hA, Sb.later HS0.out T⟩
  go_wp2_with fail
  refine wp_region_held_drew (S := fun w' => w'.cell? ⟨w.heap.size, 0, none⟩ = some (.int .i64 f) ∧ w'.cell? ⟨w.heap.size, 1, none⟩ = some (.slice A l.length cap)) (by kernel_rfl) ⟨x0, x1⟩ (fun hHeld => ?_)
  refine wpAnyH_take (i := 0) (v := (.pointer (some ⟨w.heap.size, 0, none⟩))) rfl (by kernel_rfl) (by kernel_rfl) (by kernel_rfl) (fun _ _ _ h => h) (Or.inl ⟨by rfl, ?_⟩) hHeld ?_
  · (intro w hSw; (try dsimp only at hSw); (try obtain ⟨s0, s1⟩ := hSw); go_simp)
  simp only [Act.put, List.setIfInBounds_toArray, List.set_cons_zero, List.set_cons_succ]
  refine wpAnyH_take (i := 1) (v := (.int .i64 f)) rfl (by kernel_rfl) (by kernel_rfl) (by kernel_rfl) (fun _ _ _ h => h) (Or.inl ⟨by rfl, ?_⟩) hHeld ?_
  · (intro w hSw; (try dsimp only at hSw); (try obtain ⟨s0, s1⟩ := hSw); go_simp)
  simp only [Act.put, List.setIfInBounds_toArray, List.set_cons_zero, List.set_cons_succ]
  refine wpAnyH_take (i := 2) (v := (.pointer (some ⟨w.heap.size, 1, none⟩))) rfl (by kernel_rfl) (by kernel_rfl) (by kernel_rfl) (fun _ _ _ h => h) (Or.inl ⟨by rfl, ?_⟩) hHeld ?_
  · (intro w hSw; (try dsimp only at hSw); (try obtain ⟨s0, s1⟩ := hSw); go_simp)
  simp only [Act.put, List.setIfInBounds_toArray, List.set_cons_zero, List.set_cons_succ]
  refine wpAnyH_take (i := 3) (v := (.slice A l.length cap)) rfl (by kernel_rfl) (by kernel_rfl) (by kernel_rfl) (fun _ _ _ h => h) (Or.inl ⟨by rfl, ?_⟩) hHeld ?_
  · (intro w hSw; (try dsimp only at hSw); (try obtain ⟨s0, s1⟩ := hSw); go_simp)
  simp only [Act.put, List.setIfInBounds_toArray, List.set_cons_zero, List.set_cons_succ]
  refine wpAnyH_take (i := 4) (v := (.pointer (some ⟨w.heap.size, 0, none⟩))) rfl (by kernel_rfl) (by kernel_rfl) (by kernel_rfl) (fun _ _ _ h => h) (Or.inl ⟨by rfl, ?_⟩) hHeld ?_
  · (intro w hSw; (try dsimp only at hSw); (try obtain ⟨s0, s1⟩ := hSw); go_simp)
  simp only [Act.put, List.setIfInBounds_toArray, List.set_cons_zero, List.set_cons_succ]
  refine wpAnyH_take (i := 5) (v := (.int .i64 f)) rfl (by kernel_rfl) (by kernel_rfl) (by kernel_rfl) (fun _ _ _ h => h) (Or.inl ⟨by rfl, ?_⟩) hHeld ?_
  · (intro w hSw; (try dsimp only at hSw); (try obtain ⟨s0, s1⟩ := hSw); go_simp)
  simp only [Act.put, List.setIfInBounds_toArray, List.set_cons_zero, List.set_cons_succ]
  refine wpAnyH_take (i := 6) (v := (.int .u64 v)) rfl (by kernel_rfl) (by kernel_rfl) (by kernel_rfl) (fun _ _ _ h => h) (Or.inl ⟨by rfl, ?_⟩) hHeld ?_
  · (intro w hSw; (try dsimp only at hSw); (try obtain ⟨s0, s1⟩ := hSw); go_simp)
  simp only [Act.put, List.setIfInBounds_toArray, List.set_cons_zero, List.set_cons_succ]
  refine wpAnyH_take (i := 8) (v := (.int .u64 n)) rfl (by kernel_rfl) (by kernel_rfl) (by kernel_rfl) (fun _ _ _ h => h) (Or.inl ⟨by rfl, ?_⟩) hHeld ?_
  · (intro w hSw; (try dsimp only at hSw); (try obtain ⟨s0, s1⟩ := hSw); go_simp)
  simp only [Act.put, List.setIfInBounds_toArray, List.set_cons_zero, List.set_cons_succ]
  refine wpAnyH_ready (rs := [7]) (by kernel_rfl) (by simp) ?_
  refine AllReadyH.cons rfl (fun K hK => ?_) AllReadyH.nil
  go_simp
  refine (rbucket_any f v hv _).mono ?_
  rintro e w3 ⟨rfl, rfl⟩
  refine hK.out _ _ ⟨x0, x1⟩ (fun hHeld => ?_)
  clear hK K
  try simp only [Act.put, List.getElem_toArray, List.getElem_cons_succ, List.getElem_cons_zero, List.setIfInBounds_toArray, List.set_cons_zero, List.set_cons_succ]
  have hd : Below w1.heap.size w1 w1.drew := below_drewN (below_0 w1) 1
  replace X := Lib.hid (X.out.later hd)
  replace Y := Lib.hid (Y.out.later hd)
  replace HV := Lib.hid (HV.out.later hd)
  replace T := Below.two T hd
  clear hd
  clear x0 x1 zx
  generalize w1.drew = w1 at *
  refine wpAnyH_ready (rs := [9]) (by kernel_rfl) (by simp) ?_
  refine AllReadyH.cons rfl (fun K hK => ?_) AllReadyH.nil
  go_simp
  refine (rput_any (bucketF f v) n hU hl hn _ HV.out).mono ?_
  rintro e w4 ⟨hb4, v4, rfl, hv4⟩
  obtain ⟨A4, c4, rfl⟩ := hv4.form
  have HV4 := Lib.hid hv4
  replace X := Lib.hid (X.out.later hb4)
  replace Y := Lib.hid (Y.out.later hb4)
  replace T := Below.two T hb4
  clear hb4 hv4
  have x0 := X.out.d0
  have x1 := X.out.d1
  refine hK.out _ _ ⟨x0, x1⟩ (fun hHeld => ?_)
  clear hK K
  try simp only [Act.put, List.getElem_toArray, List.getElem_cons_succ, List.getElem_cons_zero, List.setIfInBounds_toArray, List.set_cons_zero, List.set_cons_succ]
  refine wpAnyH_take (i := 10) (v := (.agg #[.int .i64 f, .slice A4 (addL l (bucketF f v) n).length c4])) rfl (by kernel_rfl) (by kernel_rfl) (by kernel_rfl) (fun _ _ _ h => h) (Or.inl ⟨by rfl, ?_⟩) hHeld ?_
  · (intro w hSw; (try dsimp only at hSw); (try obtain ⟨s0, s1⟩ := hSw); go_simp)
  simp only [Act.put, List.getElem_toArray, List.getElem_cons_succ, List.getElem_cons_zero, List.setIfInBounds_toArray, List.set_cons_zero, List.set_cons_succ]
  have y50 := Y.out.d0
  have y51 := Y.out.d1
  have fy0 := Y.out.frozen 0
  have fy1 := Y.out.frozen 1
  have zy := Y.out.lt
  have K9 := Y.out.set2 (x := .int .i64 f) (y := .slice A4 (addL l (bucketF f v) n).length c4)
  have k0 := K9.d0
  have k1 := K9.d1
  have X9 := Lib.hid (X.out.grown (grow_set2 w4 (w.heap.size + 1) (.int .i64 f) (.slice A4 (addL l (bucketF f v) n).length c4)) (by intro e; injection e with e; omega))
  refine wpAnyH_ready (rs := [11]) (by kernel_rfl) (by simp) ?_
  refine AllReadyH.cons rfl (fun K hK => ?_) AllReadyH.nil
  go_simp
  refine hK.out _ _ ⟨X9.out.d0, X9.out.d1⟩ (fun hHeld => ?_)
  clear hK K
  try simp only [Act.put, List.getElem_toArray, List.getElem_cons_succ, List.getElem_cons_zero, List.setIfInBounds_toArray, List.set_cons_zero, List.set_cons_succ]
  refine wpAnyH_take (i := 12) (v := (.int .i64 0)) rfl (by kernel_rfl) (by kernel_rfl) (by kernel_rfl) (fun _ _ _ h => h) (Or.inl ⟨by rfl, ?_⟩) hHeld ?_
  · (intro w hSw; go_simp)
  simp only [Act.put, List.getElem_toArray, List.getElem_cons_succ, List.getElem_cons_zero, List.setIfInBounds_toArray, List.set_cons_zero, List.set_cons_succ]
  refine wpAnyH_done (by kernel_rfl) ?_ _
  go_wp2_with fail
  exact bodyPost_ret (v := .tuple #[.agg #[.int .i64 f, .slice A4 (addL l (bucketF f v) n).length c4], .int .i64 0]) (by simp [results, Try.results16, go_sem, k0, k1]) rfl
    ⟨below_set2 T (by omega) _ _, _, rfl, rdB_set2 HV4.out Y.out⟩
theorem radd_any (f : Int) (A : Option Addr) (l : Bins) (cap : Nat) (v n : Int) (hv : U v) (hn : U n) (hU : UBs l) (hl : l.length ≤ 60000) (hc : l.length ≤ cap) (hA : cap ≠ 0 → ∃ b off, A = some ⟨b, off, none⟩) (w : World) (hS : Sb w w.heap.size A l) :
    Calls Try.prog 16 #[.agg #[.int .i64 f, .slice A l.length cap], .int .u64 v, .int .u64 n] w (RdRes w (addH f l v n)) := by
  cases h : rightB f l with
  | true => rw [addH, if_pos h]; exact radd_good f A l cap v n hv hn hU hl hc hA h w hS
  | false => rw [addH, if_neg (by simp [h])]; exact radd_bad f A l cap v n hU hl h w hS
end Go.Proofs.Ytopddcabaiicgaa

/-
  The document's own Merge.
-/
import Derived.Test.YtopddcabaiicgaaHistRef4
namespace Go.Proofs.Ytopddcabaiicgaa
open Go.RowKit
set_option linter.unusedVariables false
set_option linter.unusedSimpArgs false
def RmI (w : World) (f g : Int) (A C : Option Addr) (nl nm cap capy : Nat) (wr : World) : Prop :=
  Blk wr w.heap.size 25 #[.int .i64 f, .slice A nl cap] ∧ Blk wr (w.heap.size + 1) 25 #[.int .i64 g, .slice C nm capy] ∧ Blk wr (w.heap.size + 1 + 1) 25 #[.int .i64 0, .slice none 0 0] ∧ Below w.heap.size w wr
theorem RmI.later {w : World} {f g : Int} {A C : Option Addr} {nl nm cap capy : Nat} {wr w' : World} (h : RmI w f g A C nl nm cap capy wr) (hb : Below wr.heap.size wr w') : RmI w f g A C nl nm cap capy w' :=
  ⟨h.1.later hb, h.2.1.later hb, h.2.2.1.later hb, Below.two h.2.2.2 hb⟩
set_option maxHeartbeats 1000000 in
theorem rmerge_bad1 (f g : Int) (A C : Option Addr) (l m : Bins) (cap capy : Nat) (hU : UBs l) (hV : UBs m) (hl : l.length ≤ 30000) (hm : m.length ≤ 30000) (hr : rightB f l = false) (w : World) (hS : Sb w w.heap.size A l) (hT : Sb w w.heap.size C m) :
    Calls Try.prog 30 #[.agg #[.int .i64 f, .slice A l.length cap], .agg #[.int .i64 g, .slice C m.length capy]] w (RdRes w (0, [], 90)) := by
  have HR := Lib.hid hr
  clear hr
  have T : Below w.heap.size w (((w.alloc (.cells #[.int .i64 f, .slice A l.length cap] 25)).alloc (.cells #[.int .i64 g, .slice C m.length capy] 25)).alloc (.cells #[.int .i64 0, .slice none 0 0] 25)) := below_al (below_al (below_al (below_0 _) _) _) _
  have I : Hid (RmI w f g A C l.length m.length cap capy (((w.alloc (.cells #[.int .i64 f, .slice A l.length cap] 25)).alloc (.cells #[.int .i64 g, .slice C m.length capy] 25)).alloc (.cells #[.int .i64 0, .slice none 0 0] 25))) := ⟨((Blk.new w _ _).alloc _).alloc _, (Blk.new2 w _ _ _).alloc _, Blk.new3 w _ _ _ _, T⟩
  have HS := Lib.hid hS
  have HT := Lib.hid hT
  clear hS hT T
  go_enter Try.func30, Try.ntmps30
  go_wp2_with fail
  generalize ((w.alloc (.cells #[.int .i64 f, .slice A l.length cap] 25)).alloc (.cells #[.int .i64 g, .slice C m.length capy] 25)).alloc (.cells #[.int .i64 0, .slice none 0 0] 25) = w0 at *
  refine (rright_any f A l cap hU (by omega) _ (Sb.later HS.out I.out.2.2.2)).mono ?_
  rintro e w1 ⟨rfl, hb1⟩
  rw [HR.out]
  replace I := Lib.hid (I.out.later hb1)
  clear hb1
  have x0 := I.out.1.d0
  have x1 := I.out.1.d1
  have zx := I.out.1.lt
  have y0 := I.out.2.1.d0
  have y1 := I.out.2.1.d1
  have zy := I.out.2.1.lt
  have Z := Lib.hid I.out.2.2.1
  have T := I.out.2.2.2
  have y50 := Z.out.d0
  have y51 := Z.out.d1
  have fy0 := Z.out.frozen 0
  have fy1 := Z.out.frozen 1
  have zz := Z.out.lt
  have K := Z.out.set2 (x := .int .i64 0) (y := .slice none 0 0)
  have k0 := K.d0
  have k1 := K.d1
  go_wp2_with fail
  exact bodyPost_ret (v := .tuple #[.agg #[.int .i64 0, .slice none 0 0], .int .i64 90]) (by simp [results, Try.results30, go_sem, k0, k1]) rfl
    ⟨below_set2 T (by omega) _ _, _, rfl, rdB_set2 (rdB_nil _) Z.out⟩
set_option maxHeartbeats 1000000 in
theorem rmerge_bad2 (f g : Int) (A C : Option Addr) (l m : Bins) (cap capy : Nat) (hU : UBs l) (hV : UBs m) (hl : l.length ≤ 30000) (hm : m.length ≤ 30000) (hr : rightB f l = true) (hq : rightB g m = false) (w : World) (hS : Sb w w.heap.size A l) (hT : Sb w w.heap.size C m) :
    Calls Try.prog 30 #[.agg #[.int .i64 f, .slice A l.length cap], .agg #[.int .i64 g, .slice C m.length capy]] w (RdRes w (0, [], 90)) := by
  have HR := Lib.hid hr
  have HQ := Lib.hid hq
  clear hr hq
  have T : Below w.heap.size w (((w.alloc (.cells #[.int .i64 f, .slice A l.length cap] 25)).alloc (.cells #[.int .i64 g, .slice C m.length capy] 25)).alloc (.cells #[.int .i64 0, .slice none 0 0] 25)) := below_al (below_al (below_al (below_0 _) _) _) _
  have I : Hid (RmI w f g A C l.length m.length cap capy (((w.alloc (.cells #[.int .i64 f, .slice A l.length cap] 25)).alloc (.cells #[.int .i64 g, .slice C m.length capy] 25)).alloc (.cells #[.int .i64 0, .slice none 0 0] 25))) := ⟨((Blk.new w _ _).alloc _).alloc _, (Blk.new2 w _ _ _).alloc _, Blk.new3 w _ _ _ _, T⟩
  have HS := Lib.hid hS
  have HT := Lib.hid hT
  clear hS hT T
  go_enter Try.func30, Try.ntmps30
  go_wp2_with fail
  generalize ((w.alloc (.cells #[.int .i64 f, .slice A l.length cap] 25)).alloc (.cells #[.int .i64 g, .slice C m.length capy] 25)).alloc (.cells #[.int .i64 0, .slice none 0 0] 25) = w0 at *
  refine (rright_any f A l cap hU (by omega) _ (Sb.later HS.out I.out.2.2.2)).mono ?_
  rintro e w1 ⟨rfl, hb1⟩
  rw [HR.out]
  replace I := Lib.hid (I.out.later hb1)
  clear hb1
  have x0 := I.out.1.d0
  have x1 := I.out.1.d1
  have zx := I.out.1.lt
  have y0 := I.out.2.1.d0
  have y1 := I.out.2.1.d1
  have zy := I.out.2.1.lt
  go_wp2_with fail
  refine (rright_any g C m capy hV (by omega) _ (Sb.later HT.out I.out.2.2.2)).mono ?_
  rintro e w2 ⟨rfl, hb2⟩
  rw [HQ.out]
  replace I := Lib.hid (I.out.later hb2)
  clear hb2 x0 x1 zx y0 y1 zy
  have x0 := I.out.1.d0
  have x1 := I.out.1.d1
  have zx := I.out.1.lt
  have y0 := I.out.2.1.d0
  have y1 := I.out.2.1.d1
  have zy := I.out.2.1.lt
  have Z := Lib.hid I.out.2.2.1
  have T := I.out.2.2.2
  have y50 := Z.out.d0
  have y51 := Z.out.d1
  have fy0 := Z.out.frozen 0
  have fy1 := Z.out.frozen 1
  have zz := Z.out.lt
  have K := Z.out.set2 (x := .int .i64 0) (y := .slice none 0 0)
  have k0 := K.d0
  have k1 := K.d1
  go_wp2_with fail
  exact bodyPost_ret (v := .tuple #[.agg #[.int .i64 0, .slice none 0 0], .int .i64 90]) (by simp [results, Try.results30, go_sem, k0, k1]) rfl
    ⟨below_set2 T (by omega) _ _, _, rfl, rdB_set2 (rdB_nil _) Z.out⟩
set_option maxHeartbeats 1000000 in
theorem rmerge_bad3 (f g : Int) (A C : Option Addr) (l m : Bins) (cap capy : Nat) (hU : UBs l) (hV : UBs m) (hl : l.length ≤ 30000) (hm : m.length ≤ 30000) (hr : rightB f l = true) (hq : rightB g m = true) (hne : ¬ g = f) (w : World) (hS : Sb w w.heap.size A l) (hT : Sb w w.heap.size C m) :
    Calls Try.prog 30 #[.agg #[.int .i64 f, .slice A l.length cap], .agg #[.int .i64 g, .slice C m.length capy]] w (RdRes w (0, [], 90)) := by
  have HR := Lib.hid hr
  have HQ := Lib.hid hq
  have dn : (f != g) = true := by simp; omega
  clear hr hq
  have T : Below w.heap.size w (((w.alloc (.cells #[.int .i64 f, .slice A l.length cap] 25)).alloc (.cells #[.int .i64 g, .slice C m.length capy] 25)).alloc (.cells #[.int .i64 0, .slice none 0 0] 25)) := below_al (below_al (below_al (below_0 _) _) _) _
  have I : Hid (RmI w f g A C l.length m.length cap capy (((w.alloc (.cells #[.int .i64 f, .slice A l.length cap] 25)).alloc (.cells #[.int .i64 g, .slice C m.length capy] 25)).alloc (.cells #[.int .i64 0, .slice none 0 0] 25))) := ⟨((Blk.new w _ _).alloc _).alloc _, (Blk.new2 w _ _ _).alloc _, Blk.new3 w _ _ _ _, T⟩
  have HS := Lib.hid hS
  have HT := Lib.hid hT
  clear hS hT T
  go_enter Try.func30, Try.ntmps30
  go_wp2_with fail
  generalize ((w.alloc (.cells #[.int .i64 f, .slice A l.length cap] 25)).alloc (.cells #[.int .i64 g, .slice C m.length capy] 25)).alloc (.cells #[.int .i64 0, .slice none 0 0] 25) = w0 at *
  refine (rright_any f A l cap hU (by omega) _ (Sb.later HS.out I.out.2.2.2)).mono ?_
  rintro e w1 ⟨rfl, hb1⟩
  rw [HR.out]
  replace I := Lib.hid (I.out.later hb1)
  clear hb1
  have x0 := I.out.1.d0
  have x1 := I.out.1.d1
  have zx := I.out.1.lt
  have y0 := I.out.2.1.d0
  have y1 := I.out.2.1.d1
  have zy := I.out.2.1.lt
  go_wp2_with fail
  refine (rright_any g C m capy hV (by omega) _ (Sb.later HT.out I.out.2.2.2)).mono ?_
  rintro e w2 ⟨rfl, hb2⟩
  rw [HQ.out]
  replace I := Lib.hid (I.out.later hb2)
  clear hb2 x0 x1 zx y0 y1 zy
  have x0 := I.out.1.d0
  have x1 := I.out.1.d1
  have zx := I.out.1.lt
  have y0 := I.out.2.1.d0
  have y1 := I.out.2.1.d1
  have zy := I.out.2.1.lt
  have Z := Lib.hid I.out.2.2.1
  have T := I.out.2.2.2
  have y50 := Z.out.d0
  have y51 := Z.out.d1
  have fy0 := Z.out.frozen 0
  have fy1 := Z.out.frozen 1
  have zz := Z.out.lt
  have K := Z.out.set2 (x := .int .i64 0) (y := .slice none 0 0)
  have k0 := K.d0
  have k1 := K.d1
  go_wp2_with fail
  exact bodyPost_ret (v := .tuple #[.agg #[.int .i64 0, .slice none 0 0], .int .i64 90]) (by simp [results, Try.results30, go_sem, k0, k1]) rfl
    ⟨below_set2 T (by omega) _ _, _, rfl, rdB_set2 (rdB_nil _) Z.out⟩
set_option maxRecDepth 100000 in
set_option maxHeartbeats 4000000 in
theorem rmerge_good (f : Int) (A C : Option Addr) (l m : Bins) (cap capy : Nat) (hU : UBs l) (hV : UBs m) (hl : l.length ≤ 30000) (hm : m.length ≤ 30000) (hc : l.length ≤ cap) (hA : cap ≠ 0 → ∃ b off, A = some ⟨b, off, none⟩) (hr : rightB f l = true) (hq : rightB f m = true) (w : World) (hS : Sb w w.heap.size A l) (hT : Sb w w.heap.size C m) :
    Calls Try.prog 30 #[.agg #[.int .i64 f, .slice A l.length cap], .agg #[.int .i64 f, .slice C m.length capy]] w (RdRes w (f, putAll l m, 0)) := by
  have HR := Lib.hid hr
  have HQ := Lib.hid hq
  have R2 := Lib.hid (rt_of hq)
  clear hr hq
  have T : Below w.heap.size w (((w.alloc (.cells #[.int .i64 f, .slice A l.length cap] 25)).alloc (.cells #[.int .i64 f, .slice C m.length capy] 25)).alloc (.cells #[.int .i64 0, .slice none 0 0] 25)) := below_al (below_al (below_al (below_0 _) _) _) _
  have I : Hid (RmI w f f A C l.length m.length cap capy (((w.alloc (.cells #[.int .i64 f, .slice A l.length cap] 25)).alloc (.cells #[.int .i64 f, .slice C m.length capy] 25)).alloc (.cells #[.int .i64 0, .slice none 0 0] 25))) := ⟨((Blk.new w _ _).alloc _).alloc _, (Blk.new2 w _ _ _).alloc _, Blk.new3 w _ _ _ _, T⟩
  have HS := Lib.hid hS
  have HT := Lib.hid hT
  clear hS hT T
  go_enter Try.func30, Try.ntmps30
  go_wp2_with fail
  generalize ((w.alloc (.cells #[.int .i64 f, .slice A l.length cap] 25)).alloc (.cells #[.int .i64 f, .slice C m.length capy] 25)).alloc (.cells #[.int .i64 0, .slice none 0 0] 25) = w0 at *
  refine (rright_any f A l cap hU (by omega) _ (Sb.later HS.out I.out.2.2.2)).mono ?_
  rintro e w1 ⟨rfl, hb1⟩
  rw [HR.out]
  replace I := Lib.hid (I.out.later hb1)
  clear hb1
  have x0 := I.out.1.d0
  have x1 := I.out.1.d1
  have zx := I.out.1.lt
  have y0 := I.out.2.1.d0
  have y1 := I.out.2.1.d1
  have zy := I.out.2.1.lt
  go_wp2_with fail
  refine (rright_any f C m capy hV (by omega) _ (Sb.later HT.out I.out.2.2.2)).mono ?_
  rintro e w2 ⟨rfl, hb2⟩
  rw [HQ.out]
  replace I := Lib.hid (I.out.later hb2)
  clear hb2 x0 x1 zx y0 y1 zy
  have x0 := I.out.1.d0
  have x1 := I.out.1.d1
  have zx := I.out.1.lt
  have y0 := I.out.2.1.d0
  have y1 := I.out.2.1.d1
  have zy := I.out.2.1.lt
  have HV : Hid (RdB w2 (.slice A l.length cap) (putAll l (m.take 0))) := ⟨A, cap, rfl, hc, hA, Sb.later HS.out I.out.2.2.2⟩
  clear hc hA
  go_wp2_with fail
  clear x0 x1 zx y0 y1 zy
  go_loopw [6, 7] (fun lv i wr => ∃ k : Nat, k ≤ m.length ∧ i = .int .i64 k ∧ RmI w f f A C l.length m.length cap capy wr ∧ RdB wr lv (putAll l (m.take k))) (fun _ i _ => m.length - (RowKit.intOf i).toNat)
  case atStart => exact ⟨0, Nat.zero_le _, rfl, I.out, HV.out⟩
  case round =>
    clear I HV
    obtain ⟨k, hk, rfl, hI, hv⟩ := hrel
    obtain ⟨A4, c4, rfl⟩ := hv.form
    have I := Lib.hid hI
    have HV := Lib.hid hv
    have x0 := I.out.1.d0
    have zx := I.out.1.lt
    have y1 := I.out.2.1.d1
    have zy := I.out.2.1.lt
    have hub : UBs (putAll l (m.take k)) := putAll_ubs hU (hV.take k)
    have hlen : (putAll l (m.take k)).length ≤ 60000 := by have := putAll_length (m.take k) l; rw [List.length_take] at this; omega
    clear hI hv
    by_cases hlt : k < m.length
    · obtain ⟨b, off, rfl, hb, hcs⟩ := HT.out.at_ (by omega)
      obtain ⟨h1, h2⟩ := hcs k hlt
      have T := I.out.2.2.2
      have i1 := (T.cell (p := ⟨b, off + k * 2, none⟩) hb).trans h1
      have i2 := (T.cell (p := ⟨b, off + k * 2 + 1, none⟩) hb).trans h2
      have hbw : b < wr.heap.size := by have := T.size; omega
      obtain ⟨u1, u2⟩ := bth_U hV k
      have HN : Hid (putAll l (m.take (k + 1)) = addL (putAll l (m.take k)) (bth m k).1 (bth m k).2) := by show _ = _; rw [take_bth_succ hlt, putAll_snoc, addL, if_neg (R2.out.nz _ (bth_mem hlt))]
      have hi1 : (0 : Int) ≤ (k : Int) := by omega
      have hi2 : (k : Int) < (m.length : Int) := by omega
      have H1 := Lib.hid h1
      have H2 := Lib.hid h2
      clear hcs h1 h2 T
      generalize bth m k = it at *
      generalize putAll l (m.take k) = x at *
      go_wp2_with fail
      refine wp_region_held_drew (S := fun w' => w'.cell? ⟨w.heap.size + 1, 1, none⟩ = some (.slice (some ⟨b, off, none⟩) m.length capy) ∧ w'.cell? ⟨b, off + k * 2, none⟩ = some (.int .i64 it.1) ∧ w'.cell? ⟨b, off + k * 2 + 1, none⟩ = some (.int .u64 it.2)) (by kernel_rfl) ⟨y1, i1, i2⟩ (fun hHeld => ?_)
      refine wpAnyH_take (i := 0) (v := (.slice A4 x.length c4)) rfl (by kernel_rfl) (by kernel_rfl) (by kernel_rfl) (fun _ _ _ h => h) (Or.inl ⟨by rfl, ?_⟩) hHeld ?_
      · (intro w hSw; (try dsimp only at hSw); obtain ⟨s0, s1, s2⟩ := hSw; go_simp)
      simp only [Act.put, List.setIfInBounds_toArray, List.set_cons_zero, List.set_cons_succ]
      refine wpAnyH_take (i := 1) (v := (.pointer (some ⟨w.heap.size + 1, 1, none⟩))) rfl (by kernel_rfl) (by kernel_rfl) (by kernel_rfl) (fun _ _ _ h => h) (Or.inl ⟨by rfl, ?_⟩) hHeld ?_
      · (intro w hSw; (try dsimp only at hSw); obtain ⟨s0, s1, s2⟩ := hSw; go_simp)
      simp only [Act.put, List.setIfInBounds_toArray, List.set_cons_zero, List.set_cons_succ]
      refine wpAnyH_take (i := 2) (v := (.slice (some ⟨b, off, none⟩) m.length capy)) rfl (by kernel_rfl) (by kernel_rfl) (by kernel_rfl) (fun _ _ _ h => h) (Or.inl ⟨by rfl, ?_⟩) hHeld ?_
      · (intro w hSw; (try dsimp only at hSw); obtain ⟨s0, s1, s2⟩ := hSw; go_simp)
      simp only [Act.put, List.setIfInBounds_toArray, List.set_cons_zero, List.set_cons_succ]
      refine wpAnyH_take (i := 3) (v := (.int .i64 (k : Int))) rfl (by kernel_rfl) (by kernel_rfl) (by kernel_rfl) (fun _ _ _ h => h) (Or.inl ⟨by rfl, ?_⟩) hHeld ?_
      · (intro w hSw; (try dsimp only at hSw); obtain ⟨s0, s1, s2⟩ := hSw; go_simp)
      simp only [Act.put, List.setIfInBounds_toArray, List.set_cons_zero, List.set_cons_succ]
      refine wpAnyH_take (i := 4) (v := (.pointer (some ⟨b, off + k * 2, none⟩))) rfl (by kernel_rfl) (by kernel_rfl) (by kernel_rfl) (fun _ _ _ h => h) (Or.inl ⟨by rfl, ?_⟩) hHeld ?_
      · (intro w hSw; (try dsimp only at hSw); obtain ⟨s0, s1, s2⟩ := hSw; go_simp)
      simp only [Act.put, List.setIfInBounds_toArray, List.set_cons_zero, List.set_cons_succ]
      refine wpAnyH_take (i := 5) (v := (.pointer (some ⟨b, off + k * 2, none⟩))) rfl (by kernel_rfl) (by kernel_rfl) (by kernel_rfl) (fun _ _ _ h => h) (Or.inl ⟨by rfl, ?_⟩) hHeld ?_
      · (intro w hSw; (try dsimp only at hSw); obtain ⟨s0, s1, s2⟩ := hSw; go_simp)
      simp only [Act.put, List.setIfInBounds_toArray, List.set_cons_zero, List.set_cons_succ]
      refine wpAnyH_take (i := 6) (v := (.int .i64 it.1)) rfl (by kernel_rfl) (by kernel_rfl) (by kernel_rfl) (fun _ _ _ h => h) (Or.inl ⟨by rfl, ?_⟩) hHeld ?_
      · (intro w hSw; (try dsimp only at hSw); obtain ⟨s0, s1, s2⟩ := hSw; go_simp)
      simp only [Act.put, List.setIfInBounds_toArray, List.set_cons_zero, List.set_cons_succ]
      refine wpAnyH_take (i := 7) (v := (.pointer (some ⟨w.heap.size + 1, 1, none⟩))) rfl (by kernel_rfl) (by kernel_rfl) (by kernel_rfl) (fun _ _ _ h => h) (Or.inl ⟨by rfl, ?_⟩) hHeld ?_
      · (intro w hSw; (try dsimp only at hSw); obtain ⟨s0, s1, s2⟩ := hSw; go_simp)
      simp only [Act.put, List.setIfInBounds_toArray, List.set_cons_zero, List.set_cons_succ]
      refine wpAnyH_take (i := 8) (v := (.slice (some ⟨b, off, none⟩) m.length capy)) rfl (by kernel_rfl) (by kernel_rfl) (by kernel_rfl) (fun _ _ _ h => h) (Or.inl ⟨by rfl, ?_⟩) hHeld ?_
      · (intro w hSw; (try dsimp only at hSw); obtain ⟨s0, s1, s2⟩ := hSw; go_simp)
      simp only [Act.put, List.setIfInBounds_toArray, List.set_cons_zero, List.set_cons_succ]
      refine wpAnyH_take (i := 9) (v := (.int .i64 (k : Int))) rfl (by kernel_rfl) (by kernel_rfl) (by kernel_rfl) (fun _ _ _ h => h) (Or.inl ⟨by rfl, ?_⟩) hHeld ?_
      · (intro w hSw; (try dsimp only at hSw); obtain ⟨s0, s1, s2⟩ := hSw; go_simp)
      simp only [Act.put, List.setIfInBounds_toArray, List.set_cons_zero, List.set_cons_succ]
      refine wpAnyH_take (i := 10) (v := (.pointer (some ⟨b, off + k * 2, none⟩))) rfl (by kernel_rfl) (by kernel_rfl) (by kernel_rfl) (fun _ _ _ h => h) (Or.inl ⟨by rfl, ?_⟩) hHeld ?_
      · (intro w hSw; (try dsimp only at hSw); obtain ⟨s0, s1, s2⟩ := hSw; go_simp)
      simp only [Act.put, List.setIfInBounds_toArray, List.set_cons_zero, List.set_cons_succ]
      refine wpAnyH_take (i := 11) (v := (.pointer (some ⟨b, off + k * 2 + 1, none⟩))) rfl (by kernel_rfl) (by kernel_rfl) (by kernel_rfl) (fun _ _ _ h => h) (Or.inl ⟨by rfl, ?_⟩) hHeld ?_
      · (intro w hSw; (try dsimp only at hSw); obtain ⟨s0, s1, s2⟩ := hSw; go_simp)
      simp only [Act.put, List.setIfInBounds_toArray, List.set_cons_zero, List.set_cons_succ]
      refine wpAnyH_take (i := 12) (v := (.int .u64 it.2)) rfl (by kernel_rfl) (by kernel_rfl) (by kernel_rfl) (fun _ _ _ h => h) (Or.inl ⟨by rfl, ?_⟩) hHeld ?_
      · (intro w hSw; (try dsimp only at hSw); obtain ⟨s0, s1, s2⟩ := hSw; go_simp)
      simp only [Act.put, List.setIfInBounds_toArray, List.set_cons_zero, List.set_cons_succ]
      have hd : Below wr.heap.size wr wr.drew := below_drewN (below_0 wr) 1
      replace I := Lib.hid (I.out.later hd)
      replace HV := Lib.hid (HV.out.later hd)
      clear hd x0 zx y1 zy i1 i2 hbw
      refine wpAnyH_ready (rs := [13]) (by kernel_rfl) (by simp) ?_
      refine AllReadyH.cons rfl (fun K hK => ?_) AllReadyH.nil
      go_simp
      refine (rput_any it.1 it.2 hub hlen u2 _ HV.out).mono ?_
      rintro e w4 ⟨hb4, v4, rfl, hv4⟩
      obtain ⟨A5, c5, rfl⟩ := hv4.form
      replace I := Lib.hid (I.out.later hb4)
      have HV4 := Lib.hid hv4
      clear hb4 hv4 HV
      have j0 := I.out.2.1.d1
      refine hK.out _ _ ⟨j0, (I.out.2.2.2.cell (p := ⟨b, off + k * 2, none⟩) hb).trans H1.out, (I.out.2.2.2.cell (p := ⟨b, off + k * 2 + 1, none⟩) hb).trans H2.out⟩ (fun hHeld => ?_)
      clear hK K
      try simp only [Act.put, List.getElem_toArray, List.getElem_cons_succ, List.getElem_cons_zero, List.setIfInBounds_toArray, List.set_cons_zero, List.set_cons_succ]
      refine wpAnyH_take (i := 14) (v := (.slice A5 (addL x it.1 it.2).length c5)) rfl (by kernel_rfl) (by kernel_rfl) (by kernel_rfl) (fun _ _ _ h => h) (Or.inl ⟨by rfl, ?_⟩) hHeld ?_
      · (intro w hSw; go_simp)
      simp only [Act.put, List.getElem_toArray, List.getElem_cons_succ, List.getElem_cons_zero, List.setIfInBounds_toArray, List.set_cons_zero, List.set_cons_succ]
      refine wpAnyH_done (by kernel_rfl) ?_ _
      go_wp2_with fail
      go_roundw
      case rel => exact ⟨k + 1, by omega, by go_num, I.out, by rw [HN.out]; exact HV4.out⟩
      case measure => simp [RowKit.intOf]; omega
    · obtain rfl : k = m.length := by omega
      rw [List.take_of_length_le (Nat.le_refl _)] at HV hub hlen ⊢
      generalize putAll l m = x at *
      clear x0 zx y1 zy
      have x0 := I.out.1.d0
      have zx := I.out.1.lt
      have y1 := I.out.2.1.d1
      have zy := I.out.2.1.lt
      have Z := Lib.hid I.out.2.2.1
      have T := I.out.2.2.2
      have y50 := Z.out.d0
      have y51 := Z.out.d1
      have fy0 := Z.out.frozen 0
      have fy1 := Z.out.frozen 1
      have zz := Z.out.lt
      have K := Z.out.set2 (x := .int .i64 f) (y := .slice A4 x.length c4)
      have k0 := K.d0
      have k1 := K.d1
      go_wp2_with fail
      exact bodyPost_ret (v := .tuple #[.agg #[.int .i64 f, .slice A4 x.length c4], .int .i64 0]) (by simp [results, Try.results30, go_sem, k0, k1]) rfl
        ⟨below_set2 T (by omega) _ _, _, rfl, rdB_set2 (HV.out) Z.out⟩
theorem rmerge_any (f g : Int) (A C : Option Addr) (l m : Bins) (cap capy : Nat) (hU : UBs l) (hV : UBs m) (hl : l.length ≤ 30000) (hm : m.length ≤ 30000) (hc : l.length ≤ cap) (hA : cap ≠ 0 → ∃ b off, A = some ⟨b, off, none⟩) (w : World) (hS : Sb w w.heap.size A l) (hT : Sb w w.heap.size C m) :
    Calls Try.prog 30 #[.agg #[.int .i64 f, .slice A l.length cap], .agg #[.int .i64 g, .slice C m.length capy]] w (RdRes w (mergeH f l g m)) := by
  cases h1 : rightB f l with
  | false => rw [mergeH, if_neg (by simp [h1])]; exact rmerge_bad1 f g A C l m cap capy hU hV hl hm h1 w hS hT
  | true =>
    cases h2 : rightB g m with
    | false => rw [mergeH, if_neg (by simp [h2])]; exact rmerge_bad2 f g A C l m cap capy hU hV hl hm h1 h2 w hS hT
    | true =>
      by_cases h3 : g = f
      · subst h3; rw [mergeH, if_pos ⟨h1, h2, rfl⟩]; exact rmerge_good g A C l m cap capy hU hV hl hm hc hA h1 h2 w hS hT
      · rw [mergeH, if_neg (by simp [h3])]; exact rmerge_bad3 f g A C l m cap capy hU hV hl hm h1 h2 h3 w hS hT
end Go.Proofs.Ytopddcabaiicgaa

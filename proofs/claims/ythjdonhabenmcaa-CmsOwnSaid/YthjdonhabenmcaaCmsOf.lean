/-
  The walk of the law's own of: counters of items.
-/
import Derived.Test.YthjdonhabenmcaaCmsLaws
import Derived.Deep.RegionHeld3
import Derived.Test.YthjdonhabenmcaaItems
namespace Go.Proofs.Ythjdonhabenmcaa
open Go.RowKit
set_option linter.unusedVariables false
set_option linter.unusedSimpArgs false
/-- Items are added, as long as there is no error. -/
def stepC (x : Cm × Int) (it : Int × Int) : Cm × Int := if x.2 = 0 then addC x.1 it.1 it.2 else x
def ofC (r c : Int) (l : List (Int × Int)) : Cm × Int := l.foldl stepC (newF r c)
theorem ofC_snoc (r c : Int) (l : List (Int × Int)) (it : Int × Int) : ofC r c (l ++ [it]) = stepC (ofC r c l) it := by simp [ofC]
theorem ofC_stays {r c : Int} {l : List (Int × Int)} {k : Nat} (h : (ofC r c (l.take k)).2 ≠ 0) : ofC r c l = ofC r c (l.take k) := by
  have hf : ∀ (t : List (Int × Int)) (x : Cm × Int), x.2 ≠ 0 → t.foldl stepC x = x := by
    intro t
    induction t with
    | nil => intro x _; rfl
    | cons a t ih => intro x hx; rw [List.foldl_cons, stepC, if_neg hx]; exact ih x hx
  conv => lhs; rw [← List.take_append_drop k l]
  unfold ofC
  rw [List.foldl_append]
  exact hf _ _ h
theorem ofC_us (r c : Int) {l : List (Int × Int)} (h : UI l) : Us (ofC r c l).1.l := by
  have hf : ∀ (t : List (Int × Int)) (x : Cm × Int), UI t → Us x.1.l → Us (t.foldl stepC x).1.l := by
    intro t
    induction t with
    | nil => intro x _ hx; exact hx
    | cons a t ih =>
      intro x ht hx
      rw [List.foldl_cons]
      refine ih _ (fun y hy => ht y (List.mem_cons_of_mem _ hy)) ?_
      unfold stepC
      split
      · exact addC_us hx _ (ht a (List.mem_cons_self ..)).2
      · exact hx
  exact hf _ _ h (newF_us _ _)
theorem ofC_len (r c : Int) (l : List (Int × Int)) : (ofC r c l).1.l.length ≤ 128 := by
  have hf : ∀ (t : List (Int × Int)) (x : Cm × Int), x.1.l.length ≤ 128 → (t.foldl stepC x).1.l.length ≤ 128 := by
    intro t
    induction t with
    | nil => intro x hx; exact hx
    | cons a t ih =>
      intro x hx
      rw [List.foldl_cons]
      refine ih _ ?_
      unfold stepC
      split
      · exact Nat.le_trans (addC_len _ _ _) hx
      · exact hx
  exact hf _ _ (newF_len _ _)
/-- Between two rounds of of. -/
def OfI (w : World) (b8 : Nat) (x : Cm × Int) (wr : World) : Prop :=
  (∃ A cap, Blk wr b8 24 #[.int .i64 x.1.r, .int .i64 x.1.c, .slice A x.1.l.length cap] ∧ Held wr w.heap.size (.slice A x.1.l.length cap) x.1.l) ∧ Blk wr w.heap.size 24 #[.int .i64 0, .int .i64 0, .slice none 0 0] ∧ Below w.heap.size w wr ∧ w.heap.size < b8
set_option maxHeartbeats 2000000 in
theorem of_any (r c : Int) (A : Option Addr) (l : List (Int × Int)) (cap : Nat) (hU : UI l) (hl : l.length ≤ 65536) (w : World) (hS : Si w w.heap.size A l) :
    Calls Try.prog 23 #[.int .i64 r, .int .i64 c, .slice A l.length cap] w (CRes w (ofC r c l)) := by
  have T : Below w.heap.size w (w.alloc (.cells #[.int .i64 0, .int .i64 0, .slice none 0 0] 24)) := below_al (below_0 _) _
  have Y := Lib.hid (Blk.new w 24 #[.int .i64 0, .int .i64 0, .slice none 0 0])
  have HS := Lib.hid hS
  clear hS
  go_enter Try.func23, Try.ntmps23
  go_wp2_with fail
  refine (new_any r c _).mono ?_
  rintro e w1 ⟨hb1, v1, rfl, hh1⟩
  obtain ⟨A1, c1, rfl, hc1, hA1, hS1, hF1⟩ := hh1
  have hh1 : Held w1 w.heap.size (.slice A1 (newF r c).1.l.length c1) (newF r c).1.l := ⟨A1, c1, rfl, hc1, hA1, hS1, hF1.from (by simp)⟩
  replace T := Below.two T hb1
  have hI : OfI w w1.heap.size (ofC r c []) (w1.alloc (.cells #[.int .i64 (newF r c).1.r, .int .i64 (newF r c).1.c, .slice A1 (newF r c).1.l.length c1] 24)) :=
    ⟨⟨A1, c1, Blk.new w1 _ _, hh1.later (below_al (below_0 _) _)⟩, (Y.out.later hb1).alloc _, below_al T _, (Y.out.later hb1).lt⟩
  have HI := Lib.hid hI
  have hz1 := (Y.out.later hb1).lt
  clear hI hh1 hA1 hS1 hF1 hb1 hc1
  go_wp2_with fail
  go_loopw [9, 10] (fun e i wr => ∃ k : Nat, k ≤ l.length ∧ i = .int .i64 k ∧ e = .int .i64 (ofC r c (l.take k)).2 ∧ OfI w w1.heap.size (ofC r c (l.take k)) wr) (fun _ i _ => l.length - (intOf i).toNat)
  case atStart => exact ⟨0, Nat.zero_le _, rfl, rfl, HI.out⟩
  case round =>
    obtain ⟨k, hk, rfl, rfl, hI⟩ := hrel
    clear HI Y T
    have hUx := ofC_us r c (hU.take k)
    obtain ⟨x, hx⟩ : ∃ x, ofC r c (l.take k) = x := ⟨_, rfl⟩
    rw [hx] at hI hUx ⊢
    obtain ⟨⟨A2, c2, X, hh⟩, Y, T, hz⟩ := hI
    have HX := Lib.hid X
    have HY := Lib.hid Y
    have HH := Lib.hid hh
    have x0 := X.c0
    have x1 := X.c1
    have x2 := X.c2
    have zx := X.lt
    have zy := Y.lt
    by_cases hlt : k < l.length
    · by_cases he : x.2 = 0
      · have HN : Hid (ofC r c (l.take (k + 1)) = addC ⟨x.1.r, x.1.c, x.1.l⟩ (ith l k).1 (ith l k).2) := by
          show _ = _
          rw [take_ith_succ hlt, ofC_snoc, hx, stepC, if_pos he]
        obtain ⟨b, off, rfl, hb, hcs⟩ := HS.out.at_ (by omega)
        obtain ⟨h1, h2⟩ := hcs k hlt
        have i1 := (T.cell (p := ⟨b, off + k * 2, none⟩) hb).trans h1
        have i2 := (T.cell (p := ⟨b, off + k * 2 + 1, none⟩) hb).trans h2
        obtain ⟨u1, u2⟩ := ith_U hU k
        generalize ith l k = it at *
        have d0 : (x.2 == 0) = true := by simp [he]
        have hi1 : (0 : Int) ≤ (k : Int) := by omega
        have hi2 : (k : Int) < (l.length : Int) := by omega
        have hbw : b < wr.heap.size := by have := T.size; omega
        have f0 := X.frozen 0
        have f1 := X.frozen 1
        have f2 := X.frozen 2
        have f3 := Y.lt
        have ne1 : b ≠ w1.heap.size := by omega
        have ne2 : w1.heap.size ≠ b := by omega
        obtain ⟨A2', c2', e2, hc2, hA2, hS2, hF2⟩ := hh
        cases e2
        have HS2 := Lib.hid hS2
        clear hx he hcs h1 h2 X Y hA2 hS2 hF2 hc2
        go_wp2_with fail
        refine wp_region_held_drew (S := fun w' => w'.cell? ⟨b, off + k * 2, none⟩ = some (.int .u64 it.1) ∧ w'.cell? ⟨b, off + k * 2 + 1, none⟩ = some (.int .u64 it.2)) (by kernel_rfl) ⟨i1, i2⟩ (fun hHeld => ?_)
        refine wpAnyH_take (i := 1) (v := (.slice (some ⟨b, off, none⟩) l.length cap)) rfl (by kernel_rfl) (by kernel_rfl) (by kernel_rfl) (fun _ _ _ h => h) (Or.inl ⟨by rfl, ?_⟩) hHeld ?_
        · (intro w hSw; (try dsimp only at hSw); (try obtain ⟨s0, s1⟩ := hSw); go_simp)
        simp only [Act.put, List.setIfInBounds_toArray, List.set_cons_zero, List.set_cons_succ]
        refine wpAnyH_take (i := 2) (v := (.int .i64 (k : Int))) rfl (by kernel_rfl) (by kernel_rfl) (by kernel_rfl) (fun _ _ _ h => h) (Or.inl ⟨by rfl, ?_⟩) hHeld ?_
        · (intro w hSw; (try dsimp only at hSw); (try obtain ⟨s0, s1⟩ := hSw); go_simp)
        simp only [Act.put, List.setIfInBounds_toArray, List.set_cons_zero, List.set_cons_succ]
        refine wpAnyH_take (i := 3) (v := (.pointer (some ⟨b, off + k * 2, none⟩))) rfl (by kernel_rfl) (by kernel_rfl) (by kernel_rfl) (fun _ _ _ h => h) (Or.inl ⟨by rfl, ?_⟩) hHeld ?_
        · (intro w hSw; (try dsimp only at hSw); (try obtain ⟨s0, s1⟩ := hSw); go_simp)
        simp only [Act.put, List.setIfInBounds_toArray, List.set_cons_zero, List.set_cons_succ]
        refine wpAnyH_take (i := 4) (v := (.pointer (some ⟨b, off + k * 2, none⟩))) rfl (by kernel_rfl) (by kernel_rfl) (by kernel_rfl) (fun _ _ _ h => h) (Or.inl ⟨by rfl, ?_⟩) hHeld ?_
        · (intro w hSw; (try dsimp only at hSw); (try obtain ⟨s0, s1⟩ := hSw); go_simp)
        simp only [Act.put, List.setIfInBounds_toArray, List.set_cons_zero, List.set_cons_succ]
        refine wpAnyH_take (i := 5) (v := (.int .u64 it.1)) rfl (by kernel_rfl) (by kernel_rfl) (by kernel_rfl) (fun _ _ _ h => h) (Or.inl ⟨by rfl, ?_⟩) hHeld ?_
        · (intro w hSw; (try dsimp only at hSw); (try obtain ⟨s0, s1⟩ := hSw); go_simp)
        simp only [Act.put, List.setIfInBounds_toArray, List.set_cons_zero, List.set_cons_succ]
        refine wpAnyH_take (i := 6) (v := (.slice (some ⟨b, off, none⟩) l.length cap)) rfl (by kernel_rfl) (by kernel_rfl) (by kernel_rfl) (fun _ _ _ h => h) (Or.inl ⟨by rfl, ?_⟩) hHeld ?_
        · (intro w hSw; (try dsimp only at hSw); (try obtain ⟨s0, s1⟩ := hSw); go_simp)
        simp only [Act.put, List.setIfInBounds_toArray, List.set_cons_zero, List.set_cons_succ]
        refine wpAnyH_take (i := 7) (v := (.int .i64 (k : Int))) rfl (by kernel_rfl) (by kernel_rfl) (by kernel_rfl) (fun _ _ _ h => h) (Or.inl ⟨by rfl, ?_⟩) hHeld ?_
        · (intro w hSw; (try dsimp only at hSw); (try obtain ⟨s0, s1⟩ := hSw); go_simp)
        simp only [Act.put, List.setIfInBounds_toArray, List.set_cons_zero, List.set_cons_succ]
        refine wpAnyH_take (i := 8) (v := (.pointer (some ⟨b, off + k * 2, none⟩))) rfl (by kernel_rfl) (by kernel_rfl) (by kernel_rfl) (fun _ _ _ h => h) (Or.inl ⟨by rfl, ?_⟩) hHeld ?_
        · (intro w hSw; (try dsimp only at hSw); (try obtain ⟨s0, s1⟩ := hSw); go_simp)
        simp only [Act.put, List.setIfInBounds_toArray, List.set_cons_zero, List.set_cons_succ]
        refine wpAnyH_take (i := 9) (v := (.pointer (some ⟨b, off + k * 2 + 1, none⟩))) rfl (by kernel_rfl) (by kernel_rfl) (by kernel_rfl) (fun _ _ _ h => h) (Or.inl ⟨by rfl, ?_⟩) hHeld ?_
        · (intro w hSw; (try dsimp only at hSw); (try obtain ⟨s0, s1⟩ := hSw); go_simp)
        simp only [Act.put, List.setIfInBounds_toArray, List.set_cons_zero, List.set_cons_succ]
        refine wpAnyH_take (i := 10) (v := (.int .u64 it.2)) rfl (by kernel_rfl) (by kernel_rfl) (by kernel_rfl) (fun _ _ _ h => h) (Or.inl ⟨by rfl, ?_⟩) hHeld ?_
        · (intro w hSw; (try dsimp only at hSw); (try obtain ⟨s0, s1⟩ := hSw); go_simp)
        simp only [Act.put, List.setIfInBounds_toArray, List.set_cons_zero, List.set_cons_succ]
        refine wpAnyH_ready (rs := [0]) (by kernel_rfl) (by simp) ?_
        refine AllReadyH.cons rfl (fun K hK => ?_) AllReadyH.nil
        go_simp
        refine hK.out _ _ ⟨i1, i2⟩ (fun hHeld => ?_)
        clear hK K
        try simp only [Act.put, List.setIfInBounds_toArray, List.set_cons_zero, List.set_cons_succ]
        refine wpAnyH_ready (rs := [11]) (by kernel_rfl) (by simp) ?_
        refine AllReadyH.cons rfl (fun K hK => ?_) AllReadyH.nil
        go_simp
        refine (add_any x.1.r x.1.c A2 x.1.l c2 it.1 it.2 u1 u2 hUx _ (by exact HS2.out)).mono ?_
        rintro e w3 ⟨hb3, v3, rfl, hh3⟩
        obtain ⟨A3, c3, rfl, hc3, hA3, hS3, hF3⟩ := hh3
        have hb4 : Below wr.heap.size wr w3 := Below.two (below_0 wr).drew hb3
        have y0 := (hb4.cell (p := ⟨b, off + k * 2, none⟩) hbw).trans i1
        have y1 := (hb4.cell (p := ⟨b, off + k * 2 + 1, none⟩) hbw).trans i2
        have X3 := HX.out.later hb4
        have g0 := X3.c0
        have g1 := X3.c1
        have g2 := X3.c2
        have g3 := X3.frozen 0
        have g4 := X3.frozen 1
        have g5 := X3.frozen 2
        rw [← HN.out] at hS3 hc3 ⊢
        obtain ⟨z, hz'⟩ : ∃ z, ofC r c (l.take (k + 1)) = z := ⟨_, rfl⟩
        have HZ := Lib.hid hz'
        rw [hz'] at hS3 hc3 ⊢
        clear hz'
        refine hK.out _ _ ⟨y0, y1⟩ (fun hHeld => ?_)
        clear hK K
        try simp only [Act.put, List.setIfInBounds_toArray, List.set_cons_zero, List.set_cons_succ]
        refine wpAnyH_take (i := 12) (v := (.tuple #[.agg #[.int .i64 z.1.r, .int .i64 z.1.c, .slice A3 z.1.l.length c3], .int .i64 z.2])) rfl (by kernel_rfl) (by kernel_rfl) (by kernel_rfl) (fun _ _ _ h => h) (Or.inl ⟨by rfl, ?_⟩) hHeld ?_
        · (intro w hSw; (try dsimp only at hSw); (try obtain ⟨s0, s1⟩ := hSw); go_simp)
        simp only [Act.put, List.setIfInBounds_toArray, List.set_cons_zero, List.set_cons_succ]
        refine wpAnyH_take (i := 13) (v := (.agg #[.int .i64 z.1.r, .int .i64 z.1.c, .slice A3 z.1.l.length c3])) rfl (by kernel_rfl) (by kernel_rfl) (by kernel_rfl) (fun _ _ _ h => h) (Or.inl ⟨by rfl, ?_⟩) hHeld ?_
        · (intro w hSw; (try dsimp only at hSw); (try obtain ⟨s0, s1⟩ := hSw); go_simp)
        simp only [Act.put, List.setIfInBounds_toArray, List.set_cons_zero, List.set_cons_succ]
        refine wpAnyH_take (i := 14) (v := (.int .i64 z.2)) rfl (by kernel_rfl) (by kernel_rfl) (by kernel_rfl) (fun _ _ _ h => h) (Or.inl ⟨by rfl, ?_⟩) hHeld ?_
        · (intro w hSw; (try dsimp only at hSw); (try obtain ⟨s0, s1⟩ := hSw); go_simp)
        simp only [Act.put, List.setIfInBounds_toArray, List.set_cons_zero, List.set_cons_succ]
        refine wpAnyH_ready (rs := [15]) (by kernel_rfl) (by simp) ?_
        refine AllReadyH.cons rfl (fun K hK => ?_) AllReadyH.nil
        go_simp
        refine hK.out _ _ ⟨(by rw [World.cell?_setCell_other _ _ _ _ (fun e => ne1 (by injection e with e1 _; exact e1.symm)), World.cell?_setCell_other _ _ _ _ (fun e => ne1 (by injection e with e1 _; exact e1.symm)), World.cell?_setCell_other _ _ _ _ (fun e => ne1 (by injection e with e1 _; exact e1.symm))]; exact y0), (by rw [World.cell?_setCell_other _ _ _ _ (fun e => ne1 (by injection e with e1 _; exact e1.symm)), World.cell?_setCell_other _ _ _ _ (fun e => ne1 (by injection e with e1 _; exact e1.symm)), World.cell?_setCell_other _ _ _ _ (fun e => ne1 (by injection e with e1 _; exact e1.symm))]; exact y1)⟩ (fun hHeld => ?_)
        clear hK K
        try simp only [Act.put, List.setIfInBounds_toArray, List.set_cons_zero, List.set_cons_succ]
        refine wpAnyH_take (i := 16) (v := (.int .i64 z.2)) rfl (by kernel_rfl) (by kernel_rfl) (by kernel_rfl) (fun _ _ _ h => h) (Or.inl ⟨by rfl, ?_⟩) hHeld ?_
        · (intro w hSw; (try dsimp only at hSw); (try obtain ⟨s0, s1⟩ := hSw); go_simp)
        simp only [Act.put, List.setIfInBounds_toArray, List.set_cons_zero, List.set_cons_succ]
        refine wpAnyH_done (by kernel_rfl) ?_ _
        clear x0 x1 x2 y0 y1 g0 g1 g2 g3 g4 g5 f0 f1 f2 i1 i2 d0
        have hh3 : Held w3 w.heap.size (.slice A3 z.1.l.length c3) z.1.l := ⟨A3, c3, rfl, hc3, hA3, hS3, hF3.from T.size⟩
        have hI : OfI w w1.heap.size z (((w3.setCell ⟨w1.heap.size, 0, none⟩ (.int .i64 z.1.r)).setCell ⟨w1.heap.size, 1, none⟩ (.int .i64 z.1.c)).setCell ⟨w1.heap.size, 2, none⟩ (.slice A3 z.1.l.length c3)) :=
          ⟨⟨A3, c3, X3.set3, res_stored X3 hh3⟩, (((HY.out.later hb4).far (by show w.heap.size ≠ w1.heap.size; omega) _).far (by show w.heap.size ≠ w1.heap.size; omega) _).far (by show w.heap.size ≠ w1.heap.size; omega) _, below_set3 (T.trans (hb4.mono T.size)) (by omega) _ _ _, hz⟩
        have HI := Lib.hid hI
        clear hI hh3 hS3 hF3 hA3 X3 hc3 HS2 HH
        go_wp2_with fail
        go_roundw
        case rel => exact ⟨k + 1, by omega, by go_num, by rw [HZ.out], by rw [HZ.out]; exact HI.out⟩
        case measure => simp [intOf]; omega
      · have d0 : (x.2 == 0) = false := by simp [he]
        have HE : Hid (ofC r c l = x) := by show _ = _; rw [← hx]; exact ofC_stays (by rw [hx]; exact he)
        have u0 := Y.c0
        have u1 := Y.c1
        have u2 := Y.c2
        have f0 := Y.frozen 0
        have f1 := Y.frozen 1
        have f2 := Y.frozen 2
        have ne1 : w1.heap.size ≠ w.heap.size := by omega
        clear hx he X Y hh
        go_wp2_with fail
        have K := HY.out.set3 (x := .int .i64 x.1.r) (y := .int .i64 x.1.c) (z := .slice A2 x.1.l.length c2)
        have k0 := K.c0
        have k1 := K.c1
        have k2 := K.c2
        refine bodyPost_ret (v := .tuple #[.agg #[.int .i64 x.1.r, .int .i64 x.1.c, .slice A2 x.1.l.length c2], .int .i64 x.2]) (by simp [results, Try.results23, go_sem, k0, k1, k2]) rfl
          ⟨below_set3 T (Nat.le_refl _) _ _ _, .slice A2 x.1.l.length c2, by rw [HE.out], ?_⟩
        rw [HE.out]
        exact res_stored HY.out HH.out
    · obtain rfl : k = l.length := by omega
      have HE : Hid (ofC r c l = x) := by show _ = _; rw [← hx, List.take_of_length_le (Nat.le_refl _)]
      have u0 := Y.c0
      have u1 := Y.c1
      have u2 := Y.c2
      have f0 := Y.frozen 0
      have f1 := Y.frozen 1
      have f2 := Y.frozen 2
      have ne1 : w1.heap.size ≠ w.heap.size := by omega
      clear hx X Y hh
      go_wp2_with fail
      have K := HY.out.set3 (x := .int .i64 x.1.r) (y := .int .i64 x.1.c) (z := .slice A2 x.1.l.length c2)
      have k0 := K.c0
      have k1 := K.c1
      have k2 := K.c2
      refine bodyPost_ret (v := .tuple #[.agg #[.int .i64 x.1.r, .int .i64 x.1.c, .slice A2 x.1.l.length c2], .int .i64 x.2]) (by simp [results, Try.results23, go_sem, k0, k1, k2]) rfl
        ⟨below_set3 T (Nat.le_refl _) _ _ _, .slice A2 x.1.l.length c2, by rw [HE.out], ?_⟩
      rw [HE.out]
      exact res_stored HY.out HH.out
end Go.Proofs.Ythjdonhabenmcaa

/-
  The walk of the law's own of: a histogram of items.
-/
import Derived.Test.YtopddcabaiicgaaHistAdd
import Derived.Test.YtopddcabaiicgaaItems
import Derived.Deep.RegionHeld3
namespace Go.Proofs.Ytopddcabaiicgaa
open Go.RowKit
set_option linter.unusedVariables false
set_option linter.unusedSimpArgs false
abbrev Hh := Int × Bins × Int
def stepH (x : Hh) (it : Int × Int) : Hh := if x.2.2 = 0 then addH x.1 x.2.1 it.1 it.2 else x
def ofH (f : Int) (l : List (Int × Int)) : Hh := l.foldl stepH (f, [], 0)
theorem ofH_snoc (f : Int) (l : List (Int × Int)) (it : Int × Int) : ofH f (l ++ [it]) = stepH (ofH f l) it := by simp [ofH]
theorem ofH_stays {f : Int} {l : List (Int × Int)} {k : Nat} (h : (ofH f (l.take k)).2.2 ≠ 0) : ofH f l = ofH f (l.take k) := by
  have hf : ∀ (t : List (Int × Int)) (x : Hh), x.2.2 ≠ 0 → t.foldl stepH x = x := by
    intro t
    induction t with
    | nil => intro x _; rfl
    | cons a t ih => intro x hx; rw [List.foldl_cons, stepH, if_neg hx]; exact ih x hx
  conv => lhs; rw [← List.take_append_drop k l]
  unfold ofH
  rw [List.foldl_append]
  exact hf _ _ h
theorem addL_ubs {m : Bins} {a n : Int} (h : UBs m) (ha : I64 a) (hn : U n) : UBs (addL m a n) := by
  unfold addL; split
  · exact h
  · exact putL_ubs h ha hn
theorem addL_length (m : Bins) (a n : Int) : (addL m a n).length ≤ m.length + 1 := by
  unfold addL; split
  · omega
  · exact putL_length m a n
theorem addH_ubs {f : Int} {l : Bins} {v n : Int} (h : UBs l) (hv : U v) (hn : U n) : UBs (addH f l v n).2.1 := by
  unfold addH; split
  · exact addL_ubs h (bucketF_i64 f hv) hn
  · intro x hx; simp at hx
theorem addH_length (f : Int) (l : Bins) (v n : Int) : (addH f l v n).2.1.length ≤ l.length + 1 := by
  unfold addH; split
  · exact addL_length _ _ _
  · simp
theorem ofH_facts {f : Int} : ∀ {l : List (Int × Int)}, UI l → UBs (ofH f l).2.1 ∧ (ofH f l).2.1.length ≤ l.length := by
  have hf : ∀ (t : List (Int × Int)) (x : Hh), UI t → UBs x.2.1 → UBs (t.foldl stepH x).2.1 ∧ (t.foldl stepH x).2.1.length ≤ x.2.1.length + t.length := by
    intro t
    induction t with
    | nil => intro x _ hx; exact ⟨hx, by simp⟩
    | cons a t ih =>
      intro x ht hx
      rw [List.foldl_cons]
      have ha := ht a (by simp)
      have h2 : UBs (stepH x a).2.1 ∧ (stepH x a).2.1.length ≤ x.2.1.length + 1 := by
        unfold stepH; split
        · exact ⟨addH_ubs hx ha.1 ha.2, addH_length _ _ _ _⟩
        · exact ⟨hx, by omega⟩
      have := ih _ (fun y hy => ht y (by simp [hy])) h2.1
      exact ⟨this.1, by simp only [List.length_cons]; omega⟩
  intro l hl
  have := hf l (f, [], 0) hl (fun _ h => by simp at h)
  exact ⟨this.1, by have h := this.2; simp only [List.length_nil, Nat.zero_add] at h; exact h⟩
/-- Between two rounds of of. -/
def OfI (w : World) (x : Hh) (wr : World) : Prop :=
  (∃ A cap, Blk wr (w.heap.size + 1) 25 #[.int .i64 x.1, .slice A x.2.1.length cap] ∧ HeldB wr w.heap.size (.slice A x.2.1.length cap) x.2.1) ∧ Blk wr w.heap.size 25 #[.int .i64 0, .slice none 0 0] ∧ Below w.heap.size w wr
set_option maxRecDepth 100000 in
set_option maxHeartbeats 2000000 in
theorem of_any (f : Int) (A : Option Addr) (l : List (Int × Int)) (cap : Nat) (hU : UI l) (hl : l.length ≤ 30000) (w : World) (hS : Si w w.heap.size A l) :
    Calls Try.prog 22 #[.int .i64 f, .slice A l.length cap] w (HsRes w (ofH f l)) := by
  have hI : OfI w (ofH f (l.take 0)) ((w.alloc (.cells #[.int .i64 0, .slice none 0 0] 25)).alloc (.cells #[.int .i64 f, .slice none 0 0] 25)) :=
    ⟨⟨none, 0, Blk.new2 w _ _ _, heldB_nil _ _⟩, (Blk.new w _ _).alloc _, below_al (below_al (below_0 _) _) _⟩
  have HI := Lib.hid hI
  have HS := Lib.hid hS
  clear hS hI
  go_enter Try.func22, Try.ntmps22
  go_wp2_with fail
  go_loopw [7] (fun i wr => ∃ k : Nat, k ≤ l.length ∧ i = .int .i64 k ∧ Hid ((ofH f (l.take k)).2.2 = 0) ∧ OfI w (ofH f (l.take k)) wr) (fun i _ => l.length - (RowKit.intOf i).toNat)
  case atStart => exact ⟨0, Nat.zero_le _, rfl, rfl, HI.out⟩
  case round =>
    obtain ⟨k, hk, rfl, H0, hI⟩ := hrel
    clear HI
    obtain ⟨hUx, hLx⟩ := ofH_facts (f := f) (hU.take k)
    have hLx : (ofH f (l.take k)).2.1.length ≤ 30000 := by simp at hLx; omega
    by_cases hlt : k < l.length
    · have HN : Hid (ofH f (l.take (k + 1)) = addH (ofH f (l.take k)).1 (ofH f (l.take k)).2.1 (ith l k).1 (ith l k).2) := by
        show _ = _
        rw [take_ith_succ hlt, ofH_snoc, stepH, if_pos H0.out]
      have HST : Hid ((ofH f (l.take (k + 1))).2.2 ≠ 0 → ofH f l = ofH f (l.take (k + 1))) := fun h => ofH_stays h
      obtain ⟨b, off, rfl, hb, hcs⟩ := HS.out.at_ (by omega)
      obtain ⟨h1, h2⟩ := hcs k hlt
      obtain ⟨u1, u2⟩ := ith_U hU k
      generalize ith l k = it at *
      generalize ofH f (l.take k) = x at *
      obtain ⟨⟨A2, c2, X, hh⟩, Y, T⟩ := hI
      have i1 := (T.cell (p := ⟨b, off + k * 2, none⟩) hb).trans h1
      have i2 := (T.cell (p := ⟨b, off + k * 2 + 1, none⟩) hb).trans h2
      have HX := Lib.hid X
      have HY := Lib.hid Y
      have HH := Lib.hid hh
      have x0 := X.d0
      have x1 := X.d1
      have zx := X.lt
      have zy := Y.lt
      have hi1 : (0 : Int) ≤ (k : Int) := by omega
      have hi2 : (k : Int) < (l.length : Int) := by omega
      have hbw : b < wr.heap.size := by have := T.size; omega
      clear hcs h1 h2 X Y hh
      go_wp2_with fail
      --GEN
      obtain ⟨z, hz⟩ : ∃ z, ofH f (l.take (k + 1)) = z := ⟨_, rfl⟩
      rw [hz] at HN HST
      have HZ := Lib.hid hz
      clear hz
      refine Code.wp_mono (Q := fun e a' w' => e = .normal ∧ ∃ gb A3 c3, a' = { tmps := #[.int .i64 f, .slice (some ⟨b, off, none⟩) l.length cap, undef, undef, .pointer (some ⟨w.heap.size, 0, none⟩), u5, .pointer (some ⟨w.heap.size + 1, 0, none⟩), .int .i64 k, .pointer (some ⟨gb, 0, none⟩), .int .i64 z.2.2, .int .i64 f, .agg #[.int .i64 f, .slice none 0 0], .int .i64 k, .slice (some ⟨b, off, none⟩) l.length cap, .int .i64 l.length, .bool true, u16, u17, .tuple #[.agg #[.int .i64 z.1, .slice A3 z.2.1.length c3], .int .i64 z.2.2], .agg #[.int .i64 x.1, .slice A2 x.2.1.length c2], .slice (some ⟨b, off, none⟩) l.length cap, .int .i64 k, .pointer (some ⟨b, off + k * 2, none⟩), .pointer (some ⟨b, off + k * 2, none⟩), .int .u64 it.1, .slice (some ⟨b, off, none⟩) l.length cap, .int .i64 k, .pointer (some ⟨b, off + k * 2, none⟩), .pointer (some ⟨b, off + k * 2 + 1, none⟩), .int .u64 it.2, .tuple #[.agg #[.int .i64 z.1, .slice A3 z.2.1.length c3], .int .i64 z.2.2], .agg #[.int .i64 z.1, .slice A3 z.2.1.length c3], .int .i64 z.2.2, u33, u34, u35, u36, u37, undef], defers := [] } ∧
        Blk w' gb 25 #[.int .i64 z.1, .slice A3 z.2.1.length c3] ∧ HeldB w' w.heap.size (.slice A3 z.2.1.length c3) z.2.1 ∧ Blk w' (w.heap.size + 1) 25 #[.int .i64 x.1, .slice A2 x.2.1.length c2] ∧ Blk w' w.heap.size 25 #[.int .i64 0, .slice none 0 0] ∧ Below w.heap.size w w' ∧ w.heap.size + 1 < gb) ?mono ?region
      case region =>
        obtain ⟨A2', c2', e2, hc2, hA2, hS2, hF2⟩ := HH.out
        cases e2
        have HS2 := Lib.hid hS2
        clear hS2 hF2 hA2 hc2
        refine wp_region_held_drew (S := fun w' => w'.cell? ⟨w.heap.size + 1, 0, none⟩ = some (.int .i64 x.1) ∧ w'.cell? ⟨w.heap.size + 1, 1, none⟩ = some (.slice A2 x.2.1.length c2) ∧ w'.cell? ⟨b, off + k * 2, none⟩ = some (.int .u64 it.1) ∧ w'.cell? ⟨b, off + k * 2 + 1, none⟩ = some (.int .u64 it.2)) (by kernel_rfl) ⟨x0, x1, i1, i2⟩ (fun hHeld => ?_)
        refine wpAnyH_take (i := 0) (v := (.agg #[.int .i64 x.1, .slice A2 x.2.1.length c2])) rfl (by kernel_rfl) (by kernel_rfl) (by kernel_rfl) (fun _ _ _ h => by cases h.1) (Or.inl ⟨by rfl, ?_⟩) hHeld ?_
        · (intro w hSw; (try dsimp only at hSw); (try obtain ⟨s0, s1, s2, s3⟩ := hSw); go_simp)
        simp only [Act.put, List.setIfInBounds_toArray, List.set_cons_zero, List.set_cons_succ]
        refine wpAnyH_take (i := 1) (v := (.slice (some ⟨b, off, none⟩) l.length cap)) rfl (by kernel_rfl) (by kernel_rfl) (by kernel_rfl) (fun _ _ _ h => by cases h.1) (Or.inl ⟨by rfl, ?_⟩) hHeld ?_
        · (intro w hSw; (try dsimp only at hSw); (try obtain ⟨s0, s1, s2, s3⟩ := hSw); go_simp)
        simp only [Act.put, List.setIfInBounds_toArray, List.set_cons_zero, List.set_cons_succ]
        refine wpAnyH_take (i := 2) (v := (.int .i64 (k : Int))) rfl (by kernel_rfl) (by kernel_rfl) (by kernel_rfl) (fun _ _ _ h => by cases h.1) (Or.inl ⟨by rfl, ?_⟩) hHeld ?_
        · (intro w hSw; (try dsimp only at hSw); (try obtain ⟨s0, s1, s2, s3⟩ := hSw); go_simp)
        simp only [Act.put, List.setIfInBounds_toArray, List.set_cons_zero, List.set_cons_succ]
        refine wpAnyH_take (i := 3) (v := (.pointer (some ⟨b, off + k * 2, none⟩))) rfl (by kernel_rfl) (by kernel_rfl) (by kernel_rfl) (fun _ _ _ h => by cases h.1) (Or.inl ⟨by rfl, ?_⟩) hHeld ?_
        · (intro w hSw; (try dsimp only at hSw); (try obtain ⟨s0, s1, s2, s3⟩ := hSw); go_simp)
        simp only [Act.put, List.setIfInBounds_toArray, List.set_cons_zero, List.set_cons_succ]
        refine wpAnyH_take (i := 4) (v := (.pointer (some ⟨b, off + k * 2, none⟩))) rfl (by kernel_rfl) (by kernel_rfl) (by kernel_rfl) (fun _ _ _ h => by cases h.1) (Or.inl ⟨by rfl, ?_⟩) hHeld ?_
        · (intro w hSw; (try dsimp only at hSw); (try obtain ⟨s0, s1, s2, s3⟩ := hSw); go_simp)
        simp only [Act.put, List.setIfInBounds_toArray, List.set_cons_zero, List.set_cons_succ]
        refine wpAnyH_take (i := 5) (v := (.int .u64 it.1)) rfl (by kernel_rfl) (by kernel_rfl) (by kernel_rfl) (fun _ _ _ h => by cases h.1) (Or.inl ⟨by rfl, ?_⟩) hHeld ?_
        · (intro w hSw; (try dsimp only at hSw); (try obtain ⟨s0, s1, s2, s3⟩ := hSw); go_simp)
        simp only [Act.put, List.setIfInBounds_toArray, List.set_cons_zero, List.set_cons_succ]
        refine wpAnyH_take (i := 6) (v := (.slice (some ⟨b, off, none⟩) l.length cap)) rfl (by kernel_rfl) (by kernel_rfl) (by kernel_rfl) (fun _ _ _ h => by cases h.1) (Or.inl ⟨by rfl, ?_⟩) hHeld ?_
        · (intro w hSw; (try dsimp only at hSw); (try obtain ⟨s0, s1, s2, s3⟩ := hSw); go_simp)
        simp only [Act.put, List.setIfInBounds_toArray, List.set_cons_zero, List.set_cons_succ]
        refine wpAnyH_take (i := 7) (v := (.int .i64 (k : Int))) rfl (by kernel_rfl) (by kernel_rfl) (by kernel_rfl) (fun _ _ _ h => by cases h.1) (Or.inl ⟨by rfl, ?_⟩) hHeld ?_
        · (intro w hSw; (try dsimp only at hSw); (try obtain ⟨s0, s1, s2, s3⟩ := hSw); go_simp)
        simp only [Act.put, List.setIfInBounds_toArray, List.set_cons_zero, List.set_cons_succ]
        refine wpAnyH_take (i := 8) (v := (.pointer (some ⟨b, off + k * 2, none⟩))) rfl (by kernel_rfl) (by kernel_rfl) (by kernel_rfl) (fun _ _ _ h => by cases h.1) (Or.inl ⟨by rfl, ?_⟩) hHeld ?_
        · (intro w hSw; (try dsimp only at hSw); (try obtain ⟨s0, s1, s2, s3⟩ := hSw); go_simp)
        simp only [Act.put, List.setIfInBounds_toArray, List.set_cons_zero, List.set_cons_succ]
        refine wpAnyH_take (i := 9) (v := (.pointer (some ⟨b, off + k * 2 + 1, none⟩))) rfl (by kernel_rfl) (by kernel_rfl) (by kernel_rfl) (fun _ _ _ h => by cases h.1) (Or.inl ⟨by rfl, ?_⟩) hHeld ?_
        · (intro w hSw; (try dsimp only at hSw); (try obtain ⟨s0, s1, s2, s3⟩ := hSw); go_simp)
        simp only [Act.put, List.setIfInBounds_toArray, List.set_cons_zero, List.set_cons_succ]
        refine wpAnyH_take (i := 10) (v := (.int .u64 it.2)) rfl (by kernel_rfl) (by kernel_rfl) (by kernel_rfl) (fun _ _ _ h => by cases h.1) (Or.inl ⟨by rfl, ?_⟩) hHeld ?_
        · (intro w hSw; (try dsimp only at hSw); (try obtain ⟨s0, s1, s2, s3⟩ := hSw); go_simp)
        simp only [Act.put, List.setIfInBounds_toArray, List.set_cons_zero, List.set_cons_succ]
        refine wpAnyH_ready (rs := [11, 15]) (by kernel_rfl) (by simp) ?_
        refine AllReadyH.cons rfl (fun K0 hK0 => ?_) (AllReadyH.cons rfl (fun K0 hK0 => ?_) AllReadyH.nil)
        · go_simp
          refine (add_any x.1 A2 x.2.1 c2 it.1 it.2 u1 u2 hUx (by omega) _ (by exact HS2.out)).mono ?_
          rintro e w3 ⟨hb3, v3, rfl, hh3⟩
          rw [← HN.out] at hh3 ⊢
          obtain ⟨A3, c3, rfl, hc3, hA3, hS3, hF3⟩ := hh3
          have hb4 : Below wr.heap.size wr w3 := ⟨hb3.os, hb3.tape, hb3.output, hb3.size, hb3.block⟩
          have HH3 : Hid (HeldB w3 w.heap.size (.slice A3 z.2.1.length c3) z.2.1) := ⟨A3, c3, rfl, hc3, hA3, hS3, hF3.from T.size⟩
          clear hc3 hA3 hS3 hF3 hb3
          replace HX := Lib.hid (HX.out.later hb4)
          replace HY := Lib.hid (HY.out.later hb4)
          replace i1 := (hb4.cell (p := ⟨b, off + k * 2, none⟩) hbw).trans i1
          replace i2 := (hb4.cell (p := ⟨b, off + k * 2 + 1, none⟩) hbw).trans i2
          replace T := Below.two T hb4
          replace hbw := Nat.lt_of_lt_of_le hbw hb4.size
          clear x0 x1
          have x0 := HX.out.d0
          have x1 := HX.out.d1
          clear hb4
          refine hK0.out _ _ ⟨x0, x1, i1, i2⟩ (fun hHeld => ?_)
          clear hK0 K0
          try simp only [Act.put, List.setIfInBounds_toArray, List.set_cons_zero, List.set_cons_succ]
          refine wpAnyH_take (i := 12) (v := (.tuple #[.agg #[.int .i64 z.1, .slice A3 z.2.1.length c3], .int .i64 z.2.2])) rfl (by kernel_rfl) (by kernel_rfl) (by kernel_rfl) (fun _ _ _ h => by cases h.1) (Or.inl ⟨by rfl, ?_⟩) hHeld ?_
          · (intro w hSw; (try dsimp only at hSw); (try obtain ⟨s0, s1, s2, s3⟩ := hSw); go_simp)
          simp only [Act.put, List.setIfInBounds_toArray, List.set_cons_zero, List.set_cons_succ]
          refine wpAnyH_take (i := 13) (v := (.agg #[.int .i64 z.1, .slice A3 z.2.1.length c3])) rfl (by kernel_rfl) (by kernel_rfl) (by kernel_rfl) (fun _ _ _ h => by cases h.1) (Or.inl ⟨by rfl, ?_⟩) hHeld ?_
          · (intro w hSw; (try dsimp only at hSw); (try obtain ⟨s0, s1, s2, s3⟩ := hSw); go_simp)
          simp only [Act.put, List.setIfInBounds_toArray, List.set_cons_zero, List.set_cons_succ]
          refine wpAnyH_take (i := 14) (v := (.int .i64 z.2.2)) rfl (by kernel_rfl) (by kernel_rfl) (by kernel_rfl) (fun _ _ _ h => by cases h.1) (Or.inl ⟨by rfl, ?_⟩) hHeld ?_
          · (intro w hSw; (try dsimp only at hSw); (try obtain ⟨s0, s1, s2, s3⟩ := hSw); go_simp)
          simp only [Act.put, List.setIfInBounds_toArray, List.set_cons_zero, List.set_cons_succ]
          refine wpAnyH_ready (rs := [15]) (by kernel_rfl) (by simp) ?_
          refine AllReadyH.cons rfl (fun K0 hK0 => ?_) AllReadyH.nil
          go_simp
          have hba := below_al (below_0 w3) (.cells #[.int .i64 0, .slice none 0 0] 25)
          have N := Lib.hid (Blk.new w3 25 #[.int .i64 0, .slice none 0 0])
          have zb : w.heap.size + 1 < w3.heap.size := HX.out.lt
          have zb2 := hbw
          have HH4 := Lib.hid (HH3.out.later hba)
          replace HX := Lib.hid (HX.out.later hba)
          replace HY := Lib.hid (HY.out.later hba)
          replace i1 := (hba.cell (p := ⟨b, off + k * 2, none⟩) hbw).trans i1
          replace i2 := (hba.cell (p := ⟨b, off + k * 2 + 1, none⟩) hbw).trans i2
          replace T := Below.two T hba
          replace hbw := Nat.lt_of_lt_of_le hbw hba.size
          clear x0 x1
          have x0 := HX.out.d0
          have x1 := HX.out.d1
          clear hba
          generalize w3.alloc (.cells #[.int .i64 0, .slice none 0 0] 25) = w4 at *
          refine hK0.out _ _ ⟨x0, x1, i1, i2⟩ (fun hHeld => ?_)
          clear hK0 K0
          try simp only [Act.put, List.setIfInBounds_toArray, List.set_cons_zero, List.set_cons_succ]
          refine wpAnyH_ready (rs := [16]) (by kernel_rfl) (by simp) ?_
          refine AllReadyH.cons rfl (fun K0 hK0 => ?_) AllReadyH.nil
          have zn := N.out.lt
          have fn0 := N.out.frozen 0
          have fn1 := N.out.frozen 1
          have y0 := N.out.d0
          have y1 := N.out.d1
          go_simp
          have ne1 : w.heap.size + 1 ≠ w3.heap.size := by omega
          have ne2 : b ≠ w3.heap.size := by omega
          have GS := grow_set2 w4 w3.heap.size (.int .i64 z.1) (.slice A3 z.2.1.length c3)
          have X5 := Lib.hid (HX.out.grown GS (fun e => ne1 (by injection e)))
          have Y5 := Lib.hid (HY.out.grown GS (fun e => by injection e; omega))
          have N5 := Lib.hid (N.out.set2 (x := .int .i64 z.1) (y := .slice A3 z.2.1.length c3))
          have H5 := Lib.hid (heldB_set2 (x := .int .i64 z.1) (y := .slice A3 z.2.1.length c3) HH4.out N.out)
          have T5 := Lib.hid (below_turned T GS (by omega))
          have j1 := (World.cell?_of_block (a := ⟨b, off + k * 2, none⟩) (GS.block b hbw (fun e => ne2 (by injection e)))).trans i1
          have j2 := (World.cell?_of_block (a := ⟨b, off + k * 2 + 1, none⟩) (GS.block b hbw (fun e => ne2 (by injection e)))).trans i2
          clear GS x0 x1 i1 i2 y0 y1 fn0 fn1
          refine hK0.out _ _ ⟨X5.out.d0, X5.out.d1, j1, j2⟩ (fun hHeld => ?_)
          clear hK0 K0
          try simp only [Act.put, List.setIfInBounds_toArray, List.set_cons_zero, List.set_cons_succ]
          refine wpAnyH_take (i := 17) (v := (.int .i64 z.2.2)) rfl (by kernel_rfl) (by kernel_rfl) (by kernel_rfl) (fun _ _ _ h => by cases h.1) (Or.inl ⟨by rfl, ?_⟩) hHeld ?_
          · (intro w hSw; go_simp)
          simp only [Act.put, List.setIfInBounds_toArray, List.set_cons_zero, List.set_cons_succ]
          refine wpAnyH_done (by kernel_rfl) ?_ _
          exact ⟨rfl, w3.heap.size, A3, c3, rfl, N5.out, H5.out, X5.out, Y5.out, T5.out, by omega⟩
        · go_simp
          have hba := below_drewN (below_al (below_0 wr) (.cells #[.int .i64 0, .slice none 0 0] 25)) 1
          have N0 := Lib.hid (Blk.new wr 25 #[.int .i64 0, .slice none 0 0])
          have zb : w.heap.size + 1 < wr.heap.size := HX.out.lt
          have zb2 := hbw
          have HS3 := Lib.hid (Sb.later HS2.out hba)
          replace HX := Lib.hid (HX.out.later hba)
          replace HY := Lib.hid (HY.out.later hba)
          replace i1 := (hba.cell (p := ⟨b, off + k * 2, none⟩) hbw).trans i1
          replace i2 := (hba.cell (p := ⟨b, off + k * 2 + 1, none⟩) hbw).trans i2
          replace T := Below.two T hba
          replace hbw := Nat.lt_of_lt_of_le hbw hba.size
          clear x0 x1
          have x0 := HX.out.d0
          have x1 := HX.out.d1
          clear hba
          have N0 : Hid (Blk ((wr.alloc (.cells #[.int .i64 0, .slice none 0 0] 25)).drewN 1) wr.heap.size 25 #[.int .i64 0, .slice none 0 0]) := N0
          have hw5 : (wr.alloc (.cells #[.int .i64 0, .slice none 0 0] 25)).drewN 1 = (wr.alloc (.cells #[.int .i64 0, .slice none 0 0] 25)).drew := rfl
          rw [hw5] at HX HY T i1 i2 hbw x0 x1 N0 HS3
          clear hw5
          generalize (wr.alloc (.cells #[.int .i64 0, .slice none 0 0] 25)).drew = w5 at *
          refine hK0.out _ _ ⟨x0, x1, i1, i2⟩ (fun hHeld => ?_)
          clear hK0 K0
          try simp only [Act.put, List.setIfInBounds_toArray, List.set_cons_zero, List.set_cons_succ]
          refine wpAnyH_ready (rs := [11]) (by kernel_rfl) (by simp) ?_
          refine AllReadyH.cons rfl (fun K0 hK0 => ?_) AllReadyH.nil
          go_simp
          refine (add_any x.1 A2 x.2.1 c2 it.1 it.2 u1 u2 hUx (by omega) _ (by exact HS3.out)).mono ?_
          rintro e w3 ⟨hb3, v3, rfl, hh3⟩
          rw [← HN.out] at hh3 ⊢
          obtain ⟨A3, c3, rfl, hc3, hA3, hS3, hF3⟩ := hh3
          have hb4 : Below w5.heap.size w5 w3 := ⟨hb3.os, hb3.tape, hb3.output, hb3.size, hb3.block⟩
          have HH3 : Hid (HeldB w3 w.heap.size (.slice A3 z.2.1.length c3) z.2.1) := ⟨A3, c3, rfl, hc3, hA3, hS3, hF3.from T.size⟩
          clear hc3 hA3 hS3 hF3 hb3
          have N := Lib.hid (N0.out.later hb4)
          replace HX := Lib.hid (HX.out.later hb4)
          replace HY := Lib.hid (HY.out.later hb4)
          replace i1 := (hb4.cell (p := ⟨b, off + k * 2, none⟩) hbw).trans i1
          replace i2 := (hb4.cell (p := ⟨b, off + k * 2 + 1, none⟩) hbw).trans i2
          replace T := Below.two T hb4
          replace hbw := Nat.lt_of_lt_of_le hbw hb4.size
          clear x0 x1
          have x0 := HX.out.d0
          have x1 := HX.out.d1
          clear hb4
          have HH4 := HH3
          generalize w3 = w4 at *
          refine hK0.out _ _ ⟨x0, x1, i1, i2⟩ (fun hHeld => ?_)
          clear hK0 K0
          try simp only [Act.put, List.setIfInBounds_toArray, List.set_cons_zero, List.set_cons_succ]
          refine wpAnyH_take (i := 12) (v := (.tuple #[.agg #[.int .i64 z.1, .slice A3 z.2.1.length c3], .int .i64 z.2.2])) rfl (by kernel_rfl) (by kernel_rfl) (by kernel_rfl) (fun _ _ _ h => by cases h.1) (Or.inl ⟨by rfl, ?_⟩) hHeld ?_
          · (intro w hSw; (try dsimp only at hSw); (try obtain ⟨s0, s1, s2, s3⟩ := hSw); go_simp)
          simp only [Act.put, List.setIfInBounds_toArray, List.set_cons_zero, List.set_cons_succ]
          refine wpAnyH_take (i := 13) (v := (.agg #[.int .i64 z.1, .slice A3 z.2.1.length c3])) rfl (by kernel_rfl) (by kernel_rfl) (by kernel_rfl) (fun _ _ _ h => by cases h.1) (Or.inl ⟨by rfl, ?_⟩) hHeld ?_
          · (intro w hSw; (try dsimp only at hSw); (try obtain ⟨s0, s1, s2, s3⟩ := hSw); go_simp)
          simp only [Act.put, List.setIfInBounds_toArray, List.set_cons_zero, List.set_cons_succ]
          refine wpAnyH_take (i := 14) (v := (.int .i64 z.2.2)) rfl (by kernel_rfl) (by kernel_rfl) (by kernel_rfl) (fun _ _ _ h => by cases h.1) (Or.inl ⟨by rfl, ?_⟩) hHeld ?_
          · (intro w hSw; (try dsimp only at hSw); (try obtain ⟨s0, s1, s2, s3⟩ := hSw); go_simp)
          simp only [Act.put, List.setIfInBounds_toArray, List.set_cons_zero, List.set_cons_succ]
          refine wpAnyH_ready (rs := [16]) (by kernel_rfl) (by simp) ?_
          refine AllReadyH.cons rfl (fun K0 hK0 => ?_) AllReadyH.nil
          have zn := N.out.lt
          have fn0 := N.out.frozen 0
          have fn1 := N.out.frozen 1
          have y0 := N.out.d0
          have y1 := N.out.d1
          go_simp
          have ne1 : w.heap.size + 1 ≠ wr.heap.size := by omega
          have ne2 : b ≠ wr.heap.size := by omega
          have GS := grow_set2 w4 wr.heap.size (.int .i64 z.1) (.slice A3 z.2.1.length c3)
          have X5 := Lib.hid (HX.out.grown GS (fun e => ne1 (by injection e)))
          have Y5 := Lib.hid (HY.out.grown GS (fun e => by injection e; omega))
          have N5 := Lib.hid (N.out.set2 (x := .int .i64 z.1) (y := .slice A3 z.2.1.length c3))
          have H5 := Lib.hid (heldB_set2 (x := .int .i64 z.1) (y := .slice A3 z.2.1.length c3) HH4.out N.out)
          have T5 := Lib.hid (below_turned T GS (by omega))
          have j1 := (World.cell?_of_block (a := ⟨b, off + k * 2, none⟩) (GS.block b hbw (fun e => ne2 (by injection e)))).trans i1
          have j2 := (World.cell?_of_block (a := ⟨b, off + k * 2 + 1, none⟩) (GS.block b hbw (fun e => ne2 (by injection e)))).trans i2
          clear GS x0 x1 i1 i2 y0 y1 fn0 fn1
          refine hK0.out _ _ ⟨X5.out.d0, X5.out.d1, j1, j2⟩ (fun hHeld => ?_)
          clear hK0 K0
          try simp only [Act.put, List.setIfInBounds_toArray, List.set_cons_zero, List.set_cons_succ]
          refine wpAnyH_take (i := 17) (v := (.int .i64 z.2.2)) rfl (by kernel_rfl) (by kernel_rfl) (by kernel_rfl) (fun _ _ _ h => by cases h.1) (Or.inl ⟨by rfl, ?_⟩) hHeld ?_
          · (intro w hSw; go_simp)
          simp only [Act.put, List.setIfInBounds_toArray, List.set_cons_zero, List.set_cons_succ]
          refine wpAnyH_done (by kernel_rfl) ?_ _
          exact ⟨rfl, wr.heap.size, A3, c3, rfl, N5.out, H5.out, X5.out, Y5.out, T5.out, by omega⟩
      case mono =>
        rintro e a' w4 ⟨rfl, gb, A3, c3, rfl, N, hh3, X4, Y4, T4, hgb⟩
        have n0 := N.d0
        have n1 := N.d1
        have x40 := X4.d0
        have x41 := X4.d1
        have f0 := X4.frozen 0
        have f1 := X4.frozen 1
        have y0 := Y4.d0
        have y1 := Y4.d1
        have g0 := Y4.frozen 0
        have g1 := Y4.frozen 1
        have zy4 := Y4.lt
        have zx4 := X4.lt
        have zn4 := N.lt
        have HX4 := Lib.hid X4
        have HY4 := Lib.hid Y4
        have H4 := Lib.hid hh3
        clear X4 Y4 N hh3 x0 x1 i1 i2 HX HY HH T
        by_cases he : z.2.2 = 0
        · have d0 : (z.2.2 != 0) = false := by simp [he]
          have HE := Lib.hid he
          clear he
          have hI : OfI w z ((w4.setCell ⟨w.heap.size + 1, 0, none⟩ (.int .i64 z.1)).setCell ⟨w.heap.size + 1, 1, none⟩ (.slice A3 z.2.1.length c3)) :=
            ⟨⟨A3, c3, HX4.out.set2, heldB_set2 H4.out HX4.out⟩, HY4.out.grown (grow_set2 _ _ _ _) (fun e => by injection e; omega), below_set2 T4 (by omega) _ _⟩
          have HI := Lib.hid hI
          clear hI
          go_wp2_with fail
          go_roundw
          case rel => exact ⟨k + 1, by omega, by go_num, by rw [HZ.out]; exact HE, by rw [HZ.out]; exact HI.out⟩
          case measure => simp [RowKit.intOf]; omega
        · have d0 : (z.2.2 != 0) = true := by simp [he]
          have HE := Lib.hid (HST.out he)
          have HZ0 : Hid (z.1 = 0 ∧ z.2.1 = []) := by
            show _ ∧ _
            rw [HN.out] at he ⊢
            unfold addH at he ⊢
            split at he
            · exact absurd rfl he
            · rename_i hr; rw [if_neg hr]; exact ⟨rfl, rfl⟩
          clear he
          have K := HY4.out.set2 (x := .int .i64 0) (y := .slice none 0 0)
          have k0 := K.d0
          have k1 := K.d1
          go_wp2_with fail
          refine bodyPost_ret (v := .tuple #[.agg #[.int .i64 0, .slice none 0 0], .int .i64 z.2.2]) (by simp [results, Try.results22, go_sem, k0, k1]) rfl ⟨below_set2 T4 (Nat.le_refl _) _ _, .slice none 0 0, ?_, ?_⟩
          · rw [HE.out, HZ0.out.1]
          · rw [HE.out, HZ0.out.2]; exact heldB_nil _ _
    · obtain rfl : k = l.length := by omega
      rw [List.take_of_length_le (Nat.le_refl _)] at hI H0
      obtain ⟨⟨A2, c2, X, hh⟩, Y, T⟩ := hI
      have x0 := X.d0
      have x1 := X.d1
      have y0 := Y.d0
      have y1 := Y.d1
      have g0 := Y.frozen 0
      have g1 := Y.frozen 1
      have zy := Y.lt
      have zx := X.lt
      have K := Y.set2 (x := .int .i64 (ofH f l).1) (y := .slice A2 (ofH f l).2.1.length c2)
      have k0 := K.d0
      have k1 := K.d1
      have HH := Lib.hid hh
      have HY := Lib.hid Y
      clear X Y hh
      go_wp2_with fail
      refine bodyPost_ret (v := .tuple #[.agg #[.int .i64 (ofH f l).1, .slice A2 (ofH f l).2.1.length c2], .int .i64 0]) (by simp [results, Try.results22, go_sem, k0, k1]) rfl ⟨below_set2 T (Nat.le_refl _) _ _, _, ?_, heldB_set2 HH.out HY.out⟩
      rw [H0.out]
end Go.Proofs.Ytopddcabaiicgaa

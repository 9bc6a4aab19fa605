/-
  The reference's Merge.
-/
import Derived.Test.YtgbanhjjieagnaaHllRef2
namespace Go.Proofs.Ytgbanhjjieagnaa
open Go.RowKit
set_option linter.unusedVariables false
set_option linter.unusedSimpArgs false
theorem rmerge_bad (b c : Int) (l m : List Nat) (hL : Bytes l) (hM : Bytes m) (w : World) (hbad : ¬ (rightF b l = true ∧ rightF c m = true ∧ c = b)) :
    Calls Try.prog 26 #[hV b l, hV c m] w (HRes w badH) := by
  have HN := Lib.hid hbad
  clear hbad
  go_enter Try.func26, Try.ntmps26
  go_wp2_with fail
  refine (rright_any b l hL _).mono ?_
  rintro e w1 ⟨rfl, hb⟩
  obtain ⟨X, Y, Z⟩ := three_new w #[.int .i64 b, .string (bs l)] #[.int .i64 c, .string (bs m)] #[.int .i64 0, .string ⟨#[]⟩] 23 23 23
  have HX := Lib.hid (X.later hb)
  have HY := Lib.hid (Y.later hb)
  have HZ := Lib.hid (Z.later hb)
  have HB := Lib.hid (below_old (below_old (below_old hb)))
  clear hb X Y Z
  cases hr : rightF b l with
  | false =>
    obtain ⟨z0, z1, f0, f1⟩ := HZ.out.two
    clear hr
    go_wp2_with fail
    refine bodyPost_ret (v := .tuple #[hV 0 [], .int .i64 70]) (by simp [results, Try.results26, go_sem, z0, z1, bs_nil]) rfl ⟨rfl, ?_⟩
    exact (HB.out.setCell (by show w.heap.size ≤ w.heap.size + 1 + 1; omega) _).setCell (by show w.heap.size ≤ w.heap.size + 1 + 1; omega) _
  | true =>
    have HR := Lib.hid hr
    obtain ⟨y0, y1, _, _⟩ := HY.out.two
    clear hr
    go_wp2_with fail
    refine (rright_any c m hM _).mono ?_
    rintro e w2 ⟨rfl, hb2⟩
    have HX2 := Lib.hid (HX.out.later hb2)
    have HY2 := Lib.hid (HY.out.later hb2)
    have HZ2 := Lib.hid (HZ.out.later hb2)
    have HB2 := Lib.hid (HB.out.trans (hb2.mono HB.out.size))
    clear hb2 y0 y1 HX HY HZ HB
    obtain ⟨z0, z1, f0, f1⟩ := HZ2.out.two
    cases hm : rightF c m with
    | false =>
      clear hm
      go_wp2_with fail
      refine bodyPost_ret (v := .tuple #[hV 0 [], .int .i64 70]) (by simp [results, Try.results26, go_sem, z0, z1, bs_nil]) rfl ⟨rfl, ?_⟩
      exact (HB2.out.setCell (by show w.heap.size ≤ w.heap.size + 1 + 1; omega) _).setCell (by show w.heap.size ≤ w.heap.size + 1 + 1; omega) _
    | true =>
      obtain ⟨x0, x1, _, _⟩ := HX2.out.two
      obtain ⟨y0, y1, _, _⟩ := HY2.out.two
      have hcb : (b != c) = true := by
        have h := HN.out
        simp
        intro e
        exact h ⟨HR.out, hm, e.symm⟩
      clear hm
      go_wp2_with fail
      refine bodyPost_ret (v := .tuple #[hV 0 [], .int .i64 70]) (by simp [results, Try.results26, go_sem, z0, z1, bs_nil]) rfl ⟨rfl, ?_⟩
      exact (HB2.out.setCell (by show w.heap.size ≤ w.heap.size + 1 + 1; omega) _).setCell (by show w.heap.size ≤ w.heap.size + 1 + 1; omega) _
/-- Between two rounds of the reference's Merge. -/
def RMg (w : World) (g B : Nat) (l m L : List Nat) (wr : World) : Prop :=
  By wr g L ∧ Blk wr w.heap.size 23 #[.int .i64 B, .string (bs l)] ∧ Blk wr (w.heap.size + 1) 23 #[.int .i64 B, .string (bs m)] ∧ Blk wr (w.heap.size + 1 + 1) 23 #[.int .i64 0, .string ⟨#[]⟩] ∧ Below w.heap.size w wr
theorem mrg_range (l m : List Nat) (k : Nat) : mrg l m (List.range (k + 1)) = tellF (mrg l m (List.range k)) k (byt m k) := by rw [List.range_succ]; exact mrg_snoc _ _ _ _
set_option maxHeartbeats 1000000 in
theorem rmerge_good (B : Nat) (l m : List Nat) (w : World) (hr : rightF B l = true) (hm : rightF B m = true) : Calls Try.prog 26 #[hV B l, hV B m] w (HRes w ⟨B, mergeF l m, 0⟩) := by
  have HR := Lib.hid hr
  have HM := Lib.hid hm
  have hL := right_bytes hr
  have hM := right_bytes hm
  obtain ⟨b1, b2, hl, hkl⟩ := right_nat hr
  obtain ⟨_, _, hml, hkm⟩ := right_nat hm
  have HLM : Hid (m.length = l.length) := by show m.length = _; rw [hl, hml]
  have hl256 : l.length ≤ 256 := by rw [hl]; exact (pow_bd b1 b2).2
  have HKL := Lib.hid hkl
  have HKM := Lib.hid hkm
  have hsz := bs_size m
  rw [HLM.out] at hsz
  clear hr hm hl hml hkl hkm
  go_enter Try.func26, Try.ntmps26
  go_wp2_with fail
  refine (rright_any B l hL _).mono ?_
  rintro e w1 ⟨rfl, hb⟩
  rw [HR.out]
  obtain ⟨X, Y, Z⟩ := three_new w #[.int .i64 B, .string (bs l)] #[.int .i64 B, .string (bs m)] #[.int .i64 0, .string ⟨#[]⟩] 23 23 23
  have HX := Lib.hid (X.later hb)
  have HY := Lib.hid (Y.later hb)
  have HZ := Lib.hid (Z.later hb)
  have HB := Lib.hid (below_old (below_old (below_old hb)))
  obtain ⟨y0, y1, _, _⟩ := HY.out.two
  clear hb X Y Z
  go_wp2_with fail
  refine (rright_any B m hM _).mono ?_
  rintro e w2 ⟨rfl, hb2⟩
  rw [HM.out]
  have HX2 := Lib.hid (HX.out.later hb2)
  have HY2 := Lib.hid (HY.out.later hb2)
  have HZ2 := Lib.hid (HZ.out.later hb2)
  have HB2 := Lib.hid (HB.out.trans (hb2.mono HB.out.size))
  clear hb2 y0 y1 HX HY HZ HB
  obtain ⟨x0, x1, _, _⟩ := HX2.out.two
  obtain ⟨y0, y1, _, _⟩ := HY2.out.two
  obtain ⟨cap, w3, hcv, hBy, hb3, hz3⟩ := run_bytes_by (P := Try.prog) w2 9 46 5 l hL Try.underlying9 Try.underlying46 Try.underlying5
  have zx := HX2.out.lt
  have zy := HY2.out.lt
  have zz := HZ2.out.lt
  have HI : Hid (RMg w w2.heap.size B l m (mrg l m (List.range 0)) w3) := ⟨hBy, HX2.out.later hb3, HY2.out.later hb3, HZ2.out.later hb3, HB2.out.trans (hb3.mono HB2.out.size)⟩
  clear hBy hb3 hz3
  go_wp2_with fail
  clear hcv x0 x1 y0 y1
  go_loopw [7] (fun i wr => ∃ k : Nat, k ≤ l.length ∧ i = .int .i64 k ∧ RMg w w2.heap.size B l m (mrg l m (List.range k)) wr) (fun i _ => l.length - (intOf i).toNat)
  case atStart => exact ⟨0, Nat.zero_le _, rfl, HI.out⟩
  case round =>
    obtain ⟨k, hk, rfl, hBy, hX, hY, hZ, hB⟩ := hrel
    have HBy := Lib.hid hBy
    have HX := Lib.hid hX
    have HY := Lib.hid hY
    have HZ := Lib.hid hZ
    have HB := Lib.hid hB
    have HLL : Hid ((mrg l m (List.range k)).length = l.length) := length_mrg _ _ _
    clear hBy hX hY hZ hB
    by_cases hlt : k < l.length
    · have HT := Lib.hid (mrg_range l m k)
      generalize mrg l m (List.range k) = L at *
      have hkL : k < L.length := by rw [HLL.out]; exact hlt
      have ha : ∀ h : k < (bs m).size, ((bs m)[k]'h).toNat = byt m k := fun h => bs_at hM h
      obtain ⟨y0, y1, _, _⟩ := HY.out.two
      have cg := HBy.out.cell k hkL
      have fg := HBy.out.free k hkL
      have zg := HBy.out.lt
      have hv := byt_lt hM k
      have i1 : (0 : Int) ≤ (k : Int) := by omega
      have i2 : (k : Int) < (l.length : Int) := by omega
      have hmx : max ((byt L k : Nat) : Int) ((byt m k : Nat) : Int) = ((max (byt L k) (byt m k) : Nat) : Int) := by omega
      clear hkL
      go_wp2_with fail
      refine wp_region_U (S := fun w' => w'.cell? ⟨w2.heap.size, k, none⟩ = some (.int .u8 ((byt L k : Nat) : Int)) ∧ w'.cell? ⟨w.heap.size + 1, 1, none⟩ = some (.string (bs m))) (s := 12) (by kernel_rfl) ?_
      refine wpAnyU_take (i := 0) (v := (.slice (some ⟨w2.heap.size, 0, none⟩) l.length cap)) rfl (by kernel_rfl) (by kernel_rfl) (by kernel_rfl) (by kernel_rfl) (by decide) (by kernel_rfl) (fun _ _ _ h => h) (Or.inl ⟨by rfl, ?_⟩) ⟨cg, y1⟩ ?_
      · (intro w hSw; (try dsimp only at hSw); (try obtain ⟨s0, s1⟩ := hSw); go_simp)
      simp only [Act.put, List.setIfInBounds_toArray, List.set_cons_zero, List.set_cons_succ]
      refine wpAnyU_take (i := 1) (v := (.int .i64 (k : Int))) rfl (by kernel_rfl) (by kernel_rfl) (by kernel_rfl) (by kernel_rfl) (by decide) (by kernel_rfl) (fun _ _ _ h => h) (Or.inl ⟨by rfl, ?_⟩) ⟨cg, y1⟩ ?_
      · (intro w hSw; (try dsimp only at hSw); (try obtain ⟨s0, s1⟩ := hSw); go_simp)
      simp only [Act.put, List.setIfInBounds_toArray, List.set_cons_zero, List.set_cons_succ]
      refine wpAnyU_take (i := 2) (v := (.slice (some ⟨w2.heap.size, 0, none⟩) l.length cap)) rfl (by kernel_rfl) (by kernel_rfl) (by kernel_rfl) (by kernel_rfl) (by decide) (by kernel_rfl) (fun _ _ _ h => h) (Or.inl ⟨by rfl, ?_⟩) ⟨cg, y1⟩ ?_
      · (intro w hSw; (try dsimp only at hSw); (try obtain ⟨s0, s1⟩ := hSw); go_simp)
      simp only [Act.put, List.setIfInBounds_toArray, List.set_cons_zero, List.set_cons_succ]
      refine wpAnyU_take (i := 3) (v := (.int .i64 (k : Int))) rfl (by kernel_rfl) (by kernel_rfl) (by kernel_rfl) (by kernel_rfl) (by decide) (by kernel_rfl) (fun _ _ _ h => h) (Or.inl ⟨by rfl, ?_⟩) ⟨cg, y1⟩ ?_
      · (intro w hSw; (try dsimp only at hSw); (try obtain ⟨s0, s1⟩ := hSw); go_simp)
      simp only [Act.put, List.setIfInBounds_toArray, List.set_cons_zero, List.set_cons_succ]
      refine wpAnyU_take (i := 4) (v := (.pointer (some ⟨w2.heap.size, k, none⟩))) rfl (by kernel_rfl) (by kernel_rfl) (by kernel_rfl) (by kernel_rfl) (by decide) (by kernel_rfl) (fun _ _ _ h => h) (Or.inl ⟨by rfl, ?_⟩) ⟨cg, y1⟩ ?_
      · (intro w hSw; (try dsimp only at hSw); (try obtain ⟨s0, s1⟩ := hSw); go_simp)
      simp only [Act.put, List.setIfInBounds_toArray, List.set_cons_zero, List.set_cons_succ]
      refine wpAnyU_take (i := 5) (v := (.int .u8 ((byt L k : Nat) : Int))) rfl (by kernel_rfl) (by kernel_rfl) (by kernel_rfl) (by kernel_rfl) (by decide) (by kernel_rfl) (fun _ _ _ h => h) (Or.inl ⟨by rfl, ?_⟩) ⟨cg, y1⟩ ?_
      · (intro w hSw; (try dsimp only at hSw); (try obtain ⟨s0, s1⟩ := hSw); go_simp)
      simp only [Act.put, List.setIfInBounds_toArray, List.set_cons_zero, List.set_cons_succ]
      refine wpAnyU_take (i := 6) (v := (.pointer (some ⟨w.heap.size + 1, 1, none⟩))) rfl (by kernel_rfl) (by kernel_rfl) (by kernel_rfl) (by kernel_rfl) (by decide) (by kernel_rfl) (fun _ _ _ h => h) (Or.inl ⟨by rfl, ?_⟩) ⟨cg, y1⟩ ?_
      · (intro w hSw; (try dsimp only at hSw); (try obtain ⟨s0, s1⟩ := hSw); go_simp)
      simp only [Act.put, List.setIfInBounds_toArray, List.set_cons_zero, List.set_cons_succ]
      refine wpAnyU_take (i := 7) (v := (.string (bs m))) rfl (by kernel_rfl) (by kernel_rfl) (by kernel_rfl) (by kernel_rfl) (by decide) (by kernel_rfl) (fun _ _ _ h => h) (Or.inl ⟨by rfl, ?_⟩) ⟨cg, y1⟩ ?_
      · (intro w hSw; (try dsimp only at hSw); (try obtain ⟨s0, s1⟩ := hSw); go_simp)
      simp only [Act.put, List.setIfInBounds_toArray, List.set_cons_zero, List.set_cons_succ]
      refine wpAnyU_take (i := 8) (v := (.int .i64 (k : Int))) rfl (by kernel_rfl) (by kernel_rfl) (by kernel_rfl) (by kernel_rfl) (by decide) (by kernel_rfl) (fun _ _ _ h => h) (Or.inl ⟨by rfl, ?_⟩) ⟨cg, y1⟩ ?_
      · (intro w hSw; (try dsimp only at hSw); (try obtain ⟨s0, s1⟩ := hSw); go_simp)
      simp only [Act.put, List.setIfInBounds_toArray, List.set_cons_zero, List.set_cons_succ]
      refine wpAnyU_take (i := 9) (v := (.int .u8 ((byt m k : Nat) : Int))) rfl (by kernel_rfl) (by kernel_rfl) (by kernel_rfl) (by kernel_rfl) (by decide) (by kernel_rfl) (fun _ _ _ h => h) (Or.inl ⟨by rfl, ?_⟩) ⟨cg, y1⟩ ?_
      · (intro w hSw; (try dsimp only at hSw); (try obtain ⟨s0, s1⟩ := hSw); go_simp)
      simp only [Act.put, List.setIfInBounds_toArray, List.set_cons_zero, List.set_cons_succ]
      refine wpAnyU_take (i := 10) (v := (.int .u8 ((max (byt L k) (byt m k) : Nat) : Int))) rfl (by kernel_rfl) (by kernel_rfl) (by kernel_rfl) (by kernel_rfl) (by decide) (by kernel_rfl) (fun _ _ _ h => h) (Or.inl ⟨by rfl, ?_⟩) ⟨cg, y1⟩ ?_
      · (intro w hSw; (try dsimp only at hSw); (try obtain ⟨s0, s1⟩ := hSw); go_simp)
      simp only [Act.put, List.setIfInBounds_toArray, List.set_cons_zero, List.set_cons_succ]
      refine wpAnyU_take (i := 11) (v := (.pointer (some ⟨w2.heap.size, k, none⟩))) rfl (by kernel_rfl) (by kernel_rfl) (by kernel_rfl) (by kernel_rfl) (by decide) (by kernel_rfl) (fun _ _ _ h => h) (Or.inl ⟨by rfl, ?_⟩) ⟨cg, y1⟩ ?_
      · (intro w hSw; (try dsimp only at hSw); (try obtain ⟨s0, s1⟩ := hSw); go_simp)
      simp only [Act.put, List.setIfInBounds_toArray, List.set_cons_zero, List.set_cons_succ]
      refine wpAnyU_one (i := 12) (by kernel_rfl) rfl (fun K hK => ?_)
      go_simp
      refine hK.out _ _ (fun h => by cases h) ?_
      clear hK K
      try simp only [Act.put, List.setIfInBounds_toArray, List.set_cons_zero, List.set_cons_succ]
      refine wpAnyU_done (by kernel_rfl) ?_ _
      have HI2 : Hid (RMg w w2.heap.size B l m (mrg l m (List.range (k + 1))) (wr.setCell ⟨w2.heap.size, k, none⟩ (.int .u8 ((max (byt L k) (byt m k) : Nat) : Int))).drew) := by
        rw [HT.out]
        exact ⟨(HBy.out.set (by rw [HLL.out]; exact hlt) _).drew, HX.out.far (by show w.heap.size ≠ w2.heap.size; omega) _, HY.out.far (by show w.heap.size + 1 ≠ w2.heap.size; omega) _, HZ.out.far (by show w.heap.size + 1 + 1 ≠ w2.heap.size; omega) _, (HB.out.setCell (by show w.heap.size ≤ w2.heap.size; omega) _).drew⟩
      go_wp2_with fail
      go_roundw
      case rel => exact ⟨k + 1, by omega, by go_num, HI2.out⟩
      case measure => simp [intOf]; omega
    · obtain rfl : k = l.length := by omega
      rw [← HLM.out] at HBy HLL
      have HBy : Hid (By wr w2.heap.size (mergeF l m)) := HBy.out
      have HLL : Hid ((mergeF l m).length = m.length) := HLL.out
      have HBY2 : Hid (Bytes (mergeF l m)) := (Ranks.mrg HKL.out HKM.out _).bytes
      generalize mergeF l m = L at *
      have hcs := run_string_of (P := Try.prog) wr 46 9 5 w2.heap.size cap L Try.underlying46 Try.underlying5 Try.underlying9 HBy.out HBY2.out
      rw [HLL.out, HLM.out] at hcs
      obtain ⟨x0, x1, _, _⟩ := HX.out.two
      obtain ⟨z0, z1, f0, f1⟩ := HZ.out.two
      go_wp2_with fail
      refine bodyPost_ret (v := .tuple #[hV B L, .int .i64 0]) (by simp [results, Try.results26, go_sem, z0, z1]) rfl ⟨rfl, ?_⟩
      exact (HB.out.setCell (by show w.heap.size ≤ w.heap.size + 1 + 1; omega) _).setCell (by show w.heap.size ≤ w.heap.size + 1 + 1; omega) _
theorem rmerge_any (b c : Int) (l m : List Nat) (hL : Bytes l) (hM : Bytes m) (w : World) : Calls Try.prog 26 #[hV b l, hV c m] w (HRes w (mergeH b l c m)) := by
  by_cases h : rightF b l = true ∧ rightF c m = true ∧ c = b
  · rw [mergeH, if_pos h]
    obtain ⟨h1, h2, rfl⟩ := h
    obtain ⟨B, rfl, _⟩ := right_of h1
    exact rmerge_good B l m w h1 h2
  · rw [mergeH, if_neg h]
    exact rmerge_bad b c l m hL hM w h
end Go.Proofs.Ytgbanhjjieagnaa

/-
  The reference's Lower and Count.
-/
import Derived.Test.YtgbanhjjieagnaaHllRef3
namespace Go.Proofs.Ytgbanhjjieagnaa
open Go.RowKit
set_option linter.unusedVariables false
set_option linter.unusedSimpArgs false
theorem byt_tell_ne {l : List Nat} {p r j : Nat} (h : j ≠ p) : byt (tellF l p r) j = byt l j := by
  unfold tellF byt
  rw [List.getElem?_set]
  rw [if_neg (fun e => h e.symm)]
theorem byt_lowS_ne {x l : List Nat} {i j : Nat} (h : j ≠ i) : byt (lowS x l i) j = byt l j := by
  have h1 : byt (low1 x l i) j = byt l j := by
    unfold low1; split
    · rfl
    · exact byt_tell_ne h
  unfold lowS low2; split
  · exact h1
  · exact (byt_tell_ne h).trans h1
theorem byt_lw_far {x l : List Nat} : ∀ {k j : Nat}, k ≤ j → byt (lw x l (List.range k)) j = byt l j
  | 0, _, _ => rfl
  | k + 1, j, h => by
    rw [List.range_succ, lw_snoc, byt_lowS_ne (by omega)]
    exact byt_lw_far (by omega)
theorem byt_zero (n j : Nat) : byt (List.replicate n 0) j = 0 := by
  unfold byt
  by_cases h : j < n <;> simp [h]
theorem lw_range (x l : List Nat) (k : Nat) : lw x l (List.range (k + 1)) = lowS x (lw x l (List.range k)) k := by rw [List.range_succ]; exact lw_snoc _ _ _ _
theorem rlower_bad (b : Int) (l : List Nat) (hL : Bytes l) (w : World) (h : ¬ (rightF b l = true ∧ b ≠ 3)) : Calls Try.prog 27 #[hV b l] w (HRes w badH) := by
  have HN := Lib.hid h
  clear h
  go_enter Try.func27, Try.ntmps27
  go_wp2_with fail
  refine (rright_any b l hL _).mono ?_
  rintro e w1 ⟨rfl, hb⟩
  have Z1 := Blk.new (w.alloc (.cells #[.int .i64 b, .string (bs l)] 23)) 23 #[.int .i64 0, .string ⟨#[]⟩]
  have hX := ((Blk.new w 23 #[.int .i64 b, .string (bs l)]).alloc (.cells #[.int .i64 0, .string ⟨#[]⟩] 23)).later hb
  rw [World.size_alloc] at Z1
  have hZ := Z1.later hb
  have HB := Lib.hid (below_old (below_old hb))
  obtain ⟨y0, y1, f0, f1⟩ := hZ.two
  obtain ⟨x0, x1, _, _⟩ := hX.two
  clear hb hZ Z1 hX
  cases hr : rightF b l with
  | false =>
    clear hr
    go_wp2_with fail
    refine bodyPost_ret (v := .tuple #[hV 0 [], .int .i64 70]) (by simp [results, Try.results27, go_sem, y0, y1, bs_nil]) rfl ⟨rfl, ?_⟩
    exact (HB.out.setCell (by show w.heap.size ≤ w.heap.size + 1; omega) _).setCell (by show w.heap.size ≤ w.heap.size + 1; omega) _
  | true =>
    have h3 : b = 3 := by
      have h := HN.out
      apply Classical.byContradiction
      intro e
      exact h ⟨hr, e⟩
    subst h3
    clear hr
    go_wp2_with fail
    refine bodyPost_ret (v := .tuple #[hV 0 [], .int .i64 70]) (by simp [results, Try.results27, go_sem, y0, y1, bs_nil]) rfl ⟨rfl, ?_⟩
    exact (HB.out.setCell (by show w.heap.size ≤ w.heap.size + 1; omega) _).setCell (by show w.heap.size ≤ w.heap.size + 1; omega) _
/-- Between two rounds of the reference's Lower. -/
def RLw (w : World) (c g : Nat) (x L : List Nat) (wr : World) : Prop :=
  By wr g L ∧ Blk wr w.heap.size 23 #[.int .i64 (c : Int), .string (bs x)] ∧ Blk wr (w.heap.size + 1) 23 #[.int .i64 0, .string ⟨#[]⟩] ∧ Below w.heap.size w wr
set_option maxRecDepth 100000 in
set_option maxHeartbeats 2000000 in
theorem rlower_good (B C : Nat) (x : List Nat) (w : World) (h3 : 3 ≤ B) (hC : C = B + 1) (hr : rightF C x = true) : Calls Try.prog 27 #[hV C x] w (HRes w ⟨B, lowerF B x, 0⟩) := by
  have HR := Lib.hid hr
  have hL := right_bytes hr
  obtain ⟨_, h8, hxl, hk⟩ := right_nat hr
  have HK := Lib.hid hk
  have HC := Lib.hid hC
  have hcb : (C : Int) - 1 = (B : Int) := by omega
  have hc3 : ((C : Int) == 3) = false := by simp; omega
  obtain ⟨N, hN, hs1, hs2, hN8, hN256⟩ := pow_shl h3 (show B ≤ 8 by omega)
  have HLF : Hid (lowerF B x = lw x (List.replicate N 0) (List.range N)) := by show lowerF B x = _; rw [lowerF, hN]
  have hxN : x.length = 2 * N := by rw [hxl, hC, Nat.pow_succ, hN]; omega
  have hsz := bs_size x
  rw [hxN] at hsz
  have HXN := Lib.hid hxN
  obtain ⟨i0, hi0, hz0, hz1, hz2⟩ := info_parts Try.infoU8
  have hmk : ∀ W, (Instr.makeSlice 46 (.int .i64 (N : Int)) (.int .i64 (N : Int))).run Try.prog W = .ok (.slice (some ⟨W.heap.size, 0, none⟩) N N) (W.alloc (.cells (madeCells (Value.int .u8 0).cells N) 5)) := fun W =>
    run_make_n (P := Try.prog) 46 5 i0 (.int .u8 0) Try.underlying46 hi0 hz0 hz1 .i64 .i64 N N (Nat.le_refl _) (by rw [hz2]; omega) (by omega) W
  have hdv : (2 * (N : Int)) / 2 = (N : Int) := by omega
  clear hr hxl hk hC hN hxN hs1 hs2
  go_enter Try.func27, Try.ntmps27
  go_wp2_with fail
  refine (rright_any _ x hL _).mono ?_
  rintro e w1 ⟨rfl, hb⟩
  rw [HR.out]
  have Z1 := Blk.new (w.alloc (.cells #[.int .i64 (C : Int), .string (bs x)] 23)) 23 #[.int .i64 0, .string ⟨#[]⟩]
  have X1 := (Blk.new w 23 #[.int .i64 (C : Int), .string (bs x)]).alloc (.cells #[.int .i64 0, .string ⟨#[]⟩] 23)
  rw [World.size_alloc] at Z1
  have HZ := Lib.hid (Z1.later hb)
  have HX := Lib.hid (X1.later hb)
  have HB := Lib.hid (below_old (below_old hb))
  obtain ⟨x0, x1, _, _⟩ := HX.out.two
  have zx := HX.out.lt
  have zz := HZ.out.lt
  clear hb Z1 X1
  go_wp2_with fail
  have hBy : By (w1.alloc (.cells (madeCells #[.int .u8 0] N) 5)) w1.heap.size (List.replicate N 0) := by
    refine by_blank (t := 5) ?_
    rw [← made_u8]
    exact Blk.new _ _ _
  have HI : Hid (RLw w C w1.heap.size x (lw x (List.replicate N 0) (List.range 0)) (w1.alloc (.cells (madeCells #[.int .u8 0] N) 5))) := ⟨hBy, HX.out.alloc _, HZ.out.alloc _, below_al HB.out _⟩
  clear x0 x1 hBy hmk
  go_loopw [5] (fun i wr => ∃ k : Nat, k ≤ N ∧ i = .int .i64 k ∧ RLw w C w1.heap.size x (lw x (List.replicate N 0) (List.range k)) wr) (fun i _ => N - (intOf i).toNat)
  case atStart => exact ⟨0, Nat.zero_le _, rfl, HI.out⟩
  case round =>
    obtain ⟨k, hk, rfl, hBy, hX, hZ, hBl⟩ := hrel
    have HBy := Lib.hid hBy
    have HX := Lib.hid hX
    have HZ := Lib.hid hZ
    have HBL := Lib.hid hBl
    have HLE : Hid ((lw x (List.replicate N 0) (List.range k)).length = N) := by show _ = _; rw [length_lw, List.length_replicate]
    clear hBy hX hZ hBl
    obtain ⟨x0, x1, _, _⟩ := HX.out.two
    by_cases hlt : k < N
    · have HSN := Lib.hid (lw_range x (List.replicate N 0) k)
      have HZE : Hid (byt (lw x (List.replicate N 0) (List.range k)) k = 0) := by show _ = _; rw [byt_lw_far (Nat.le_refl k), byt_zero]
      have ha : ∀ h : 2 * k < (bs x).size, ((bs x)[2 * k]'h).toNat = byt x (2 * k) := fun h => bs_at hL h
      have ha1 : ∀ h : 2 * k + 1 < (bs x).size, ((bs x)[2 * k + 1]'h).toNat = byt x (2 * k + 1) := fun h => bs_at hL h
      have hr1 := HK.out.byt (2 * k)
      have hr2 := HK.out.byt (2 * k + 1)
      generalize lw x (List.replicate N 0) (List.range k) = L at *
      have hkL : k < L.length := by rw [HLE.out]; exact hlt
      have i1 : (0 : Int) ≤ 2 * (k : Int) := by omega
      have i2 : 2 * (k : Int) < 2 * (N : Int) := by omega
      have i3 : (0 : Int) ≤ 2 * (k : Int) + 1 := by omega
      have i4 : 2 * (k : Int) + 1 < 2 * (N : Int) := by omega
      have i5 : (0 : Int) ≤ (k : Int) := by omega
      have i6 : (k : Int) < (N : Int) := by omega
      have HKL := Lib.hid hkL
      have cg := HBy.out.cell k hkL
      have fg := HBy.out.free k hkL
      rw [HZE.out, show ((0 : Nat) : Int) = 0 from rfl] at cg
      have zg := HBy.out.lt
      clear hkL
      rcases Classical.em (byt x (2 * k) = 0) with q1 | q1 <;> rcases Classical.em (byt x (2 * k + 1) = 0) with q2 | q2
      · have d1 : decide (0 < byt x (2 * k)) = false := by simp; omega
        have d2 : decide (0 < byt x (2 * k + 1)) = false := by simp; omega
        have HS : Hid (lowS x L k = L) := by show lowS x L k = _; rw [lowS, low1, low2, if_pos q1, if_pos q2]
        clear q1 q2
        go_wp2_with fail
        go_roundw
        case rel => exact ⟨k + 1, by omega, by go_num, by rw [HSN.out, HS.out]; exact HBy.out, HX.out, HZ.out, HBL.out⟩
        case measure => simp [intOf]; omega
      · have d1 : decide (0 < byt x (2 * k)) = false := by simp; omega
        have d2 : decide (0 < byt x (2 * k + 1)) = true := by simp; omega
        have HS : Hid (lowS x L k = tellF (L) k 1) := by show lowS x L k = _; rw [lowS, low1, low2, if_pos q1, if_neg q2]
        clear q1 q2
        have HBy := Lib.hid (HBy.out.set HKL.out (max (byt L k) 1))
        rw [HZE.out] at HBy
        have HBy : Hid (By (wr.setCell ⟨w1.heap.size, k, none⟩ (.int .u8 1)) w1.heap.size (tellF L k 1)) := by
          show By _ _ (L.set k (max (byt L k) 1)); rw [HZE.out]; exact HBy.out
        have HX := Lib.hid (HX.out.far (p := ⟨w1.heap.size, k, none⟩) (by show w.heap.size ≠ w1.heap.size; omega) (.int .u8 1))
        have HZ := Lib.hid (HZ.out.far (p := ⟨w1.heap.size, k, none⟩) (by show w.heap.size + 1 ≠ w1.heap.size; omega) (.int .u8 1))
        have HBL := Lib.hid (HBL.out.setCell (p := ⟨w1.heap.size, k, none⟩) (by show w.heap.size ≤ w1.heap.size; omega) (.int .u8 1))
        go_wp2_with fail
        go_roundw
        case rel => exact ⟨k + 1, by omega, by go_num, by rw [HSN.out, HS.out]; exact HBy.out, HX.out, HZ.out, HBL.out⟩
        case measure => simp [intOf]; omega
      · have d1 : decide (0 < byt x (2 * k)) = true := by simp; omega
        have d2 : decide (0 < byt x (2 * k + 1)) = false := by simp; omega
        have HS : Hid (lowS x L k = tellF L k (byt x (2 * k) + 1)) := by show lowS x L k = _; rw [lowS, low1, low2, if_neg q1, if_pos q2]
        clear q1 q2
        have HBy : Hid (By (wr.setCell ⟨w1.heap.size, k, none⟩ (.int .u8 (((byt x (2 * k) + 1 : Nat)) : Int))) w1.heap.size (tellF L k (byt x (2 * k) + 1))) := by
          have h := HBy.out.set HKL.out (byt x (2 * k) + 1)
          have e : tellF L k (byt x (2 * k) + 1) = L.set k (byt x (2 * k) + 1) := by rw [tellF, HZE.out, Nat.zero_max]
          show By _ _ _
          rw [e]; exact h
        have HX := Lib.hid (HX.out.far (p := ⟨w1.heap.size, k, none⟩) (by show w.heap.size ≠ w1.heap.size; omega) (.int .u8 (((byt x (2 * k) + 1 : Nat)) : Int)))
        have HZ := Lib.hid (HZ.out.far (p := ⟨w1.heap.size, k, none⟩) (by show w.heap.size + 1 ≠ w1.heap.size; omega) (.int .u8 (((byt x (2 * k) + 1 : Nat)) : Int)))
        have HBL := Lib.hid (HBL.out.setCell (p := ⟨w1.heap.size, k, none⟩) (by show w.heap.size ≤ w1.heap.size; omega) (.int .u8 (((byt x (2 * k) + 1 : Nat)) : Int)))
        have hrw : (((byt x (2 * k) + 1 : Nat)) : Int) = ((byt x (2 * k) : Nat) : Int) + 1 := by omega
        rw [hrw] at HBy HX HZ HBL
        clear hrw
        go_wp2_with fail
        go_roundw
        case rel => exact ⟨k + 1, by omega, by go_num, by rw [HSN.out, HS.out]; exact HBy.out, HX.out, HZ.out, HBL.out⟩
        case measure => simp [intOf]; omega
      · have d1 : decide (0 < byt x (2 * k)) = true := by simp; omega
        have d2 : decide (0 < byt x (2 * k + 1)) = true := by simp; omega
        have HS : Hid (lowS x L k = tellF (tellF L k (byt x (2 * k) + 1)) k 1) := by show lowS x L k = _; rw [lowS, low1, low2, if_neg q1, if_neg q2]
        clear q1 q2
        have HBy : Hid (By (wr.setCell ⟨w1.heap.size, k, none⟩ (.int .u8 (((byt x (2 * k) + 1 : Nat)) : Int))) w1.heap.size (tellF L k (byt x (2 * k) + 1))) := by
          have h := HBy.out.set HKL.out (byt x (2 * k) + 1)
          have e : tellF L k (byt x (2 * k) + 1) = L.set k (byt x (2 * k) + 1) := by rw [tellF, HZE.out, Nat.zero_max]
          show By _ _ _
          rw [e]; exact h
        have HX := Lib.hid (HX.out.far (p := ⟨w1.heap.size, k, none⟩) (by show w.heap.size ≠ w1.heap.size; omega) (.int .u8 (((byt x (2 * k) + 1 : Nat)) : Int)))
        have HZ := Lib.hid (HZ.out.far (p := ⟨w1.heap.size, k, none⟩) (by show w.heap.size + 1 ≠ w1.heap.size; omega) (.int .u8 (((byt x (2 * k) + 1 : Nat)) : Int)))
        have HBL := Lib.hid (HBL.out.setCell (p := ⟨w1.heap.size, k, none⟩) (by show w.heap.size ≤ w1.heap.size; omega) (.int .u8 (((byt x (2 * k) + 1 : Nat)) : Int)))
        have hrw : (((byt x (2 * k) + 1 : Nat)) : Int) = ((byt x (2 * k) : Nat) : Int) + 1 := by omega
        rw [hrw] at HBy HX HZ HBL
        clear hrw
        obtain ⟨p0, p1, _, _⟩ := HX.out.two
        have hmx : max (((byt x (2 * k) : Nat) : Int) + 1) 1 = ((max (byt (tellF L k (byt x (2 * k) + 1)) k) 1 : Nat) : Int) := by
          rw [show byt (tellF L k (byt x (2 * k) + 1)) k = byt x (2 * k) + 1 by rw [tellF, HZE.out, byt_set HKL.out, if_pos rfl, Nat.zero_max]]; omega
        have HKL2 : Hid (k < (tellF L k (byt x (2 * k) + 1)).length) := by show k < _; rw [length_tellF]; exact HKL.out
        have HBy := Lib.hid (HBy.out.set HKL2.out (max (byt (tellF L k (byt x (2 * k) + 1)) k) 1))
        have HX := Lib.hid (HX.out.far (p := ⟨w1.heap.size, k, none⟩) (by show w.heap.size ≠ w1.heap.size; omega) (.int .u8 ((max (byt (tellF L k (byt x (2 * k) + 1)) k) 1 : Nat) : Int)))
        have HZ := Lib.hid (HZ.out.far (p := ⟨w1.heap.size, k, none⟩) (by show w.heap.size + 1 ≠ w1.heap.size; omega) (.int .u8 ((max (byt (tellF L k (byt x (2 * k) + 1)) k) 1 : Nat) : Int)))
        have HBL := Lib.hid (HBL.out.setCell (p := ⟨w1.heap.size, k, none⟩) (by show w.heap.size ≤ w1.heap.size; omega) (.int .u8 ((max (byt (tellF L k (byt x (2 * k) + 1)) k) 1 : Nat) : Int)))
        go_wp2_with fail
        go_roundw
        case rel => exact ⟨k + 1, by omega, by go_num, by rw [HSN.out, HS.out]; exact HBy.out, HX.out, HZ.out, HBL.out⟩
        case measure => simp [intOf]; omega
    · obtain rfl : k = N := by omega
      rw [← HLF.out] at HBy HLE
      have HBY2 : Hid (Bytes (lowerF B x)) := by
        show Bytes _
        have hk := HK.out
        rw [HC.out] at hk
        exact (Ranks.lw hk (by omega) (ranks_zero B _) _).bytes
      obtain ⟨z0, z1, f0, f1⟩ := HZ.out.two
      generalize lowerF B x = L at *
      have hcs := run_string_of (P := Try.prog) wr 46 9 5 w1.heap.size k L Try.underlying46 Try.underlying5 Try.underlying9 HBy.out HBY2.out
      rw [HLE.out] at hcs
      go_wp2_with fail
      refine bodyPost_ret (v := .tuple #[hV B L, .int .i64 0]) (by simp [results, Try.results27, go_sem, z0, z1]) rfl ⟨rfl, ?_⟩
      exact (HBL.out.setCell (by show w.heap.size ≤ w.heap.size + 1; omega) _).setCell (by show w.heap.size ≤ w.heap.size + 1; omega) _
theorem rlower_any (b : Int) (l : List Nat) (hL : Bytes l) (w : World) : Calls Try.prog 27 #[hV b l] w (HRes w (lowerH b l)) := by
  by_cases h : rightF b l = true ∧ b ≠ 3
  · rw [lowerH, if_pos h]
    obtain ⟨h1, h3⟩ := h
    obtain ⟨C, rfl, q1, q2, _⟩ := right_of h1
    have := rlower_good (C - 1) C l w (by omega) (by omega) h1
    rw [show (((C - 1 : Nat)) : Int) = (C : Int) - 1 by omega] at this
    exact this
  · rw [lowerH, if_neg h]
    exact rlower_bad b l hL w h
end Go.Proofs.Ytgbanhjjieagnaa

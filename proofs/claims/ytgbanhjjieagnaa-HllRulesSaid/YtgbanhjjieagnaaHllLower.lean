/-
  Lower: the registers of the same numbers with a digit less.
-/
import Derived.Test.YtgbanhjjieagnaaHllMerge
namespace Go.Proofs.Ytgbanhjjieagnaa
open Go.RowKit
set_option linter.unusedVariables false
set_option linter.unusedSimpArgs false
/-- Place i is told what the places 2 i and 2 i + 1 of x have. -/
def low1 (x l : List Nat) (i : Nat) : List Nat := if byt x (2 * i) = 0 then l else tellF l i (byt x (2 * i) + 1)
def low2 (x l : List Nat) (i : Nat) : List Nat := if byt x (2 * i + 1) = 0 then l else tellF l i 1
def lowS (x l : List Nat) (i : Nat) : List Nat := low2 x (low1 x l i) i
def lw (x l : List Nat) (ps : List Nat) : List Nat := ps.foldl (lowS x) l
def lowerF (B : Nat) (x : List Nat) : List Nat := lw x (List.replicate (2 ^ B) 0) (List.range (2 ^ B))
theorem lw_snoc (x l : List Nat) (ps : List Nat) (p : Nat) : lw x l (ps ++ [p]) = lowS x (lw x l ps) p := by simp [lw]
theorem length_tellF (l : List Nat) (p r : Nat) : (tellF l p r).length = l.length := by simp [tellF]
theorem length_low1 (x l : List Nat) (i : Nat) : (low1 x l i).length = l.length := by unfold low1; split <;> simp [length_tellF]
theorem length_low2 (x l : List Nat) (i : Nat) : (low2 x l i).length = l.length := by unfold low2; split <;> simp [length_tellF]
theorem length_lowS (x l : List Nat) (i : Nat) : (lowS x l i).length = l.length := by unfold lowS; rw [length_low2, length_low1]
theorem length_lw (x l : List Nat) (ps : List Nat) : (lw x l ps).length = l.length := by
  induction ps generalizing l with
  | nil => rfl
  | cons p ps ih => exact (ih _).trans (length_lowS _ _ _)
theorem Ranks.lowS {B : Nat} {x l : List Nat} (hx : Ranks (B + 1) x) (h8 : B + 1 ≤ 8) (h : Ranks B l) (i : Nat) : Ranks B (lowS x l i) := by
  have h1 : Ranks B (low1 x l i) := by
    unfold low1; split
    · exact h
    · exact h.tell i (by have := hx.byt (2 * i); omega)
  unfold Ytgbanhjjieagnaa.lowS low2; split
  · exact h1
  · exact h1.tell i (by omega)
theorem Ranks.lw {B : Nat} {x l : List Nat} (hx : Ranks (B + 1) x) (h8 : B + 1 ≤ 8) (h : Ranks B l) (ps : List Nat) : Ranks B (lw x l ps) := by
  induction ps generalizing l with
  | nil => exact h
  | cons p ps ih => exact ih (Ranks.lowS hx h8 h p)
def lowerH (b : Int) (l : List Nat) : Hr := if rightF b l = true ∧ b ≠ 3 then ⟨b - 1, lowerF (b.toNat - 1) l, 0⟩ else badH
theorem lower_bad (b : Int) (l : List Nat) (hL : Bytes l) (w : World) (h : rightF b l = false) : Calls Try.prog 25 #[hV b l] w (HRes w badH) := by
  have H := Lib.hid h
  clear h
  go_enter Try.func25, Try.ntmps25
  go_wp2_with fail
  refine (right_any b l hL _).mono ?_
  rintro e w1 ⟨rfl, hb⟩
  rw [H.out]
  have Z1 := Blk.new (w.alloc (.cells #[.int .i64 b, .string (bs l)] 23)) 23 #[.int .i64 0, .string ⟨#[]⟩]
  rw [World.size_alloc] at Z1
  have hZ := Z1.later hb
  have HB := Lib.hid (below_old (below_old hb))
  obtain ⟨y0, y1, f0, f1⟩ := hZ.two
  clear hb hZ Z1
  go_wp2_with fail
  refine bodyPost_ret (v := .tuple #[hV 0 [], .int .i64 70]) (by simp [results, Try.results25, go_sem, y0, y1, bs_nil]) rfl ⟨rfl, ?_⟩
  exact (HB.out.setCell (by show w.heap.size ≤ w.heap.size + 1; omega) _).setCell (by show w.heap.size ≤ w.heap.size + 1; omega) _
theorem lower_three (l : List Nat) (hL : Bytes l) (w : World) (h : rightF 3 l = true) : Calls Try.prog 25 #[hV 3 l] w (HRes w badH) := by
  have H := Lib.hid h
  clear h
  go_enter Try.func25, Try.ntmps25
  go_wp2_with fail
  refine (right_any 3 l hL _).mono ?_
  rintro e w1 ⟨rfl, hb⟩
  rw [H.out]
  have Z1 := Blk.new (w.alloc (.cells #[.int .i64 3, .string (bs l)] 23)) 23 #[.int .i64 0, .string ⟨#[]⟩]
  have X1 := (Blk.new w 23 #[.int .i64 3, .string (bs l)]).alloc (.cells #[.int .i64 0, .string ⟨#[]⟩] 23)
  rw [World.size_alloc] at Z1
  have HZ := Lib.hid (Z1.later hb)
  have hX := X1.later hb
  have HB := Lib.hid (below_old (below_old hb))
  obtain ⟨x0, x1, _, _⟩ := hX.two
  clear hb Z1 hX X1
  go_wp2_with fail
  refine (blank_any 2 _).mono ?_
  rintro e w2 ⟨hb2, ⟨hbits, g, hg, rfl, hBy⟩ | ⟨hbits, s, rfl⟩⟩
  · exact absurd hbits (by decide)
  have hZ2 := HZ.out.later hb2
  have hs := hZ2.lt
  have hs0 : w.heap.size < w2.heap.size := by omega
  have HB2 := Lib.hid (HB.out.trans (hb2.mono HB.out.size))
  obtain ⟨y0, y1, f0, f1⟩ := hZ2.two
  clear hb2 hZ2 hbits x0 x1
  go_wp2_with fail
  refine (errno_err s _).mono ?_
  rintro e w3 ⟨rfl, rfl⟩
  go_wp2_with fail
  refine bodyPost_ret (v := .tuple #[hV 0 [], .int .i64 70]) (by simp [results, Try.results25, go_sem, y0, y1, bs_nil, hs, hs0]) rfl ⟨rfl, ?_⟩
  exact below_al (below_al ((HB2.out.setCell (by show w.heap.size ≤ w.heap.size + 1; omega) _).setCell (by show w.heap.size ≤ w.heap.size + 1; omega) _) _) _
theorem tell_n (b : Int) (s : ByteArray) (g n cap p r : Nat) (l : List Nat) (hn : l.length = n) (w : World) (hp : p < l.length) (hl : l.length ≤ 65536) (h : By w g l) :
    Calls Try.prog 38 #[.agg (workV b s g n cap), .int .i64 p, .int .u8 r] w fun e w' => (∃ v, e = .returned v) ∧ By w' g (tellF l p r) ∧ w.grownBy w' (some g) := by
  subst hn
  exact tell_any b s g cap p r l w hp hl h
/-- Between two rounds of Lower. -/
def LwI (w : World) (b c g bw N : Nat) (x l : List Nat) (wr : World) : Prop :=
  By wr g l ∧ Blk wr bw 49 (workV b ⟨#[]⟩ g N N) ∧ Blk wr w.heap.size 23 #[.int .i64 (c : Int), .string (bs x)] ∧ Blk wr (w.heap.size + 1) 23 #[.int .i64 0, .string ⟨#[]⟩] ∧ Below w.heap.size w wr
set_option maxRecDepth 100000 in
set_option maxHeartbeats 2000000 in
theorem lower_good (B C : Nat) (x : List Nat) (w : World) (h3 : 3 ≤ B) (hC : C = B + 1) (hr : rightF C x = true) : Calls Try.prog 25 #[hV C x] w (HRes w ⟨B, lowerF B x, 0⟩) := by
  have HR := Lib.hid hr
  have hL := right_bytes hr
  obtain ⟨_, h8, hxl, hk⟩ := right_nat hr
  have HXL := Lib.hid hxl
  have HK := Lib.hid hk
  have HC := Lib.hid hC
  have hcb : (C : Int) - 1 = (B : Int) := by omega
  clear hr hxl hk hC
  go_enter Try.func25, Try.ntmps25
  go_wp2_with fail
  refine (right_any _ x hL _).mono ?_
  rintro e w1 ⟨rfl, hb⟩
  rw [HR.out]
  have Z1 := Blk.new (w.alloc (.cells #[.int .i64 (C : Int), .string (bs x)] 23)) 23 #[.int .i64 0, .string ⟨#[]⟩]
  have X1 := (Blk.new w 23 #[.int .i64 (C : Int), .string (bs x)]).alloc (.cells #[.int .i64 0, .string ⟨#[]⟩] 23)
  rw [World.size_alloc] at Z1
  have HZ := Lib.hid (Z1.later hb)
  have HX := Lib.hid (X1.later hb)
  have HB := Lib.hid (below_old (below_old hb))
  obtain ⟨x0, x1, _, _⟩ := HX.out.two
  clear hb Z1 X1
  go_wp2_with fail
  refine (blank_any B _).mono ?_
  rintro e w2 ⟨hb2, ⟨hbits, g, hg, rfl, hBy⟩ | ⟨hbits, s, rfl⟩⟩
  rotate_left
  · exact absurd hbits (by simp [bitsB]; omega)
  rw [Int.toNat_natCast] at hBy ⊢
  obtain ⟨N, hN, hs1, hs2, hN8, hN256⟩ := pow_shl h3 (show B ≤ 8 by omega)
  have HLF : Hid (lowerF B x = lw x (List.replicate N 0) (List.range N)) := by show lowerF B x = _; rw [lowerF, hN]
  rw [hN] at hBy ⊢
  have hxN : x.length = 2 * N := by rw [HXL.out, HC.out, Nat.pow_succ, hN]; omega
  have hsz := bs_size x
  rw [hxN] at hsz
  have HXN := Lib.hid hxN
  have hgz : w1.heap.size ≤ g := hg
  have HZ2 := HZ.out.later hb2
  have HX2 := HX.out.later hb2
  have zx := HX.out.lt
  have zz := HZ.out.lt
  have zg := hBy.lt
  have HW2 := Blk.new w2 49 (workV B ⟨#[]⟩ g N N)
  have HI : LwI w B C g w2.heap.size N x (lw x (List.replicate N 0) (List.range 0)) (w2.alloc (.cells (workV B ⟨#[]⟩ g N N) 49)) := ⟨hBy.alloc _, HW2, HX2.alloc _, HZ2.alloc _, below_al (HB.out.trans (hb2.mono HB.out.size)) _⟩
  clear hb2 hbits x0 x1 hBy HZ2 HX2 HW2 hN hxN HXL
  go_wp2_with fail
  go_loopw [28] (fun i wr => ∃ k : Nat, k ≤ N ∧ i = .int .i64 k ∧ LwI w B C g w2.heap.size N x (lw x (List.replicate N 0) (List.range k)) wr) (fun i _ => N - (intOf i).toNat)
  case atStart => exact ⟨0, Nat.zero_le _, rfl, HI⟩
  case round =>
    obtain ⟨k, hk, rfl, hBy, hW, hX, hZ, hBl⟩ := hrel
    have hlen : (lw x (List.replicate N 0) (List.range k)).length = N := by rw [length_lw, List.length_replicate]
    have HLE := Lib.hid hlen
    obtain ⟨c0, c1, c2, c3⟩ := hW.four
    obtain ⟨x0, x1, _, _⟩ := hX.two
    by_cases hlt : k < N
    · have HSN : Hid (lw x (List.replicate N 0) (List.range (k + 1)) = lowS x (lw x (List.replicate N 0) (List.range k)) k) := by show _ = _; rw [List.range_succ]; exact lw_snoc _ _ _ _
      have HBy := Lib.hid hBy
      have HX := Lib.hid hX
      have HW := Lib.hid hW
      have HZ := Lib.hid hZ
      have HBL := Lib.hid hBl
      have ha : ∀ h : 2 * k < (bs x).size, ((bs x)[2 * k]'h).toNat = byt x (2 * k) := fun h => bs_at hL h
      have ha1 : ∀ h : 2 * k + 1 < (bs x).size, ((bs x)[2 * k + 1]'h).toNat = byt x (2 * k + 1) := fun h => bs_at hL h
      have hr1 := HK.out.byt (2 * k)
      have hr2 := HK.out.byt (2 * k + 1)
      clear hBy hX hW hZ hBl hlen
      generalize lw x (List.replicate N 0) (List.range k) = L at *
      have i1 : (0 : Int) ≤ 2 * (k : Int) := by omega
      have i2 : 2 * (k : Int) < 2 * (N : Int) := by omega
      have i3 : (0 : Int) ≤ 2 * (k : Int) + 1 := by omega
      have i4 : 2 * (k : Int) + 1 < 2 * (N : Int) := by omega
      rcases Classical.em (byt x (2 * k) = 0) with q1 | q1 <;> rcases Classical.em (byt x (2 * k + 1) = 0) with q2 | q2
      · -- 0 0
        have d1 : ((((byt x (2 * k) : Nat) : Int)) != 0) = false := by simp; exact q1
        have d2 : ((((byt x (2 * k + 1) : Nat) : Int)) != 0) = false := by simp; exact q2
        have HS : Hid (lowS x L k = L) := by show lowS x L k = _; rw [lowS, low1, low2, if_pos q1, if_pos q2]
        clear q1 q2
        go_wp2_with fail
        go_roundw
        case rel => exact ⟨k + 1, by omega, by go_num, by rw [HSN.out, HS.out]; exact HBy.out, HW.out, HX.out, HZ.out, HBL.out⟩
        case measure => simp [intOf]; omega
      · -- 0 1
        have d1 : ((((byt x (2 * k) : Nat) : Int)) != 0) = false := by simp; exact q1
        have d2 : ((((byt x (2 * k + 1) : Nat) : Int)) != 0) = true := by simp; exact q2
        have HS : Hid (lowS x L k = tellF (L) k 1) := by show lowS x L k = _; rw [lowS, low1, low2, if_pos q1, if_neg q2]
        clear q1 q2
        go_wp2_with fail
        refine (tell_n B ⟨#[]⟩ g N N k (1) (L) HLE.out _ (by have := HLE.out; omega) (by have := HLE.out; omega) HBy.out).mono ?_
        rintro e wt ⟨⟨v, rfl⟩, hB2, hg2⟩
        have HBy := Lib.hid hB2
        have HX := Lib.hid (HX.out.grown hg2 (fun e => by injection e with e; omega))
        have HW := Lib.hid (HW.out.grown hg2 (fun e => by injection e with e; omega))
        have HZ := Lib.hid (HZ.out.grown hg2 (fun e => by injection e with e; omega))
        have HBL := Lib.hid (HBL.out.grown hg2 HBL.out.size (fun k e => by cases e; omega))
        have HLF2 : Hid ((tellF (L) k (1)).length = N) := by show _ = _; rw [length_tellF]; exact HLE.out
        clear hB2 hg2 c0 c1 c2 c3 x0 x1
        obtain ⟨c0, c1, c2, c3⟩ := HW.out.four
        obtain ⟨x0, x1, _, _⟩ := HX.out.two
        go_wp2_with fail
        go_roundw
        case rel => exact ⟨k + 1, by omega, by go_num, by rw [HSN.out, HS.out]; exact HBy.out, HW.out, HX.out, HZ.out, HBL.out⟩
        case measure => simp [intOf]; omega
      · -- 1 0
        have d1 : ((((byt x (2 * k) : Nat) : Int)) != 0) = true := by simp; exact q1
        have d2 : ((((byt x (2 * k + 1) : Nat) : Int)) != 0) = false := by simp; exact q2
        have HS : Hid (lowS x L k = tellF L k (byt x (2 * k) + 1)) := by show lowS x L k = _; rw [lowS, low1, low2, if_neg q1, if_pos q2]
        clear q1 q2
        go_wp2_with fail
        refine (tell_n B ⟨#[]⟩ g N N k (byt x (2 * k) + 1) (L) HLE.out _ (by have := HLE.out; omega) (by have := HLE.out; omega) HBy.out).mono ?_
        rintro e wt ⟨⟨v, rfl⟩, hB2, hg2⟩
        have HBy := Lib.hid hB2
        have HX := Lib.hid (HX.out.grown hg2 (fun e => by injection e with e; omega))
        have HW := Lib.hid (HW.out.grown hg2 (fun e => by injection e with e; omega))
        have HZ := Lib.hid (HZ.out.grown hg2 (fun e => by injection e with e; omega))
        have HBL := Lib.hid (HBL.out.grown hg2 HBL.out.size (fun k e => by cases e; omega))
        have HLF1 : Hid ((tellF (L) k (byt x (2 * k) + 1)).length = N) := by show _ = _; rw [length_tellF]; exact HLE.out
        clear hB2 hg2 c0 c1 c2 c3 x0 x1
        obtain ⟨c0, c1, c2, c3⟩ := HW.out.four
        obtain ⟨x0, x1, _, _⟩ := HX.out.two
        go_wp2_with fail
        go_roundw
        case rel => exact ⟨k + 1, by omega, by go_num, by rw [HSN.out, HS.out]; exact HBy.out, HW.out, HX.out, HZ.out, HBL.out⟩
        case measure => simp [intOf]; omega
      · -- 1 1
        have d1 : ((((byt x (2 * k) : Nat) : Int)) != 0) = true := by simp; exact q1
        have d2 : ((((byt x (2 * k + 1) : Nat) : Int)) != 0) = true := by simp; exact q2
        have HS : Hid (lowS x L k = tellF (tellF L k (byt x (2 * k) + 1)) k 1) := by show lowS x L k = _; rw [lowS, low1, low2, if_neg q1, if_neg q2]
        clear q1 q2
        go_wp2_with fail
        refine (tell_n B ⟨#[]⟩ g N N k (byt x (2 * k) + 1) (L) HLE.out _ (by have := HLE.out; omega) (by have := HLE.out; omega) HBy.out).mono ?_
        rintro e wt ⟨⟨v, rfl⟩, hB2, hg2⟩
        have HBy := Lib.hid hB2
        have HX := Lib.hid (HX.out.grown hg2 (fun e => by injection e with e; omega))
        have HW := Lib.hid (HW.out.grown hg2 (fun e => by injection e with e; omega))
        have HZ := Lib.hid (HZ.out.grown hg2 (fun e => by injection e with e; omega))
        have HBL := Lib.hid (HBL.out.grown hg2 HBL.out.size (fun k e => by cases e; omega))
        have HLF1 : Hid ((tellF (L) k (byt x (2 * k) + 1)).length = N) := by show _ = _; rw [length_tellF]; exact HLE.out
        clear hB2 hg2 c0 c1 c2 c3 x0 x1
        obtain ⟨c0, c1, c2, c3⟩ := HW.out.four
        obtain ⟨x0, x1, _, _⟩ := HX.out.two
        go_wp2_with fail
        refine (tell_n B ⟨#[]⟩ g N N k (1) (tellF L k (byt x (2 * k) + 1)) HLF1.out _ (by have := HLF1.out; omega) (by have := HLF1.out; omega) HBy.out).mono ?_
        rintro e wt ⟨⟨v, rfl⟩, hB2, hg2⟩
        have HBy := Lib.hid hB2
        have HX := Lib.hid (HX.out.grown hg2 (fun e => by injection e with e; omega))
        have HW := Lib.hid (HW.out.grown hg2 (fun e => by injection e with e; omega))
        have HZ := Lib.hid (HZ.out.grown hg2 (fun e => by injection e with e; omega))
        have HBL := Lib.hid (HBL.out.grown hg2 HBL.out.size (fun k e => by cases e; omega))
        have HLF2 : Hid ((tellF (tellF L k (byt x (2 * k) + 1)) k (1)).length = N) := by show _ = _; rw [length_tellF]; exact HLF1.out
        clear hB2 hg2 c0 c1 c2 c3 x0 x1
        obtain ⟨c0, c1, c2, c3⟩ := HW.out.four
        obtain ⟨x0, x1, _, _⟩ := HX.out.two
        go_wp2_with fail
        go_roundw
        case rel => exact ⟨k + 1, by omega, by go_num, by rw [HSN.out, HS.out]; exact HBy.out, HW.out, HX.out, HZ.out, HBL.out⟩
        case measure => simp [intOf]; omega
    · obtain rfl : k = N := by omega
      rw [← HLF.out] at hBy HLE
      have HBy := Lib.hid hBy
      have HZ := Lib.hid hZ
      have HBL := Lib.hid hBl
      have HBY2 : Hid (Bytes (lowerF B x)) := by
        show Bytes _
        have hk := HK.out
        rw [HC.out] at hk
        exact (Ranks.lw hk (by omega) (ranks_zero B _) _).bytes
      clear hBy hX hW hZ hBl hlen hs1 hs2
      generalize lowerF B x = L at *
      go_wp2_with fail
      refine (done_n B ⟨#[]⟩ g k k L HLE.out wr HBY2.out HBy.out).mono ?_
      rintro e w3 ⟨rfl, hb3⟩
      have hZ5 := HZ.out.later hb3
      obtain ⟨y0, y1, f0, f1⟩ := hZ5.two
      go_wp2_with fail
      refine bodyPost_ret (v := .tuple #[hV B L, .int .i64 0]) (by simp [results, Try.results25, go_sem, y0, y1]) rfl ⟨rfl, ?_⟩
      exact ((HBL.out.trans (hb3.mono HBL.out.size)).setCell (by show w.heap.size ≤ w.heap.size + 1; omega) _).setCell (by show w.heap.size ≤ w.heap.size + 1; omega) _
theorem lower_any (b : Int) (l : List Nat) (hL : Bytes l) (w : World) : Calls Try.prog 25 #[hV b l] w (HRes w (lowerH b l)) := by
  by_cases h : rightF b l = true
  · by_cases h3 : b = 3
    · subst h3
      rw [lowerH, if_neg (by simp)]
      exact lower_three l hL w h
    · rw [lowerH, if_pos ⟨h, h3⟩]
      obtain ⟨C, rfl, q1, q2, _⟩ := right_of h
      have := lower_good (C - 1) C l w (by omega) (by omega) h
      rw [show (((C - 1 : Nat)) : Int) = (C : Int) - 1 by omega] at this
      exact this
  · rw [lowerH, if_neg (fun e => h e.1)]
    exact lower_bad b l hL w (by simpa using h)
end Go.Proofs.Ytgbanhjjieagnaa

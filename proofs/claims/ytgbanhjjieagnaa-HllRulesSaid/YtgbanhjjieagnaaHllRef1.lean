/-
  The reference's Right, New, Add.
-/
import Derived.Test.YtgbanhjjieagnaaHllCount
import Derived.Test.YtgbanhjjieagnaaHllRPlace
namespace Go.Proofs.Ytgbanhjjieagnaa
open Go.RowKit
set_option linter.unusedVariables false
set_option linter.unusedSimpArgs false
set_option maxHeartbeats 1000000 in
theorem rright_good (B : Nat) (l : List Nat) (w : World) (h3 : 3 ≤ B) (h8 : B ≤ 8) (hl : l.length = 2 ^ B) (hL : Bytes l) :
    Calls Try.prog 22 #[.agg #[.int .i64 B, .string (bs l)]] w fun e w' => e = .returned (.bool (decide (∀ x ∈ l, x ≤ 65 - B))) ∧ Below w.heap.size w w' := by
  obtain ⟨N, hN, hs1, hs2, hN8, hN256⟩ := pow_shl h3 h8
  rw [hN] at hl
  have d1 : ((l.length : Int) != (N : Int)) = false := by simp; omega
  have H := Lib.hid (show bitsB (B : Int) = true by simp [bitsB]; omega)
  have HX : Hid (Blk (w.alloc (.cells #[.int .i64 B, .string (bs l)] 23)) w.heap.size 23 #[.int .i64 B, .string (bs l)]) := Blk.new _ _ _
  have HG : Hid (Below w.heap.size w (w.alloc (.cells #[.int .i64 B, .string (bs l)] 23))) := below_al (below_0 _) _
  have hsz := bs_size l
  have HL := Lib.hid hl
  have hl256 : l.length ≤ 256 := by omega
  clear hN hl
  go_enter Try.func22, Try.ntmps22
  go_wp2_with fail
  go_quiet ((go_at_call 36; exact Calls.quiet_of_same (risBits_yes H.out _)))
  have HX := Lib.hid (show Blk ((w.alloc (.cells #[.int .i64 B, .string (bs l)] 23)).drewN nq) w.heap.size 23 #[.int .i64 B, .string (bs l)] from HX.out)
  have HG := Lib.hid (below_drewN HG.out nq)
  go_wp2_with fail
  generalize (w.alloc (.cells #[.int .i64 B, .string (bs l)] 23)).drewN nq = V at *
  go_loopw [3] (fun i wr => ∃ k : Nat, k ≤ l.length ∧ i = .int .i64 k ∧ (∀ j, j < k → byt l j ≤ 65 - B) ∧ Blk wr w.heap.size 23 #[.int .i64 B, .string (bs l)] ∧ Below w.heap.size w wr) (fun i _ => l.length - (intOf i).toNat)
  case atStart => exact ⟨0, Nat.zero_le _, rfl, (fun j hj => by omega), HX.out, HG.out⟩
  case round =>
    obtain ⟨k, hk, rfl, hall, hX, hB⟩ := hrel
    obtain ⟨x0, x1, _, _⟩ := hX.two
    have HX := Lib.hid hX
    have HB := Lib.hid hB
    have HA := Lib.hid hall
    clear hX hB hall
    by_cases hlt : k < l.length
    · have ha : ∀ h : k < (bs l).size, ((bs l)[k]'h).toNat = byt l k := fun h => bs_at hL h
      have hv := byt_lt hL k
      have hk0 : (0 : Int) ≤ (k : Int) := by omega
      have hk1 : (k : Int) < (l.length : Int) := by omega
      by_cases h0 : byt l k ≤ 65 - B
      · have d0 : decide ((65 : Int) - (B : Int) < ((byt l k : Nat) : Int)) = false := by simp; omega
        have HK : Hid (∀ j, j < k + 1 → byt l j ≤ 65 - B) := fun j hj => by
          rcases Nat.lt_or_ge j k with h | h
          · exact HA.out j h
          · rw [show j = k by omega]; exact h0
        clear h0
        go_wp2_with fail
        go_quiet (fail)
        go_wp2_with fail
        go_roundw
        case rel => exact ⟨k + 1, by omega, by go_num, HK.out, HX.out, below_drewN HB.out _⟩
        case measure => simp [intOf]; omega
      · have d0 : decide ((65 : Int) - (B : Int) < ((byt l k : Nat) : Int)) = true := by simp; omega
        have HK : Hid (decide (∀ x ∈ l, x ≤ 65 - B) = false) := decide_eq_false (fun h => h0 (h _ (byt_mem hlt)))
        clear h0
        go_wp2_with fail
        go_quiet (fail)
        go_wp2_with fail
        go_ret
        exact ⟨by rw [HK.out]; rfl, below_drewN HB.out _⟩
    · obtain rfl : k = l.length := by omega
      go_wp2_with fail
      go_ret
      exact ⟨ret_bool (Eq.symm (decide_eq_true (fun x hx => by obtain ⟨p, hp, rfl⟩ := mem_byt hx; exact HA.out p hp))), HB.out⟩
theorem rright_any (b : Int) (l : List Nat) (hL : Bytes l) (w : World) :
    Calls Try.prog 22 #[.agg #[.int .i64 b, .string (bs l)]] w fun e w' => e = .returned (.bool (rightF b l)) ∧ Below w.heap.size w w' := by
  cases hb : bitsB b with
  | false => rw [show rightF b l = false by simp [rightF, hb]]; exact rright_bits b l w hb
  | true =>
    obtain ⟨B, rfl, h3, h8⟩ := bits_nat hb
    by_cases hl : l.length = 2 ^ B
    · rw [show rightF B l = decide (∀ x ∈ l, x ≤ 65 - B) by simp [rightF, hb, hl]]
      exact rright_good B l w h3 h8 hl hL
    · rw [show rightF B l = false by simp [rightF, hl]]
      exact rright_len B l w h3 h8 hl
theorem rnew_any (b : Int) (w : World) : Calls Try.prog 20 #[.int .i64 b] w (HRes w (ofH b [])) := by
  cases hs : bitsB b with
  | false =>
    have H := Lib.hid hs
    have HR : Hid (ofH b [] = badH) := by show ofH b [] = _; rw [ofH, if_neg (by simp [hs])]
    clear hs
    go_enter Try.func20, Try.ntmps20
    go_wp2_with fail
    refine (risBits_any b _).mono ?_
    rintro e w' ⟨rfl, rfl⟩
    rw [H.out]
    go_wp2_with fail
    exact bodyPost_ret (v := .tuple #[hV 0 [], .int .i64 70]) (by simp [results, Try.results20, go_sem]; rfl) rfl ⟨by rw [HR.out]; rfl, below_al (below_0 _) _⟩
  | true =>
    obtain ⟨B, rfl, b1, b2⟩ := bits_nat hs
    have HR : Hid (ofH B [] = ⟨B, List.replicate (2 ^ B) 0, 0⟩) := by show ofH B [] = _; rw [ofH, if_pos hs, Int.toNat_natCast]; rfl
    obtain ⟨i0, hi0, hz0, hz1, hz2⟩ := info_parts Try.infoU8
    obtain ⟨N, hN, hs1, hs2, hN8, hN256⟩ := pow_shl b1 b2
    have hmk : ∀ W, (Instr.makeSlice 46 (.int .i64 (N : Int)) (.int .i64 (N : Int))).run Try.prog W = .ok (.slice (some ⟨W.heap.size, 0, none⟩) N N) (W.alloc (.cells (madeCells (Value.int .u8 0).cells N) 5)) := fun W =>
      run_make_n (P := Try.prog) 46 5 i0 (.int .u8 0) Try.underlying46 hi0 hz0 hz1 .i64 .i64 N N (Nat.le_refl _) (by rw [hz2]; omega) (by omega) W
    have hcv : ∀ W : World, (convert 46 9 (.slice (some ⟨W.heap.size, 0, none⟩) N N)).run Try.prog (W.alloc (.cells (madeCells #[.int .u8 0] N) 5)) = .ok (.string (bs (List.replicate N 0))) (W.alloc (.cells (madeCells #[.int .u8 0] N) 5)) := fun W => by
      have hB : By (W.alloc (.cells (madeCells #[.int .u8 0] N) 5)) W.heap.size (List.replicate N 0) := by
        refine by_blank (t := 5) ?_
        rw [← made_u8]
        exact Blk.new _ _ _
      have := run_string_of (P := Try.prog) _ 46 9 5 W.heap.size N (List.replicate N 0) Try.underlying46 Try.underlying5 Try.underlying9 hB (fun x hx => by rw [List.eq_of_mem_replicate hx]; decide)
      rw [List.length_replicate] at this
      exact this
    have hcv := hcv (w.alloc (.cells #[.int .i64 0, .string ⟨#[]⟩] 23))
    rw [World.size_alloc] at hcv
    have H := Lib.hid hs
    have HN := Lib.hid hN
    clear hs hN
    go_enter Try.func20, Try.ntmps20
    go_wp2_with fail
    refine (risBits_any _ _).mono ?_
    rintro e w' ⟨rfl, rfl⟩
    rw [H.out]
    go_wp2_with fail
    refine bodyPost_ret (v := .tuple #[hV B (List.replicate N 0), .int .i64 0]) (by simp [results, Try.results20, go_sem]) rfl ⟨by rw [HR.out, HN.out], ?_⟩
    exact below_al (below_al (below_0 _) _) _
theorem placeF_good {B n : Nat} (h1 : 3 ≤ B) (h2 : B ≤ 8) : placeF B n = (((atF B n : Nat) : Int), ((rankF B n : Nat) : Int)) := by
  rw [placeF, if_pos (by simp [bitsB]; omega), Int.toNat_natCast]
set_option maxHeartbeats 1000000 in
theorem radd_any (b : Int) (l : List Nat) (hL : Bytes l) (n : Nat) (hn : n < 18446744073709551616) (w : World) :
    Calls Try.prog 16 #[hV b l, .int .u64 n] w (HRes w (addH b l n)) := by
  cases hs : rightF b l with
  | false =>
    have H := Lib.hid hs
    have HR : Hid (addH b l n = badH) := by show addH b l n = _; rw [addH, if_neg (by simp [hs])]
    clear hs
    go_enter Try.func16, Try.ntmps16
    go_wp2_with fail
    refine (rright_any b l hL _).mono ?_
    rintro e w1 ⟨rfl, hb⟩
    rw [H.out]
    have Z1 := Blk.new (w.alloc (.cells #[.int .i64 b, .string (bs l)] 23)) 23 #[.int .i64 0, .string ⟨#[]⟩]
    rw [World.size_alloc] at Z1
    have hZ := Z1.later hb
    have HB := Lib.hid (below_old (below_old hb))
    obtain ⟨y0, y1, f0, f1⟩ := hZ.two
    clear hb hZ Z1
    go_wp2_with fail
    refine bodyPost_ret (v := .tuple #[hV 0 [], .int .i64 70]) (by simp [results, Try.results16, go_sem, y0, y1, bs_nil]) rfl ⟨by rw [HR.out]; rfl, ?_⟩
    exact (HB.out.setCell (by show w.heap.size ≤ w.heap.size + 1; omega) _).setCell (by show w.heap.size ≤ w.heap.size + 1; omega) _
  | true =>
    obtain ⟨B, rfl, b1, b2, hl, hk⟩ := right_of hs
    have HR : Hid (addH B l n = ⟨B, addF B l n, 0⟩) := by show addH B l n = _; rw [addH, if_pos hs, Int.toNat_natCast]
    have H := Lib.hid hs
    have hat : atF B n < l.length := by rw [hl]; exact at_lt (by omega) hn
    have hl256 : l.length ≤ 256 := by rw [hl]; exact (pow_bd b1 b2).2
    have hrk := rank_bd b1 b2 n
    have hmx : max ((byt l (atF B n) : Nat) : Int) ((rankF B n : Nat) : Int) = ((max (byt l (atF B n)) (rankF B n) : Nat) : Int) := by omega
    have HBY : Hid (Bytes (addF B l n)) := (Ranks.add (l := l) hk b1 b2 n).bytes
    have HP : Hid (placeF B n = (((atF B n : Nat) : Int), ((rankF B n : Nat) : Int))) := placeF_good b1 b2
    have hv := byt_lt hL (atF B n)
    clear hs hl hk
    go_enter Try.func16, Try.ntmps16
    go_wp2_with fail
    refine (rright_any B l hL _).mono ?_
    rintro e w1 ⟨rfl, hb⟩
    rw [H.out]
    have Z1 := Blk.new (w.alloc (.cells #[.int .i64 B, .string (bs l)] 23)) 23 #[.int .i64 0, .string ⟨#[]⟩]
    rw [World.size_alloc] at Z1
    have HZ := Lib.hid (Z1.later hb)
    have HX := Lib.hid (((Blk.new w 23 #[.int .i64 B, .string (bs l)]).alloc (.cells #[.int .i64 0, .string ⟨#[]⟩] 23)).later hb)
    have HB := Lib.hid (below_old (below_old hb))
    obtain ⟨x0, x1, _, _⟩ := HX.out.two
    clear hb Z1
    go_wp2_with fail
    refine (rplace_any B n hn _).mono ?_
    rintro e w' ⟨rfl, rfl⟩
    rw [HP.out]
    obtain ⟨cap, w2, hcv, hBy, hb2, hz2⟩ := run_bytes_by (P := Try.prog) w1 9 46 5 l hL Try.underlying9 Try.underlying46 Try.underlying5
    have hcg := hBy.cell _ hat
    have hfg := hBy.free _ hat
    have HBy := Lib.hid hBy
    have zg := hBy.lt
    have HZ2 := Lib.hid (HZ.out.later hb2)
    have HX2 := Lib.hid (HX.out.later hb2)
    have HB2 := Lib.hid (HB.out.trans (hb2.mono HB.out.size))
    have zz := HZ.out.lt
    have zx := HX.out.lt
    have i1 : (0 : Int) ≤ ((atF B n : Nat) : Int) := by omega
    have i2 : ((atF B n : Nat) : Int) < (l.length : Int) := by omega
    have X3 := (HX2.out.far (p := ⟨w1.heap.size, atF B n, none⟩) (by show w.heap.size ≠ w1.heap.size; omega) (.int .u8 ((max (byt l (atF B n)) (rankF B n) : Nat) : Int)))
    obtain ⟨q0, q1, _, _⟩ := X3.two
    have Z3 := (HZ2.out.far (p := ⟨w1.heap.size, atF B n, none⟩) (by show w.heap.size + 1 ≠ w1.heap.size; omega) (.int .u8 ((max (byt l (atF B n)) (rankF B n) : Nat) : Int)))
    obtain ⟨y0, y1, f0, f1⟩ := Z3.two
    have hB3 : By (w2.setCell ⟨w1.heap.size, atF B n, none⟩ (.int .u8 ((max (byt l (atF B n)) (rankF B n) : Nat) : Int))) w1.heap.size (addF B l n) := hBy.set hat _
    have hcs := run_string_of (P := Try.prog) _ 46 9 5 w1.heap.size cap (addF B l n) Try.underlying46 Try.underlying5 Try.underlying9 hB3 HBY.out
    rw [length_addF] at hcs
    have HL2 := Lib.hid (HB2.out.setCell (p := ⟨w1.heap.size, atF B n, none⟩) (by show w.heap.size ≤ w1.heap.size; omega) (.int .u8 ((max (byt l (atF B n)) (rankF B n) : Nat) : Int)))
    clear hBy hb2 hz2 X3 Z3 hB3
    go_wp2_with fail
    refine bodyPost_ret (v := .tuple #[hV B (addF B l n), .int .i64 0]) (by simp [results, Try.results16, go_sem, y0, y1]) rfl ⟨by rw [HR.out], ?_⟩
    exact (HL2.out.setCell (by show w.heap.size ≤ w.heap.size + 1; omega) _).setCell (by show w.heap.size ≤ w.heap.size + 1; omega) _
end Go.Proofs.Ytgbanhjjieagnaa

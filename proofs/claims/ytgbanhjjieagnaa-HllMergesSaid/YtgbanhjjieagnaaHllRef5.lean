/-
  The reference's Count.
-/
import Derived.Test.YtgbanhjjieagnaaHllRef4
namespace Go.Proofs.Ytgbanhjjieagnaa
open Go.RowKit
set_option linter.unusedVariables false
set_option linter.unusedSimpArgs false
theorem rcount_bad (b : Int) (l : List Nat) (hL : Bytes l) (hl : l.length ≤ 65536) (w : World) (h : rightF b l = false) : Calls Try.prog 28 #[hV b l] w fun e w' => e = .returned (.int .u64 0) ∧ Below w.heap.size w w' := by
  have H := Lib.hid h
  have hsz := bs_size l
  have HX := Lib.hid (Blk.new w 23 #[.int .i64 b, .string (bs l)])
  have HB : Hid (Below w.heap.size w (w.alloc (.cells #[.int .i64 b, .string (bs l)] 23))) := below_al (below_0 _) _
  clear h
  go_enter Try.func28, Try.ntmps28
  go_wp2_with fail
  generalize w.alloc (.cells #[.int .i64 b, .string (bs l)] 23) = V at *
  go_loopw [3, 4, 5] (fun s t i wr => s = .int .u64 0 ∧ t = .bool false ∧ i = .int .i64 0 ∧ wr = V) (fun _ _ _ _ => 0)
  case atStart => exact ⟨rfl, rfl, rfl, rfl⟩
  case round =>
    obtain ⟨rfl, rfl, rfl, rfl⟩ := hrel
    obtain ⟨x0, x1, _, _⟩ := HX.out.two
    rcases Nat.eq_zero_or_pos l.length with h0 | h0
    · rw [h0] at hsz
      clear h0
      go_wp2_with fail
      go_ret
      exact ⟨rfl, HB.out⟩
    · go_wp2_with fail
      refine (rright_any b l hL _).mono ?_
      rintro e w1 ⟨rfl, hb⟩
      rw [H.out]
      have HB2 := Lib.hid (HB.out.trans (hb.mono HB.out.size))
      clear hb
      go_wp2_with fail
      go_ret
      exact ⟨rfl, HB2.out⟩
theorem someAt_range (l : List Nat) (k : Nat) : someAt l (List.range (k + 1)) = (someAt l (List.range k) || decide (0 < byt l k)) := by
  rw [List.range_succ, someAt_snoc]
  congr 1
  rw [Bool.eq_iff_iff]; simp; omega
theorem sumAt_range (l : List Nat) (k : Nat) : sumAt l (List.range (k + 1)) = sumAt l (List.range k) + wt (byt l k) := by rw [List.range_succ, sumAt_snoc]
theorem wt_add2 (su r : Nat) (h : su ≤ 1099511627776) : IntKind.u64.wrap ((su : Int) + IntKind.u64.wrap (2 ^ (32 - min 32 ((r : Nat) : Int)).toNat)) = ((su + wt r : Nat) : Int) := by
  have e : min (32 : Int) (r : Int) = min (r : Int) 32 := by omega
  rw [e]; exact wt_add su r h
set_option maxHeartbeats 1000000 in
theorem rcount_good (B : Nat) (l : List Nat) (w : World) (hr : rightF B l = true) : Calls Try.prog 28 #[hV B l] w fun e w' => e = .returned (.int .u64 ((cntF l (List.range l.length) : Nat) : Int)) ∧ Below w.heap.size w w' := by
  have HR := Lib.hid hr
  have hL := right_bytes hr
  obtain ⟨b1, b2, hl, hk⟩ := right_nat hr
  have hl8 : 8 ≤ l.length := by rw [hl]; exact (pow_bd b1 b2).1
  have hl256 : l.length ≤ 256 := by rw [hl]; exact (pow_bd b1 b2).2
  have hsz := bs_size l
  have HX := Lib.hid (Blk.new w 23 #[.int .i64 B, .string (bs l)])
  have HB : Hid (Below w.heap.size w (w.alloc (.cells #[.int .i64 B, .string (bs l)] 23))) := below_al (below_0 _) _
  clear hr hl hk
  go_enter Try.func28, Try.ntmps28
  go_wp2_with fail
  generalize w.alloc (.cells #[.int .i64 B, .string (bs l)] 23) = V at *
  go_loopw [3, 4, 5] (fun s t i wr => ∃ k : Nat, k ≤ l.length ∧ s = .int .u64 ((sumAt l (List.range k) : Nat) : Int) ∧ t = .bool (someAt l (List.range k)) ∧ i = .int .i64 k ∧ Blk wr w.heap.size 23 #[.int .i64 B, .string (bs l)] ∧ Below w.heap.size w wr) (fun _ _ i _ => l.length - (intOf i).toNat)
  case atStart => exact ⟨0, Nat.zero_le _, rfl, rfl, rfl, HX.out, HB.out⟩
  case round =>
    obtain ⟨k, hk, rfl, rfl, rfl, hX, hB⟩ := hrel
    have HX := Lib.hid hX
    have HB := Lib.hid hB
    obtain ⟨x0, x1, _, _⟩ := hX.two
    clear hX hB
    by_cases hlt : k < l.length
    · have ha : ∀ h : k < (bs l).size, ((bs l)[k]'h).toNat = byt l k := fun h => bs_at hL h
      have hv := byt_lt hL k
      have hsum := sumAt_bd l (List.range k)
      rw [List.length_range] at hsum
      have HSs := Lib.hid (someAt_range l k)
      have HUs := Lib.hid (sumAt_range l k)
      generalize someAt l (List.range k) = sm at *
      generalize sumAt l (List.range k) = su at *
      have HV : Hid (IntKind.u64.wrap ((su : Int) + IntKind.u64.wrap (2 ^ (32 - min 32 ((byt l k : Nat) : Int)).toNat)) = ((su + wt (byt l k) : Nat) : Int)) := wt_add2 su (byt l k) (by omega)
      have i1 : (0 : Int) ≤ (k : Int) := by omega
      have i2 : (k : Int) < (l.length : Int) := by omega
      go_wp2_with fail
      refine (rright_any B l hL _).mono ?_
      rintro e w1 ⟨rfl, hb⟩
      rw [HR.out]
      have HX2 := Lib.hid (HX.out.later hb)
      have HB2 := Lib.hid (HB.out.trans (hb.mono HB.out.size))
      clear hb x0 x1
      obtain ⟨x0, x1, _, _⟩ := HX2.out.two
      cases sm with
      | true =>
        go_wp2_with fail
        go_roundw
        case rel => exact ⟨k + 1, by omega, by rw [HUs.out, ← HV.out], by rw [HSs.out]; rfl, by go_num, HX2.out, HB2.out⟩
        case measure => simp [intOf]; omega
      | false =>
        go_wp2_with fail
        go_roundw
        case rel => exact ⟨k + 1, by omega, by rw [HUs.out, ← HV.out], by rw [HSs.out]; rfl, by go_num, HX2.out, HB2.out⟩
        case measure => simp [intOf]; omega
    · obtain rfl : k = l.length := by omega
      have hsum := sumAt_bd l (List.range l.length)
      rw [List.length_range] at hsum
      have HCN : Hid (cntF l (List.range l.length) = if someAt l (List.range l.length) = true then 7 * l.length * l.length * 4294967296 / (10 * sumAt l (List.range l.length)) else 0) := rfl
      have hq : ∃ q : Nat, 7 * l.length * l.length = q ∧ q ≤ 458752 := ⟨_, rfl, Nat.mul_le_mul (Nat.mul_le_mul_left 7 hl256) hl256⟩
      obtain ⟨q, hq1, hq2⟩ := hq
      have hq3 : IntKind.u64.wrap (7 * (l.length : Int) * (l.length : Int)) = (q : Int) := by
        rw [← hq1, IntKind.wrap_u64]
        have e : 7 * (l.length : Int) * (l.length : Int) = ((7 * l.length * l.length : Nat) : Int) := by simp
        rw [e, hq1]; omega
      have HQ := Lib.hid hq1
      obtain ⟨hs1, hs2⟩ := hsum
      clear hq1
      cases hsm : someAt l (List.range l.length) with
      | false =>
        rw [hsm] at HCN
        have HC : Hid (cntF l (List.range l.length) = 0) := by show cntF _ _ = 0; rw [HCN.out]; simp
        clear HCN hsm
        go_wp2_with fail
        go_ret
        exact ⟨by rw [HC.out]; rfl, HB.out⟩
      | true =>
        rw [hsm] at HCN
        have HC : Hid (((cntF l (List.range l.length) : Nat) : Int) = (q : Int) * 4294967296 / (10 * ((sumAt l (List.range l.length) : Nat) : Int))) := by show ((cntF _ _ : Nat) : Int) = _; rw [HCN.out, HQ.out]; simp
        clear HCN hsm
        generalize sumAt l (List.range l.length) = su at *
        go_wp2_with fail
        go_ret
        exact ⟨by rw [HC.out]; rfl, HB.out⟩
theorem rcount_any (b : Int) (l : List Nat) (hL : Bytes l) (hl : l.length ≤ 65536) (w : World) : Calls Try.prog 28 #[hV b l] w fun e w' => e = .returned (.int .u64 ((countF b l : Nat) : Int)) ∧ Below w.heap.size w w' := by
  by_cases h : rightF b l = true
  · rw [countF, if_pos h]
    obtain ⟨B, rfl, _⟩ := right_of h
    exact rcount_good B l w h
  · rw [countF, if_neg h]
    exact rcount_bad b l hL hl w (by simpa using h)
end Go.Proofs.Ytgbanhjjieagnaa

/-
  The reference's Of.
-/
import Derived.Test.YtgbanhjjieagnaaHllRef1
import Derived.Test.YtgbanhjjieagnaaHeldU
namespace Go.Proofs.Ytgbanhjjieagnaa
open Go.RowKit
set_option linter.unusedVariables false
set_option linter.unusedSimpArgs false
theorem addAll_take {B : Nat} {l : List Nat} {ns : List Int} {k : Nat} (hk : k < ns.length) : addAll B l (ns.take (k + 1)) = addF B (addAll B l (ns.take k)) (nth ns k).toNat := by
  rw [List.take_succ_eq_append_getElem hk, addAll_snoc]
  simp [nth, hk]
theorem right_addAll {B : Nat} (h3 : 3 ≤ B) (h8 : B ≤ 8) (ns : List Int) : rightF B (addAll B (List.replicate (2 ^ B) 0) ns) = true :=
  right_mk h3 h8 (by rw [length_addAll, List.length_replicate]) ((ranks_zero B _).addAll h3 h8 ns)
theorem rof_bad (b : Int) (A : Option Addr) (ns : List Int) (capn : Nat) (hn : ns.length ≤ 65536) (w : World) (hb : bitsB b = false) :
    Calls Try.prog 14 #[.int .i64 b, .slice A ns.length capn] w (HRes w badH) := by
  have HR : Hid (ofH b [] = badH) := by show ofH b [] = _; rw [ofH, if_neg (by simp [hb])]
  clear hb
  go_enter Try.func14, Try.ntmps14
  go_wp2_with fail
  refine (rnew_any b _).mono ?_
  rintro e w1 ⟨rfl, hb⟩
  rw [HR.out]
  have hZ := ((Blk.new w 23 #[.int .i64 0, .string ⟨#[]⟩]).later hb)
  have zz := hZ.lt
  have HZ := Lib.hid (hZ.alloc (.cells #[.int .i64 0, .string (bs [])] 23))
  have HB := Lib.hid (below_al (below_old hb) (.cells #[.int .i64 0, .string (bs [])] 23))
  have HX := Lib.hid (Blk.new w1 23 #[.int .i64 0, .string (bs [])])
  clear hb hZ
  unfold badH
  go_wp2_with fail
  go_loopw [7, 8] (fun e i wr => e = .int .i64 70 ∧ i = .int .i64 0 ∧ wr = w1.alloc (.cells #[.int .i64 0, .string (bs [])] 23)) (fun _ _ _ => 0)
  case atStart => exact ⟨rfl, rfl, rfl⟩
  case round =>
    obtain ⟨rfl, rfl, rfl⟩ := hrel
    generalize w1.alloc (.cells #[.int .i64 0, .string (bs [])] 23) = V at *
    obtain ⟨y0, y1, f0, f1⟩ := HZ.out.two
    obtain ⟨x0, x1, _, _⟩ := HX.out.two
    rcases Nat.eq_zero_or_pos ns.length with h0 | h0
    · have h0' : (ns.length : Int) = 0 := by omega
      clear h0
      go_wp2_with fail
      refine bodyPost_ret (v := .tuple #[hV 0 [], .int .i64 70]) (by simp [results, Try.results14, go_sem, y0, y1, bs_nil]) rfl ⟨rfl, ?_⟩
      exact (HB.out.setCell (Nat.le_refl _) _).setCell (Nat.le_refl _) _
    · have hp : (0 : Int) < (ns.length : Int) := by omega
      go_wp2_with fail
      refine bodyPost_ret (v := .tuple #[hV 0 [], .int .i64 70]) (by simp [results, Try.results14, go_sem, y0, y1, bs_nil]) rfl ⟨rfl, ?_⟩
      exact (HB.out.setCell (Nat.le_refl _) _).setCell (Nat.le_refl _) _
/-- Between two rounds of the reference's Of. -/
def ROf (w : World) (xb B : Nat) (L : List Nat) (wr : World) : Prop :=
  Blk wr xb 23 #[.int .i64 B, .string (bs L)] ∧ Blk wr w.heap.size 23 #[.int .i64 0, .string ⟨#[]⟩] ∧ Below w.heap.size w wr
set_option maxHeartbeats 1000000 in
theorem rof_good (B : Nat) (A : Option Addr) (ns : List Int) (capn : Nat) (hU : Us ns) (hn : ns.length ≤ 65536) (w : World) (hS : Sl w w.heap.size A ns) (h3 : 3 ≤ B) (h8 : B ≤ 8) :
    Calls Try.prog 14 #[.int .i64 B, .slice A ns.length capn] w (HRes w ⟨B, addAll B (List.replicate (2 ^ B) 0) ns, 0⟩) := by
  have HR : Hid (ofH B [] = ⟨B, List.replicate (2 ^ B) 0, 0⟩) := by show ofH B [] = _; rw [ofH, if_pos (by simp [bitsB]; omega), Int.toNat_natCast]; rfl
  have HS := Lib.hid hS
  clear hS
  go_enter Try.func14, Try.ntmps14
  go_wp2_with fail
  refine (rnew_any B _).mono ?_
  rintro e w1 ⟨rfl, hb⟩
  rw [HR.out]
  have hZ := ((Blk.new w 23 #[.int .i64 0, .string ⟨#[]⟩]).later hb)
  have zz := hZ.lt
  have HI : Hid (ROf w w1.heap.size B (addAll B (List.replicate (2 ^ B) 0) (ns.take 0)) (w1.alloc (.cells #[.int .i64 B, .string (bs (List.replicate (2 ^ B) 0))] 23))) := ⟨Blk.new _ _ _, hZ.alloc _, below_al (below_old hb) _⟩
  clear hb hZ
  go_wp2_with fail
  go_loopw [7, 8] (fun e i wr => e = .int .i64 0 ∧ ∃ k : Nat, k ≤ ns.length ∧ i = .int .i64 k ∧ ROf w w1.heap.size B (addAll B (List.replicate (2 ^ B) 0) (ns.take k)) wr) (fun _ i _ => ns.length - (intOf i).toNat)
  case atStart => exact ⟨rfl, 0, Nat.zero_le _, rfl, HI.out⟩
  case round =>
    obtain ⟨rfl, k, hk, rfl, hX, hZ, hB⟩ := hrel
    have HX := Lib.hid hX
    have HZ := Lib.hid hZ
    have HB := Lib.hid hB
    have zx := hX.lt
    clear hX hZ hB
    by_cases hlt : k < ns.length
    · have hL : Bytes (addAll B (List.replicate (2 ^ B) 0) (ns.take k)) := ((ranks_zero B _).addAll h3 h8 _).bytes
      have HT := Lib.hid (addAll_take (B := B) (l := List.replicate (2 ^ B) 0) hlt)
      have HRt := Lib.hid (right_addAll h3 h8 (ns.take k))
      generalize addAll B (List.replicate (2 ^ B) 0) (ns.take k) = L at *
      have HADD : Hid (addH B L (nth ns k).toNat = ⟨B, addF B L (nth ns k).toNat, 0⟩) := by show addH B L _ = _; rw [addH, if_pos HRt.out, Int.toNat_natCast]
      obtain ⟨x0, x1, f0, f1⟩ := HX.out.two
      obtain ⟨b1, off, rfl, hb1, hcell⟩ := HS.out.at_ (by omega)
      have hux := nth_U hU k
      obtain ⟨n, hn'⟩ : ∃ n : Nat, nth ns k = n := ⟨(nth ns k).toNat, by have := hux.1; omega⟩
      have hn64 : n < 18446744073709551616 := by have := hux.2; omega
      have hck : wr.cell? ⟨b1, off + k, none⟩ = some (.int .u64 (n : Int)) := (HB.out.cell (p := ⟨b1, off + k, none⟩) hb1).trans (by rw [← hn']; exact hcell k hlt)
      rw [hn', Int.toNat_natCast] at HT HADD
      clear hux hcell hn'
      have i1 : (0 : Int) ≤ (k : Int) := by omega
      have i2 : (k : Int) < (ns.length : Int) := by omega
      go_wp2_with fail
      refine wp_region_U (S := fun w' => w'.cell? ⟨w1.heap.size, 0, none⟩ = some (.int .i64 B) ∧ w'.cell? ⟨w1.heap.size, 1, none⟩ = some (.string (bs L)) ∧ w'.cell? ⟨b1, off + k, none⟩ = some (.int .u64 (n : Int))) (s := 9) (by kernel_rfl) ?_
      refine wpAnyU_take (i := 0) (v := (.agg #[.int .i64 B, .string (bs L)])) rfl (by kernel_rfl) (by kernel_rfl) (by kernel_rfl) (by kernel_rfl) (by decide) (by kernel_rfl) (fun _ _ _ h => h) (Or.inl ⟨by rfl, ?_⟩) ⟨x0, x1, hck⟩ ?_
      · (intro w hSw; (try dsimp only at hSw); (try obtain ⟨s0, s1, s2⟩ := hSw); go_simp)
      simp only [Act.put, List.setIfInBounds_toArray, List.set_cons_zero, List.set_cons_succ]
      refine wpAnyU_take (i := 1) (v := (.slice (some ⟨b1, off, none⟩) ns.length capn)) rfl (by kernel_rfl) (by kernel_rfl) (by kernel_rfl) (by kernel_rfl) (by decide) (by kernel_rfl) (fun _ _ _ h => h) (Or.inl ⟨by rfl, ?_⟩) ⟨x0, x1, hck⟩ ?_
      · (intro w hSw; (try dsimp only at hSw); (try obtain ⟨s0, s1, s2⟩ := hSw); go_simp)
      simp only [Act.put, List.setIfInBounds_toArray, List.set_cons_zero, List.set_cons_succ]
      refine wpAnyU_take (i := 2) (v := (.int .i64 (k : Int))) rfl (by kernel_rfl) (by kernel_rfl) (by kernel_rfl) (by kernel_rfl) (by decide) (by kernel_rfl) (fun _ _ _ h => h) (Or.inl ⟨by rfl, ?_⟩) ⟨x0, x1, hck⟩ ?_
      · (intro w hSw; (try dsimp only at hSw); (try obtain ⟨s0, s1, s2⟩ := hSw); go_simp)
      simp only [Act.put, List.setIfInBounds_toArray, List.set_cons_zero, List.set_cons_succ]
      refine wpAnyU_take (i := 3) (v := (.pointer (some ⟨b1, off + k, none⟩))) rfl (by kernel_rfl) (by kernel_rfl) (by kernel_rfl) (by kernel_rfl) (by decide) (by kernel_rfl) (fun _ _ _ h => h) (Or.inl ⟨by rfl, ?_⟩) ⟨x0, x1, hck⟩ ?_
      · (intro w hSw; (try dsimp only at hSw); (try obtain ⟨s0, s1, s2⟩ := hSw); go_simp)
      simp only [Act.put, List.setIfInBounds_toArray, List.set_cons_zero, List.set_cons_succ]
      refine wpAnyU_take (i := 4) (v := (.int .u64 (n : Int))) rfl (by kernel_rfl) (by kernel_rfl) (by kernel_rfl) (by kernel_rfl) (by decide) (by kernel_rfl) (fun _ _ _ h => h) (Or.inl ⟨by rfl, ?_⟩) ⟨x0, x1, hck⟩ ?_
      · (intro w hSw; (try dsimp only at hSw); (try obtain ⟨s0, s1, s2⟩ := hSw); go_simp)
      simp only [Act.put, List.setIfInBounds_toArray, List.set_cons_zero, List.set_cons_succ]
      refine wpAnyU_one (i := 5) (by kernel_rfl) rfl (fun K hK => ?_)
      go_simp
      refine (radd_any B L hL n hn64 _).mono ?_
      rintro e w2 ⟨rfl, hb2⟩
      rw [HADD.out]
      have HX2 := Lib.hid ((show Blk wr.drew _ _ _ from HX.out).later hb2)
      have HZ2 := Lib.hid ((show Blk wr.drew _ _ _ from HZ.out).later hb2)
      have HB2 := Lib.hid (HB.out.drew.trans (hb2.mono HB.out.size))
      have hck2 := (hb2.cell (p := ⟨b1, off + k, none⟩) (Nat.lt_of_lt_of_le hb1 HB.out.size)).trans hck
      clear x0 x1 f0 f1 hck
      obtain ⟨x0, x1, f0, f1⟩ := HX2.out.two
      have zz2 := HZ2.out.lt
      have zx2 := HX2.out.lt
      refine hK.out _ _ (fun _ => ⟨x0, x1, hck2⟩) ?_
      clear hK K
      try simp only [Act.put, List.setIfInBounds_toArray, List.set_cons_zero, List.set_cons_succ]
      refine wpAnyU_take0 (i := 6) (v := (.tuple #[hV B (addF B L n), .int .i64 0])) rfl (by kernel_rfl) (by kernel_rfl) (by kernel_rfl) (by decide) (fun _ _ _ h => h) (Or.inl ⟨by rfl, ?_⟩) (fun _ => ⟨x0, x1, hck2⟩) ?_
      · (intro w hSw; go_simp)
      simp only [Act.put, List.setIfInBounds_toArray, List.set_cons_zero, List.set_cons_succ]
      refine wpAnyU_take0 (i := 7) (v := (hV B (addF B L n))) rfl (by kernel_rfl) (by kernel_rfl) (by kernel_rfl) (by decide) (fun _ _ _ h => h) (Or.inl ⟨by rfl, ?_⟩) (fun _ => ⟨x0, x1, hck2⟩) ?_
      · (intro w hSw; go_simp)
      simp only [Act.put, List.setIfInBounds_toArray, List.set_cons_zero, List.set_cons_succ]
      refine wpAnyU_take0 (i := 8) (v := (.int .i64 0)) rfl (by kernel_rfl) (by kernel_rfl) (by kernel_rfl) (by decide) (fun _ _ _ h => h) (Or.inl ⟨by rfl, ?_⟩) (fun _ => ⟨x0, x1, hck2⟩) ?_
      · (intro w hSw; go_simp)
      simp only [Act.put, List.setIfInBounds_toArray, List.set_cons_zero, List.set_cons_succ]
      refine wpAnyU_one (i := 9) (by kernel_rfl) rfl (fun K hK => ?_)
      go_simp
      refine hK.out _ _ (fun h => by cases h) ?_
      clear hK K
      try simp only [Act.put, List.setIfInBounds_toArray, List.set_cons_zero, List.set_cons_succ]
      refine wpAnyU_take0 (i := 10) (v := (.int .i64 0)) rfl (by kernel_rfl) (by kernel_rfl) (by kernel_rfl) (by decide) (fun _ _ _ h => h) (Or.inl ⟨by rfl, ?_⟩) (fun h => by cases h) ?_
      · (intro w hSw; go_simp)
      simp only [Act.put, List.setIfInBounds_toArray, List.set_cons_zero, List.set_cons_succ]
      refine wpAnyU_done (by kernel_rfl) ?_ _
      have HI2 : Hid (ROf w w1.heap.size B (addAll B (List.replicate (2 ^ B) 0) (ns.take (k + 1))) ((w2.setCell ⟨w1.heap.size, 0, none⟩ (.int .i64 B)).setCell ⟨w1.heap.size, 1, none⟩ (.string (bs (addF B L n))))) := by
        rw [HT.out]
        exact ⟨(HX2.out.set_ 0 _).set_ 1 _, (HZ2.out.far (by show w.heap.size ≠ w1.heap.size; omega) _).far (by show w.heap.size ≠ w1.heap.size; omega) _, (HB2.out.setCell (by show w.heap.size ≤ w1.heap.size; omega) _).setCell (by show w.heap.size ≤ w1.heap.size; omega) _⟩
      go_wp2_with fail
      go_roundw
      case rel => exact ⟨rfl, k + 1, by omega, by go_num, HI2.out⟩
      case measure => simp [intOf]; omega
    · obtain rfl : k = ns.length := by omega
      rw [List.take_length] at HX
      have zz3 := HZ.out.lt
      obtain ⟨x0, x1, _, _⟩ := HX.out.two
      obtain ⟨y0, y1, f0, f1⟩ := HZ.out.two
      generalize addAll B (List.replicate (2 ^ B) 0) ns = L at *
      go_wp2_with fail
      refine bodyPost_ret (v := .tuple #[hV B L, .int .i64 0]) (by simp [results, Try.results14, go_sem, y0, y1]) rfl ⟨rfl, ?_⟩
      exact (HB.out.setCell (Nat.le_refl _) _).setCell (Nat.le_refl _) _
theorem rof_any (b : Int) (A : Option Addr) (ns : List Int) (capn : Nat) (hU : Us ns) (hn : ns.length ≤ 65536) (w : World) (hS : Sl w w.heap.size A ns) :
    Calls Try.prog 14 #[.int .i64 b, .slice A ns.length capn] w (HRes w (ofH b ns)) := by
  cases hb : bitsB b with
  | false => rw [ofH, if_neg (by simp [hb])]; exact rof_bad b A ns capn hn w hb
  | true =>
    rw [ofH, if_pos hb]
    obtain ⟨B, rfl, h3, h8⟩ := bits_nat hb
    rw [Int.toNat_natCast]
    exact rof_good B A ns capn hU hn w hS h3 h8
end Go.Proofs.Ytgbanhjjieagnaa

/-
  Registers in plain words, place by place: what numbers make, merging, lowering, counting.
-/
import Derived.Test.YtgbanhjjieagnaaHllRef4
namespace Go.Proofs.Ytgbanhjjieagnaa
open Go.RowKit
/-- The greatest rank that the numbers tell place p. -/
def top (B : Nat) : List Int → Nat → Nat
  | [], _ => 0
  | n :: ns, p => max (if atF B n.toNat = p then rankF B n.toNat else 0) (top B ns p)
def regs (B : Nat) (ns : List Int) : List Nat := addAll B (List.replicate (2 ^ B) 0) ns
theorem length_regs (B : Nat) (ns : List Int) : (regs B ns).length = 2 ^ B := by rw [regs, length_addAll, List.length_replicate]
theorem byt_tell {l : List Nat} {p r i : Nat} (hi : i < l.length) : byt (tellF l p r) i = if i = p then max (byt l i) r else byt l i := by
  unfold tellF
  by_cases h : i = p
  · subst h
    rw [if_pos rfl, byt_set hi, if_pos rfl]
  · rw [if_neg h]
    exact byt_tell_ne h
theorem byt_addF {B : Nat} {l : List Nat} {n i : Nat} (hi : i < l.length) : byt (addF B l n) i = max (byt l i) (if atF B n = i then rankF B n else 0) := by
  unfold addF
  rw [byt_tell hi]
  by_cases h : i = atF B n
  · rw [if_pos h, if_pos h.symm]
  · rw [if_neg h, if_neg (fun e => h e.symm)]; omega
theorem byt_addAll {B : Nat} : ∀ {ns : List Int} {l : List Nat} {i : Nat}, i < l.length → byt (addAll B l ns) i = max (byt l i) (top B ns i)
  | [], l, i, _ => by show byt l i = max (byt l i) 0; omega
  | n :: ns, l, i, h => by
    show byt (addAll B (addF B l n.toNat) ns) i = _
    rw [byt_addAll (by rw [length_addF]; exact h), byt_addF h]
    show _ = max (byt l i) (max _ _)
    omega
theorem byt_regs {B : Nat} {ns : List Int} {i : Nat} (h : i < 2 ^ B) : byt (regs B ns) i = top B ns i := by
  rw [regs, byt_addAll (by rw [List.length_replicate]; exact h), byt_zero]; omega
theorem top_append (B : Nat) (ms ns : List Int) (p : Nat) : top B (ms ++ ns) p = max (top B ms p) (top B ns p) := by
  induction ms with
  | nil => show top B ns p = max 0 _; omega
  | cons m ms ih => show max _ (top B (ms ++ ns) p) = max (max _ _) _; rw [ih]; omega
theorem regs_ext {B : Nat} {l : List Nat} {ns : List Int} (hl : l.length = 2 ^ B) (h : ∀ i, i < 2 ^ B → byt l i = top B ns i) : l = regs B ns :=
  bytes_ext (by rw [hl, length_regs]) (fun i hi => by rw [hl] at hi; rw [h i hi, byt_regs hi])
/-! ### Merging -/
theorem byt_mrg {l m : List Nat} : ∀ {k i : Nat}, i < l.length → byt (mrg l m (List.range k)) i = if i < k then max (byt l i) (byt m i) else byt l i
  | 0, i, _ => by rw [if_neg (by omega)]; rfl
  | k + 1, i, h => by
    rw [mrg_range, byt_tell (by rw [length_mrg]; exact h), byt_mrg h]
    by_cases h1 : i = k
    · subst h1; rw [if_pos rfl, if_neg (by omega), if_pos (by omega)]
    · rw [if_neg h1]
      by_cases h2 : i < k
      · rw [if_pos h2, if_pos (by omega)]
      · rw [if_neg h2, if_neg (by omega)]
theorem length_mergeF (l m : List Nat) : (mergeF l m).length = l.length := length_mrg _ _ _
theorem byt_mergeF {l m : List Nat} {i : Nat} (h : i < l.length) (hm : i < m.length) : byt (mergeF l m) i = max (byt l i) (byt m i) := by
  rw [mergeF, byt_mrg h, if_pos hm]
theorem merge_regs (B : Nat) (ms ns : List Int) : mergeF (regs B ms) (regs B ns) = regs B (ms ++ ns) :=
  regs_ext (by rw [length_mergeF, length_regs]) (fun i hi => by
    rw [byt_mergeF (by rw [length_regs]; exact hi) (by rw [length_regs]; exact hi), byt_regs hi, byt_regs hi, top_append])
theorem regs_of_top {B : Nat} {ms ns : List Int} (h : ∀ i, top B ms i = top B ns i) : regs B ms = regs B ns :=
  regs_ext (length_regs _ _) (fun i hi => by rw [byt_regs hi, h])
theorem regs_comm (B : Nat) (ms ns : List Int) : regs B (ms ++ ns) = regs B (ns ++ ms) := regs_of_top (fun i => by rw [top_append, top_append]; omega)
theorem regs_self (B : Nat) (ms : List Int) : regs B (ms ++ ms) = regs B ms := regs_of_top (fun i => by rw [top_append]; omega)
/-! ### Lowering -/
def lowv (a b : Nat) : Nat := max (if a = 0 then 0 else a + 1) (if b = 0 then 0 else 1)
theorem lowv_max (a b c d : Nat) : lowv (max a c) (max b d) = max (lowv a b) (lowv c d) := by
  unfold lowv
  by_cases h1 : a = 0 <;> by_cases h2 : c = 0 <;> by_cases h3 : b = 0 <;> by_cases h4 : d = 0 <;> simp [h1, h2, h3, h4] <;> omega
theorem byt_lowS {x l : List Nat} {i : Nat} (hi : i < l.length) : byt (lowS x l i) i = max (byt l i) (lowv (byt x (2 * i)) (byt x (2 * i + 1))) := by
  have h1 : byt (low1 x l i) i = max (byt l i) (if byt x (2 * i) = 0 then 0 else byt x (2 * i) + 1) := by
    unfold low1
    by_cases h : byt x (2 * i) = 0
    · rw [if_pos h, if_pos h]; omega
    · rw [if_neg h, if_neg h, byt_tell hi, if_pos rfl]
  unfold lowS low2 lowv
  by_cases h : byt x (2 * i + 1) = 0
  · rw [if_pos h, if_pos h, h1]; omega
  · rw [if_neg h, if_neg h, byt_tell (by rw [length_low1]; exact hi), if_pos rfl, h1]; omega
theorem byt_lw {x l : List Nat} : ∀ {k i : Nat}, i < l.length → byt (lw x l (List.range k)) i = if i < k then max (byt l i) (lowv (byt x (2 * i)) (byt x (2 * i + 1))) else byt l i
  | 0, i, _ => by rw [if_neg (by omega)]; rfl
  | k + 1, i, h => by
    rw [lw_range]
    by_cases h1 : i = k
    · subst h1
      rw [byt_lowS (by rw [length_lw]; exact h), byt_lw h, if_neg (by omega), if_pos (by omega)]
    · rw [byt_lowS_ne h1, byt_lw h]
      by_cases h2 : i < k
      · rw [if_pos h2, if_pos (by omega)]
      · rw [if_neg h2, if_neg (by omega)]
theorem length_lowerF (B : Nat) (x : List Nat) : (lowerF B x).length = 2 ^ B := by rw [lowerF, length_lw, List.length_replicate]
theorem byt_lowerF {B : Nat} {x : List Nat} {i : Nat} (h : i < 2 ^ B) : byt (lowerF B x) i = lowv (byt x (2 * i)) (byt x (2 * i + 1)) := by
  rw [lowerF, byt_lw (by rw [List.length_replicate]; exact h), if_pos h, byt_zero]; omega
theorem low_one {B n p : Nat} (hB : 4 ≤ B) (hB8 : B ≤ 8) : lowv (if atF B n = 2 * p then rankF B n else 0) (if atF B n = 2 * p + 1 then rankF B n else 0) = if atF (B - 1) n = p then rankF (B - 1) n else 0 := by
  have h1 := at_less (B := B) (n := n) (by omega) (by omega)
  have h2 := rank_less (B := B) (n := n) hB hB8
  have h3 := rank_bd (B := B) (by omega) hB8 n
  rw [h1, h2]
  generalize atF B n = a at *
  generalize rankF B n = r at *
  unfold lowv
  by_cases e1 : a = 2 * p
  · rw [if_pos e1, if_neg (show ¬ a = 2 * p + 1 by omega), if_pos (show a / 2 = p by omega), if_pos (show a % 2 = 0 by omega), if_neg (show ¬ r = 0 by omega), if_pos rfl]; omega
  · by_cases e2 : a = 2 * p + 1
    · rw [if_neg e1, if_pos e2, if_pos (show a / 2 = p by omega), if_neg (show ¬ a % 2 = 0 by omega), if_pos rfl, if_neg (show ¬ r = 0 by omega)]; omega
    · rw [if_neg e1, if_neg e2, if_neg (show ¬ a / 2 = p by omega)]; rfl
theorem top_less {B : Nat} (hB : 4 ≤ B) (hB8 : B ≤ 8) (ns : List Int) (p : Nat) : lowv (top B ns (2 * p)) (top B ns (2 * p + 1)) = top (B - 1) ns p := by
  induction ns with
  | nil => rfl
  | cons n ns ih =>
    show lowv (max _ _) (max _ _) = max _ _
    rw [lowv_max, ih, low_one hB hB8]
theorem lower_regs {B : Nat} (hB : 4 ≤ B) (hB8 : B ≤ 8) (ns : List Int) : lowerF (B - 1) (regs B ns) = regs (B - 1) ns :=
  regs_ext (length_lowerF _ _) (fun i hi => by
    have e : 2 * 2 ^ (B - 1) = 2 ^ B := by
      have : B = (B - 1) + 1 := by omega
      rw [this, Nat.pow_succ]; simp; omega
    rw [byt_lowerF hi, byt_regs (by omega), byt_regs (by omega), top_less hB hB8])
/-! ### One more number -/
theorem top_mem {B : Nat} {ns : List Int} {n : Int} (h : n ∈ ns) : rankF B n.toNat ≤ top B ns (atF B n.toNat) := by
  induction ns with
  | nil => cases h
  | cons m ns ih =>
    show _ ≤ max _ _
    rcases List.mem_cons.1 h with rfl | h
    · rw [if_pos rfl]; omega
    · have := ih h; omega
theorem add_regs (B : Nat) (ns : List Int) (n : Int) : addF B (regs B ns) n.toNat = regs B (ns ++ [n]) := by rw [regs, regs, addAll_snoc]
theorem regs_once {B : Nat} {ns : List Int} {n : Int} (h : n ∈ ns) : regs B (ns ++ [n]) = regs B ns := regs_of_top (fun i => by
  rw [top_append]
  show max _ (max _ 0) = _
  by_cases e : atF B n.toNat = i
  · subst e
    rw [if_pos rfl]
    have := top_mem (B := B) h
    omega
  · rw [if_neg e]; omega)
/-! ### Counting -/
theorem wt_anti {r s : Nat} (h : r ≤ s) : wt s ≤ wt r := Nat.pow_le_pow_right (by decide) (by omega)
theorem sumAt_anti {l m : List Nat} {ps : List Nat} (h : ∀ p ∈ ps, byt l p ≤ byt m p) : sumAt m ps ≤ sumAt l ps := by
  induction ps with
  | nil => exact Nat.le_refl _
  | cons p ps ih =>
    have h1 := wt_anti (h p (List.mem_cons_self ..))
    have h2 := ih (fun q hq => h q (List.mem_cons_of_mem _ hq))
    simp only [sumAt, List.map_cons, List.sum_cons] at h2 ⊢
    omega
theorem some_of {l : List Nat} {ps : List Nat} : someAt l ps = true ↔ ∃ p ∈ ps, byt l p ≠ 0 := by simp [someAt]
theorem count_grows {l m : List Nat} (hl : l.length = m.length) (h0 : 0 < l.length) (h : ∀ p, p < l.length → byt l p ≤ byt m p) : cntF l (List.range l.length) ≤ cntF m (List.range m.length) := by
  unfold cntF
  by_cases h1 : someAt l (List.range l.length) = true
  · have h2 : someAt m (List.range m.length) = true := by
      obtain ⟨p, hp, hne⟩ := some_of.1 h1
      have := h p (List.mem_range.1 hp)
      exact some_of.2 ⟨p, by rw [← hl]; exact hp, by omega⟩
    rw [if_pos h1, if_pos h2, ← hl]
    have h3 := sumAt_anti (l := l) (m := m) (ps := List.range l.length) (fun p hp => h p (List.mem_range.1 hp))
    have h4 := (sumAt_bd m (List.range l.length)).1
    rw [List.length_range] at h4
    exact Nat.div_le_div_left (Nat.mul_le_mul_left 10 h3) (by omega)
  · rw [if_neg h1]; exact Nat.zero_le _
theorem count_pos {l : List Nat} (hl : 8 ≤ l.length) {p : Nat} (hp : p < l.length) (h : byt l p ≠ 0) : 0 < cntF l (List.range l.length) := by
  unfold cntF
  rw [if_pos (some_of.2 ⟨p, List.mem_range.2 hp, h⟩)]
  have h4 := sumAt_bd l (List.range l.length)
  rw [List.length_range] at h4
  refine Nat.div_pos ?_ (by omega)
  have h5 : 10 * sumAt l (List.range l.length) ≤ 10 * (l.length * 4294967296) := Nat.mul_le_mul_left 10 h4.2
  have h6 : 10 * (l.length * 4294967296) ≤ 7 * l.length * l.length * 4294967296 := by
    have : 10 * l.length ≤ 7 * l.length * l.length := by
      have := Nat.mul_le_mul_right l.length (show 10 ≤ 7 * l.length by omega)
      exact this
    have := Nat.mul_le_mul_right 4294967296 this
    rw [← Nat.mul_assoc]; exact this
  exact Nat.le_trans h5 h6
theorem count_zero (n : Nat) : cntF (List.replicate n 0) (List.range (List.replicate n 0).length) = 0 := by
  unfold cntF
  rw [if_neg]
  intro h
  obtain ⟨p, _, hp⟩ := some_of.1 h
  exact hp (byt_zero n p)
/-! ### The answers -/
theorem right_regs {B : Nat} (h3 : 3 ≤ B) (h8 : B ≤ 8) (ns : List Int) : rightF B (regs B ns) = true := right_addAll h3 h8 ns
theorem of_regs {B : Nat} (h3 : 3 ≤ B) (h8 : B ≤ 8) (ns : List Int) : ofH B ns = ⟨B, regs B ns, 0⟩ := by
  rw [ofH, if_pos (by simp [bitsB]; omega), Int.toNat_natCast]; rfl
theorem of_bad {b : Int} (h : bitsB b = false) (ns : List Int) : ofH b ns = ⟨0, [], 70⟩ := by rw [ofH, if_neg (by simp [h])]; rfl
theorem mergeH_regs {B : Nat} (h3 : 3 ≤ B) (h8 : B ≤ 8) (ms ns : List Int) : mergeH B (regs B ms) B (regs B ns) = ⟨B, regs B (ms ++ ns), 0⟩ := by
  rw [mergeH, if_pos ⟨right_regs h3 h8 ms, right_regs h3 h8 ns, rfl⟩, merge_regs]
theorem lowerH_regs {B : Nat} (h4 : 4 ≤ B) (h8 : B ≤ 8) (ns : List Int) : lowerH B (regs B ns) = ⟨((B - 1 : Nat) : Int), regs (B - 1) ns, 0⟩ := by
  rw [lowerH, if_pos ⟨right_regs (by omega) h8 ns, by omega⟩, Int.toNat_natCast, lower_regs h4 h8, show ((B : Int) - 1) = ((B - 1 : Nat) : Int) by omega]
theorem addH_regs {B : Nat} (h3 : 3 ≤ B) (h8 : B ≤ 8) (ns : List Int) (n : Int) : addH B (regs B ns) n.toNat = ⟨B, regs B (ns ++ [n]), 0⟩ := by
  rw [addH, if_pos (right_regs h3 h8 ns), Int.toNat_natCast, add_regs]
theorem countF_regs {B : Nat} (h3 : 3 ≤ B) (h8 : B ≤ 8) (ns : List Int) : countF B (regs B ns) = cntF (regs B ns) (List.range (regs B ns).length) := by
  rw [countF, if_pos (right_regs h3 h8 ns)]
theorem lowerH_regs2 {B C : Nat} (h3 : 3 ≤ C) (h8 : B ≤ 8) (hC : B = C + 1) (ns : List Int) : lowerH B (regs B ns) = ⟨(C : Int), regs C ns, 0⟩ := by
  rw [lowerH_regs (by omega) h8, show B - 1 = C by omega]
theorem addH_regs2 {B : Nat} (h3 : 3 ≤ B) (h8 : B ≤ 8) (ns : List Int) (n : Nat) : addH B (regs B ns) n = ⟨B, regs B (ns ++ [(n : Int)]), 0⟩ := by
  have := addH_regs h3 h8 ns (n : Int)
  rwa [Int.toNat_natCast] at this
theorem grows_facts {B : Nat} (h3 : 3 ≤ B) (h8 : B ≤ 8) (ns : List Int) (n : Int) (hn : 0 ≤ n ∧ n ≤ 18446744073709551615) :
    countF B (regs B ns) ≤ countF B (regs B (ns ++ [n])) ∧ countF B (regs B []) = 0 ∧ 0 < countF B (regs B (ns ++ [n])) := by
  have hp := pow_bd h3 h8
  have hat : atF B n.toNat < 2 ^ B := at_lt (by omega) (by omega)
  refine ⟨?_, ?_, ?_⟩
  · rw [countF_regs h3 h8, countF_regs h3 h8]
    refine count_grows (by rw [length_regs, length_regs]) (by rw [length_regs]; omega) (fun p hp => ?_)
    rw [length_regs] at hp
    rw [byt_regs hp, byt_regs hp, top_append]
    omega
  · rw [countF_regs h3 h8]
    exact count_zero _
  · rw [countF_regs h3 h8]
    refine count_pos (by rw [length_regs]; omega) (p := atF B n.toNat) (by rw [length_regs]; exact hat) ?_
    rw [byt_regs hat, top_append]
    show max _ (max (if _ then _ else 0) 0) ≠ 0
    rw [if_pos rfl]
    have := (rank_bd h3 h8 n.toNat).1
    omega
theorem bits_no {b : Int} (h : bitsB b = false) : (decide (b < 3) || decide (8 < b)) = true := by
  simp [bitsB] at h ⊢
  omega
theorem bytes_regs {B : Nat} (h3 : 3 ≤ B) (h8 : B ≤ 8) (ns : List Int) : Bytes (regs B ns) := right_bytes (right_regs h3 h8 ns)
theorem once_facts {B : Nat} (h3 : 3 ≤ B) (h8 : B ≤ 8) {x : List Int} (hU : Us x) {K : Nat} (hK : K < x.length) : ∃ n : Nat, nth x K = n ∧ n < 18446744073709551616 ∧
    addH B (regs B x) n = ⟨B, regs B x, 0⟩ ∧ atF B n < (regs B x).length ∧ rankF B n ≤ byt (regs B x) (atF B n) ∧ 1 ≤ rankF B n := by
  have hu := nth_U hU K
  obtain ⟨n, hn⟩ : ∃ n : Nat, nth x K = n := ⟨(nth x K).toNat, by omega⟩
  have hm : (n : Int) ∈ x := by rw [← hn]; simp [nth, hK]
  have hat : atF B n < 2 ^ B := at_lt (by omega) (by omega)
  refine ⟨n, hn, by omega, ?_, by rw [length_regs]; exact hat, ?_, (rank_bd h3 h8 n).1⟩
  · rw [addH_regs2 h3 h8, regs_once hm]
  · rw [byt_regs hat]
    have := top_mem (B := B) hm
    rwa [Int.toNat_natCast] at this
end Go.Proofs.Ytgbanhjjieagnaa

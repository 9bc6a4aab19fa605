/-
  Histograms (chapter 9) in plain words: buckets and their bounds. No program in sight.
-/
import Derived.Test.YtopddcabaiicgaaMem
namespace Go.Proofs.Ytopddcabaiicgaa
/-- What stands behind the first digit, f digits of it. -/
def fr (f v : Nat) : Nat := (v - 2 ^ v.log2) * 2 ^ f / 2 ^ v.log2
/-- A value's bucket. -/
def bk (f v : Nat) : Nat := if v = 0 then 0 else 1 + v.log2 * 2 ^ f + fr f v
/-- A bucket's bounds. -/
def bnd (f a : Nat) : Option (Nat × Nat) :=
  if a = 0 then some (0, 0)
  else if 64 ≤ (a - 1) / 2 ^ f then none
  else if f ≤ (a - 1) / 2 ^ f then some (2 ^ ((a - 1) / 2 ^ f) + (a - 1) % 2 ^ f * 2 ^ ((a - 1) / 2 ^ f - f), 2 ^ ((a - 1) / 2 ^ f) + (a - 1) % 2 ^ f * 2 ^ ((a - 1) / 2 ^ f - f) + (2 ^ ((a - 1) / 2 ^ f - f) - 1))
  else if (a - 1) % 2 ^ f % 2 ^ (f - (a - 1) / 2 ^ f) = 0 then some (2 ^ ((a - 1) / 2 ^ f) + (a - 1) % 2 ^ f / 2 ^ (f - (a - 1) / 2 ^ f), 2 ^ ((a - 1) / 2 ^ f) + (a - 1) % 2 ^ f / 2 ^ (f - (a - 1) / 2 ^ f))
  else none
theorem log2_self (v : Nat) (h : v ≠ 0) : 2 ^ v.log2 ≤ v ∧ v < 2 ^ (v.log2 + 1) := ⟨Nat.log2_self_le h, Nat.lt_log2_self⟩
theorem fr_lt (f v : Nat) (h : v ≠ 0) : fr f v < 2 ^ f := by
  obtain ⟨h1, h2⟩ := log2_self v h
  unfold fr
  rw [Nat.div_lt_iff_lt_mul (Nat.two_pow_pos _), Nat.mul_comm]
  refine Nat.mul_lt_mul_of_pos_left ?_ (Nat.two_pow_pos _)
  rw [Nat.pow_succ] at h2
  omega
theorem log2_mono {v w : Nat} (h : v ≤ w) (hv : v ≠ 0) : v.log2 ≤ w.log2 := by
  have h1 := Nat.log2_self_le hv
  exact (Nat.le_log2 (by omega)).2 (Nat.le_trans h1 h)
theorem log2_lt64 {v : Nat} (h : v < 18446744073709551616) : v.log2 < 64 := by
  by_cases h0 : v = 0
  · subst h0; decide
  · exact (Nat.log2_lt h0).2 h
/-- Greater values are in no lesser buckets. -/
theorem bk_mono (f : Nat) {v w : Nat} (h : v ≤ w) : bk f v ≤ bk f w := by
  unfold bk
  by_cases hv : v = 0
  · rw [if_pos hv]; exact Nat.zero_le _
  · have hw : w ≠ 0 := by omega
    rw [if_neg hv, if_neg hw]
    have hl := log2_mono h hv
    rcases Nat.lt_or_ge v.log2 w.log2 with h1 | h1
    · have := fr_lt f v hv
      have h2 : (v.log2 + 1) * 2 ^ f ≤ w.log2 * 2 ^ f := Nat.mul_le_mul_right _ h1
      rw [Nat.add_mul] at h2
      omega
    · have e : v.log2 = w.log2 := Nat.le_antisymm hl h1
      have : fr f v ≤ fr f w := by
        unfold fr
        rw [e]
        refine Nat.div_le_div_right (Nat.mul_le_mul_right _ ?_)
        omega
      rw [e]
      omega
theorem bk_lt {f v : Nat} (hv : v < 18446744073709551616) : bk f v ≤ 64 * 2 ^ f := by
  unfold bk
  split
  · exact Nat.zero_le _
  · rename_i h
    have h1 := fr_lt f v h
    have h2 : (v.log2 + 1) * 2 ^ f ≤ 64 * 2 ^ f := Nat.mul_le_mul_right _ (log2_lt64 hv)
    rw [Nat.add_mul] at h2
    omega
/-- All that is to be known of buckets one by one: the bounds are in the bucket, what is outside is not; of a digit less both bounds are in one bucket. -/
def okAt (f a : Nat) : Bool :=
  match bnd f a with
  | none => true
  | some (lo, hi) => lo ≤ hi && hi < 18446744073709551616 && bk f lo == a && bk f hi == a && (lo == 0 || bk f (lo - 1) < a) && (hi == 18446744073709551615 || a < bk f (hi + 1)) && bk (f - 1) lo == bk (f - 1) hi
theorem ok_all0 : (List.range 66).all (okAt 0) = true := by decide +kernel
theorem ok_all1 : (List.range 130).all (okAt 1) = true := by decide +kernel
theorem ok_all2 : (List.range 260).all (okAt 2) = true := by decide +kernel
theorem ok_all3 : (List.range 520).all (okAt 3) = true := by decide +kernel
theorem ok_at {f a : Nat} (hf : f ≤ 3) (ha : a ≤ 64 * 2 ^ f) : okAt f a = true := by
  match f, hf with
  | 0, _ => exact List.all_eq_true.1 ok_all0 a (List.mem_range.2 (by simp at ha; omega))
  | 1, _ => exact List.all_eq_true.1 ok_all1 a (List.mem_range.2 (by simp at ha; omega))
  | 2, _ => exact List.all_eq_true.1 ok_all2 a (List.mem_range.2 (by simp at ha; omega))
  | 3, _ => exact List.all_eq_true.1 ok_all3 a (List.mem_range.2 (by simp at ha; omega))
theorem bnd_le {f a : Nat} {q : Nat × Nat} (h : bnd f a = some q) : a ≤ 64 * 2 ^ f := by
  unfold bnd at h
  split at h
  · omega
  · split at h
    · cases h
    · rename_i h1 h2
      have := (Nat.div_lt_iff_lt_mul (Nat.two_pow_pos f)).1 (Nat.lt_of_not_le h2)
      omega
structure Bd (f a lo hi : Nat) : Prop where
  le : lo ≤ hi
  lt : hi < 18446744073709551616
  lo_in : bk f lo = a
  hi_in : bk f hi = a
  low : lo = 0 ∨ bk f (lo - 1) < a
  high : hi = 18446744073709551615 ∨ a < bk f (hi + 1)
  less : bk (f - 1) lo = bk (f - 1) hi
theorem bnd_ok {f a lo hi : Nat} (hf : f ≤ 3) (h : bnd f a = some (lo, hi)) : Bd f a lo hi := by
  have := ok_at hf (bnd_le h)
  unfold okAt at this
  rw [h] at this
  simp at this
  obtain ⟨⟨⟨⟨⟨⟨h1, h2⟩, h3⟩, h4⟩, h5⟩, h6⟩, h7⟩ := this
  exact ⟨h1, h2, h3, h4, h5, h6, h7⟩
/-- A value's bucket has bounds. -/
theorem bnd_bk {f v : Nat} (hf : f ≤ 3) (hv : v < 18446744073709551616) : ∃ lo hi, bnd f (bk f v) = some (lo, hi) := by
  by_cases h8 : v < 8
  · have : ∀ f, f < 4 → ∀ v, v < 8 → (bnd f (bk f v)).isSome = true := by decide +kernel
    obtain ⟨q, hq⟩ := Option.isSome_iff_exists.1 (this f (by omega) v h8)
    exact ⟨q.1, q.2, hq⟩
  · have h0 : v ≠ 0 := by omega
    have hL : 3 ≤ v.log2 := (Nat.le_log2 h0).2 (by omega)
    have hL2 := log2_lt64 hv
    have hfr := fr_lt f v h0
    have e : bk f v - 1 = fr f v + v.log2 * 2 ^ f := by unfold bk; rw [if_neg h0]; omega
    have e1 : (bk f v - 1) / 2 ^ f = v.log2 := by
      rw [e, Nat.add_mul_div_right _ _ (Nat.two_pow_pos f), Nat.div_eq_of_lt hfr, Nat.zero_add]
    unfold bnd
    rw [if_neg (by unfold bk; rw [if_neg h0]; omega), e1, if_neg (by omega), if_pos (by omega)]
    exact ⟨_, _, rfl⟩
/-- A value is within a bucket's bounds just if it is its bucket. -/
theorem bd_iff {f a lo hi v : Nat} (h : Bd f a lo hi) (hv : v < 18446744073709551616) : bk f v = a ↔ lo ≤ v ∧ v ≤ hi := by
  constructor
  · intro e
    constructor
    · rcases Nat.lt_or_ge v lo with hl | hl
      · have h1 := bk_mono f (show v ≤ lo - 1 by omega)
        rcases h.low with h2 | h2 <;> omega
      · exact hl
    · rcases Nat.lt_or_ge hi v with hl | hl
      · have h1 := bk_mono f (show hi + 1 ≤ v by omega)
        rcases h.high with h2 | h2 <;> omega
      · exact hl
  · rintro ⟨h1, h2⟩
    have := bk_mono f h1
    have := bk_mono f h2
    have := h.lo_in
    have := h.hi_in
    omega
/-- .. it is up to the greatest one just if its bucket is no greater. -/
theorem bd_up {f a lo hi v : Nat} (h : Bd f a lo hi) (hv : v < 18446744073709551616) : bk f v ≤ a ↔ v ≤ hi := by
  constructor
  · intro e
    rcases Nat.lt_or_ge hi v with hl | hl
    · have h1 := bk_mono f (show hi + 1 ≤ v by omega)
      rcases h.high with h2 | h2 <;> omega
    · exact hl
  · intro e
    have := bk_mono f e
    have := h.hi_in
    omega
/-- The bucket of a digit less is that of a bucket's least value. -/
theorem bk_less {f a lo hi v : Nat} (h : Bd f a lo hi) (hv : v < 18446744073709551616) (e : bk f v = a) : bk (f - 1) v = bk (f - 1) lo := by
  obtain ⟨h1, h2⟩ := (bd_iff h hv).1 e
  have h3 := bk_mono (f - 1) h1
  have h4 := bk_mono (f - 1) h2
  have := h.less
  omega
/-- The digits behind the first one, one by one. -/
theorem fr_zero (v : Nat) (h : v ≠ 0) : fr 0 v = 0 := by have := fr_lt 0 v h; simp at this; exact this
theorem fr_succ (f v : Nat) (h : v ≠ 0) : fr (f + 1) v = 2 * fr f v + if f + 1 ≤ v.log2 then v / 2 ^ (v.log2 - (f + 1)) % 2 else 0 := by
  obtain ⟨h1, h2⟩ := log2_self v h
  unfold fr
  obtain ⟨L, hL⟩ : ∃ L, v.log2 = L := ⟨_, rfl⟩
  rw [hL] at h1 h2 ⊢
  obtain ⟨x, hx⟩ : ∃ x, v = 2 ^ L + x := ⟨v - 2 ^ L, by omega⟩
  have ex : v - 2 ^ L = x := by omega
  rw [ex]
  by_cases hf : f + 1 ≤ L
  · rw [if_pos hf]
    obtain ⟨d, rfl⟩ : ∃ d, L = d + (f + 1) := ⟨L - (f + 1), by omega⟩
    have e1 : x * 2 ^ (f + 1) / 2 ^ (d + (f + 1)) = x / 2 ^ d := by rw [show (2 : Nat) ^ (d + (f + 1)) = 2 ^ d * 2 ^ (f + 1) from Nat.pow_add .., Nat.mul_div_mul_right _ _ (Nat.two_pow_pos _)]
    have e2 : x * 2 ^ f / 2 ^ (d + (f + 1)) = x / 2 ^ d / 2 := by
      rw [show d + (f + 1) = d + 1 + f by omega, Nat.pow_add, Nat.mul_div_mul_right _ _ (Nat.two_pow_pos _), Nat.pow_succ, Nat.div_div_eq_div_mul]
    rw [e1, e2, Nat.add_sub_cancel, hx]
    have e3 : (2 ^ (d + (f + 1)) + x) / 2 ^ d = 2 ^ (f + 1) + x / 2 ^ d := by
      rw [show (2 : Nat) ^ (d + (f + 1)) = 2 ^ d * 2 ^ (f + 1) from Nat.pow_add .., Nat.mul_add_div (Nat.two_pow_pos _)]
    rw [e3]
    have : (2 : Nat) ^ (f + 1) = 2 * 2 ^ f := by rw [Nat.pow_succ]; omega
    omega
  · rw [if_neg hf]
    obtain ⟨d, rfl⟩ : ∃ d, f = L + d := ⟨f - L, by omega⟩
    have e1 : x * 2 ^ (L + d + 1) / 2 ^ L = x * 2 ^ (d + 1) := by
      rw [show L + d + 1 = d + 1 + L by omega, Nat.pow_add, ← Nat.mul_assoc, Nat.mul_div_cancel _ (Nat.two_pow_pos _)]
    have e2 : x * 2 ^ (L + d) / 2 ^ L = x * 2 ^ d := by
      rw [show L + d = d + L by omega, Nat.pow_add, ← Nat.mul_assoc, Nat.mul_div_cancel _ (Nat.two_pow_pos _)]
    rw [e1, e2, Nat.pow_succ, ← Nat.mul_assoc, Nat.mul_comm]
    omega
/-- The digits behind the first one, shifted to the left end and back. -/
theorem fr_shift {f v : Nat} (h : v ≠ 0) (hv : v < 18446744073709551616) (hf : f ≤ 3) : v * 2 ^ (63 - v.log2) * 2 % 18446744073709551616 / 2 ^ (64 - f) = fr f v := by
  obtain ⟨h1, h2⟩ := log2_self v h
  have hL := log2_lt64 hv
  unfold fr
  obtain ⟨L, e⟩ : ∃ L, v.log2 = L := ⟨_, rfl⟩
  rw [e] at h1 h2 hL ⊢
  obtain ⟨x, hx⟩ : ∃ x, v = 2 ^ L + x := ⟨v - 2 ^ L, by omega⟩
  have ex : v - 2 ^ L = x := by omega
  have hxl : x < 2 ^ L := by rw [Nat.pow_succ] at h2; omega
  have e64 : (2 : Nat) ^ L * 2 ^ (64 - L) = 18446744073709551616 := by rw [← Nat.pow_add, show L + (64 - L) = 64 by omega]
  have e1 : v * 2 ^ (63 - L) * 2 = 18446744073709551616 + x * 2 ^ (64 - L) := by
    rw [Nat.mul_assoc, ← Nat.pow_succ, show (63 - L).succ = 64 - L by omega, hx, Nat.add_mul, e64]
  have e2 : x * 2 ^ (64 - L) < 18446744073709551616 := by rw [← e64]; exact Nat.mul_lt_mul_of_pos_right hxl (Nat.two_pow_pos _)
  rw [ex, e1, Nat.add_mod_left, Nat.mod_eq_of_lt e2]
  have e3 : x * 2 ^ (64 - L) / 2 ^ (64 - f) = x * 2 ^ (64 - L) * 2 ^ L / (2 ^ (64 - f) * 2 ^ L) := (Nat.mul_div_mul_right _ _ (Nat.two_pow_pos _)).symm
  have e4 : x * 2 ^ (64 - L) * 2 ^ L = x * 2 ^ f * 2 ^ (64 - f) := by
    rw [Nat.mul_assoc, ← Nat.pow_add, Nat.mul_assoc, ← Nat.pow_add, show 64 - L + L = f + (64 - f) by omega]
  rw [e3, e4, Nat.mul_comm (2 ^ (64 - f)), Nat.mul_div_mul_right _ _ (Nat.two_pow_pos _)]
end Go.Proofs.Ytopddcabaiicgaa

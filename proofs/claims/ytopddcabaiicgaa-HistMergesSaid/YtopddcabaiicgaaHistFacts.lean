/-
  Histograms: what the laws say of buckets and bounds, in plain words.
-/
import Derived.Test.YtopddcabaiicgaaHistOf
import Derived.Test.YtopddcabaiicgaaHistLower
import Derived.Test.YtopddcabaiicgaaHistRank
namespace Go.Proofs.Ytopddcabaiicgaa
set_option linter.unusedVariables false
/-- All that is known of a value's bucket and its bounds. -/
structure BkF (f v a b : Int) : Prop where
  eq : boundsF f (bucketF f v) = (a, b, true)
  lo : a ≤ v
  hi : v ≤ b
  ua : U a
  ub : U b
  ba : bucketF f a = bucketF f v
  bb : bucketF f b = bucketF f v
  low : a = 0 ∨ bucketF f (a - 1) < bucketF f v
  up : ∀ x, U x → (bucketF f x ≤ bucketF f v ↔ x ≤ b)
theorem bucketF_of {f v : Int} (hf : fineB f = true) (hv : U v) : ∃ F V : Nat, f = F ∧ v = V ∧ F ≤ 3 ∧ V < 18446744073709551616 := by
  obtain ⟨h1, h2⟩ := fine_of hf
  obtain ⟨u1, u2⟩ := hv
  exact ⟨f.toNat, v.toNat, by omega, by omega, by omega, by omega⟩
theorem bkF_any {f v : Int} (hf : fineB f = true) (hv : U v) : ∃ a b, BkF f v a b := by
  obtain ⟨F, V, rfl, rfl, hF, hV⟩ := bucketF_of hf hv
  obtain ⟨lo, hi, hb⟩ := bnd_bk hF hV
  have B := bnd_ok hF hb
  obtain ⟨h1, h2⟩ := (bd_iff B hV).1 rfl
  have hl := B.lt
  have hle := B.le
  refine ⟨lo, hi, ?_, by omega, by omega, ⟨by omega, by omega⟩, ⟨by omega, by omega⟩, ?_, ?_, ?_, ?_⟩
  · rw [bucketF_nat hF, boundsF_nat hF, hb]
  · rw [bucketF_nat hF, bucketF_nat hF, B.lo_in]
  · rw [bucketF_nat hF, bucketF_nat hF, B.hi_in]
  · rcases B.low with h | h
    · left; omega
    · by_cases h0 : lo = 0
      · left; omega
      · right
        have e : (lo : Int) - 1 = ((lo - 1 : Nat) : Int) := by omega
        rw [e, bucketF_nat hF, bucketF_nat hF]; omega
  · intro x hx
    obtain ⟨u1, u2⟩ := hx
    obtain ⟨X, rfl⟩ := Int.eq_ofNat_of_zero_le u1
    rw [bucketF_nat hF, bucketF_nat hF]
    have := bd_up B (v := X) (by omega)
    omega
theorem bucketF_mono {f v w : Int} (hv : U v) (hw : U w) (h : v ≤ w) : bucketF f v ≤ bucketF f w := by
  cases hf : fineB f with
  | false => simp [bucketF, hf]
  | true =>
    obtain ⟨F, V, rfl, rfl, hF, hV⟩ := bucketF_of hf hv
    obtain ⟨u1, u2⟩ := hw
    obtain ⟨W, rfl⟩ := Int.eq_ofNat_of_zero_le u1
    rw [bucketF_nat hF, bucketF_nat hF]
    have := bk_mono F (show V ≤ W by omega)
    omega
theorem has_bucket {f v : Int} (hf : fineB f = true) (hv : U v) : (boundsF f (bucketF f v)).2.2 = true := by
  obtain ⟨a, b, h⟩ := bkF_any hf hv
  rw [h.eq]
end Go.Proofs.Ytopddcabaiicgaa

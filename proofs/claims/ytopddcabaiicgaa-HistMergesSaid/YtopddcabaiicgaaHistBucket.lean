/-
  The walk of hist.Bucket.
-/
import Derived.Test.YtopddcabaiicgaaHistWalk1
namespace Go.Proofs.Ytopddcabaiicgaa
open Go.RowKit
set_option linter.unusedVariables false
theorem bucket_val {f v : Nat} (hf : f ≤ 3) (h0 : v ≠ 0) (hv : v < 18446744073709551616) :
    wrap64 (wrap64 (1 + wrap64 (↑v.log2 * 2 ^ f)) + wrap64 (IntKind.u64.wrap (IntKind.u64.wrap (↑v * 2 ^ (63 - v.log2)) * 2) / 2 ^ (64 - f))) = ((bk f v : Nat) : Int) := by
  have e1 : IntKind.u64.wrap (IntKind.u64.wrap ((v : Int) * 2 ^ (63 - v.log2)) * 2) = ((v * 2 ^ (63 - v.log2) * 2 % 18446744073709551616 : Nat) : Int) := by
    rw [IntKind.wrap_u64, IntKind.wrap_u64]
    have : ((v : Int) * 2 ^ (63 - v.log2)) = ((v * 2 ^ (63 - v.log2) : Nat) : Int) := by simp
    rw [this]
    omega
  have e2 : ((v * 2 ^ (63 - v.log2) * 2 % 18446744073709551616 : Nat) : Int) / 2 ^ (64 - f) = ((fr f v : Nat) : Int) := by
    rw [← fr_shift h0 hv hf]; simp
  have e3 : ((v.log2 : Nat) : Int) * 2 ^ f = ((v.log2 * 2 ^ f : Nat) : Int) := by simp
  have hb := bk_lt (f := f) hv
  have hp : 2 ^ f ≤ 8 := Nat.pow_le_pow_right (n := 2) (by decide) hf
  have hb2 : bk f v = 1 + v.log2 * 2 ^ f + fr f v := by unfold bk; rw [if_neg h0]
  rw [e1, e2, e3, hb2]
  rw [hb2] at hb
  generalize v.log2 * 2 ^ f = a at *
  generalize fr f v = c at *
  rw [IntWalk.wrap64_in a (by omega), IntWalk.wrap64_in c (by omega), IntWalk.wrap64_in (1 + (a : Int)) (by omega), IntWalk.wrap64_in _ (by omega)]
  omega
/-- What Bucket tells. -/
def bucketF (f v : Int) : Int := if fineB f = true then ((bk f.toNat v.toNat : Nat) : Int) else 0
theorem bucketF_nat {f v : Nat} (hf : f ≤ 3) : bucketF f v = ((bk f v : Nat) : Int) := by
  have : fineB f = true := by simp [fineB]; omega
  unfold bucketF; rw [if_pos this]; simp
theorem bucket_good (f v : Nat) (hf : f ≤ 3) (h0 : v ≠ 0) (hv : v < 18446744073709551616) (w : World) :
    Calls Try.prog 17 #[.int .i64 f, .int .u64 v] w fun e w' => e = .returned (.int .i64 (bk f v)) ∧ ∃ n, w' = w.drewN n := by
  have hb : fineB f = true := by simp [fineB]; omega
  have HB := Lib.hid hb
  have hL := log2_lt64 hv
  have h1 : ((v : Int) == 0) = false := by simp [h0]
  have HV := Lib.hid (bucket_val hf h0 hv)
  clear hb
  go_enter Try.func17, Try.ntmps17
  go_wp2_with fail
  refine (isFine_any _ _).mono ?_
  rintro e w' ⟨rfl, rfl⟩
  rw [HB.out]
  go_wp2_with fail
  refine (len64_any v h0 hv _).mono ?_
  rintro e w' ⟨rfl, rfl⟩
  go_wp2_with fail
  go_quiet (fail)
  go_wp2_with fail
  go_ret
  exact ⟨ret_int HV.out, nq, rfl⟩
theorem bucket_zero (f : Nat) (hf : f ≤ 3) (w : World) :
    Calls Try.prog 17 #[.int .i64 f, .int .u64 0] w fun e w' => e = .returned (.int .i64 0) ∧ ∃ n, w' = w.drewN n := by
  have hb : fineB f = true := by simp [fineB]; omega
  have HB := Lib.hid hb
  clear hb
  go_enter Try.func17, Try.ntmps17
  go_wp2_with fail
  refine (isFine_any _ _).mono ?_
  rintro e w' ⟨rfl, rfl⟩
  rw [HB.out]
  go_wp2_with fail
  go_ret
  exact ⟨rfl, 0, rfl⟩
theorem bucket_bad (f v : Int) (hf : fineB f = false) (w : World) :
    Calls Try.prog 17 #[.int .i64 f, .int .u64 v] w fun e w' => e = .returned (.int .i64 0) ∧ ∃ n, w' = w.drewN n := by
  have HB := Lib.hid hf
  clear hf
  go_enter Try.func17, Try.ntmps17
  go_wp2_with fail
  refine (isFine_any _ _).mono ?_
  rintro e w' ⟨rfl, rfl⟩
  rw [HB.out]
  go_wp2_with fail
  go_ret
  exact ⟨rfl, 0, rfl⟩
theorem bucket_any (f v : Int) (hv : U v) (w : World) :
    Calls Try.prog 17 #[.int .i64 f, .int .u64 v] w fun e w' => e = .returned (.int .i64 (bucketF f v)) ∧ ∃ n, w' = w.drewN n := by
  cases h : fineB f with
  | false => unfold bucketF; rw [if_neg (by simp [h])]; exact bucket_bad f v h w
  | true =>
    obtain ⟨h1, h2⟩ := fine_of h
    obtain ⟨u1, u2⟩ := hv
    obtain ⟨F, rfl⟩ := Int.eq_ofNat_of_zero_le h1
    obtain ⟨V, rfl⟩ := Int.eq_ofNat_of_zero_le u1
    rw [bucketF_nat (by omega)]
    by_cases h0 : V = 0
    · subst h0; exact bucket_zero F (by omega) w
    · exact bucket_good F V (by omega) h0 (by omega) w
end Go.Proofs.Ytopddcabaiicgaa

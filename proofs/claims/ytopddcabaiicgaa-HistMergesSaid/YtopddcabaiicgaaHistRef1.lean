/-
  The document's own Bucket.
-/
import Derived.Test.YtopddcabaiicgaaHistBounds
namespace Go.Proofs.Ytopddcabaiicgaa
open Go.RowKit
set_option linter.unusedVariables false
set_option linter.unusedSimpArgs false
theorem log2_div {v k : Nat} (h : v ≠ 0) : 0 < v / 2 ^ k ↔ k < v.log2 + 1 := by
  rw [Nat.div_pos_iff]
  constructor
  · intro h1; exact Nat.lt_succ_of_le ((Nat.le_log2 h).2 h1.2)
  · intro h1; exact ⟨Nat.two_pow_pos k, (Nat.le_log2 h).1 (by omega)⟩
theorem digits_any (v : Nat) (h0 : v ≠ 0) (hv : v < 18446744073709551616) (w : World) : Calls Try.prog 42 #[.int .u64 v] w fun e w' => e = .returned (.int .i64 ((v.log2 : Int) + 1)) ∧ w = w' := by
  have hL := log2_lt64 hv
  go_enter Try.func42, Try.ntmps42
  go_wp2
  go_loop [0, 3] (fun x n => ∃ k : Nat, k ≤ v.log2 + 1 ∧ n = .int .i64 k ∧ x = .int .u64 ((v / 2 ^ k : Nat) : Int)) (fun x _ => (RowKit.intOf x).toNat)
  case atStart => exact ⟨0, Nat.zero_le _, rfl, by simp⟩
  case round =>
    obtain ⟨k, hk, rfl, rfl⟩ := hrel
    have hi := log2_div (k := k) h0
    have HS : Hid (v / 2 ^ (k + 1) = v / 2 ^ k / 2) := by show _ = _; rw [Nat.pow_succ, Nat.div_div_eq_div_mul]
    have hx : v / 2 ^ k ≤ v := Nat.div_le_self _ _
    generalize v / 2 ^ k = x at *
    have HI := Lib.hid hi
    clear hi
    by_cases hp : 0 < x
    · have hlt := HI.out.1 hp
      go_wp2
      go_round
      case rel => exact ⟨k + 1, by omega, by go_num, by rw [HS.out]; simp⟩
      case measure => simp [RowKit.intOf]; omega
    · have hk2 : k = v.log2 + 1 := by
        rcases Nat.lt_or_ge k (v.log2 + 1) with h | h
        · exact absurd (HI.out.2 h) hp
        · omega
      have HK := Lib.hid hk2
      clear hk2
      go_wp2
      go_ret
      exact ⟨ret_int (by rw [HK.out]; omega), rfl⟩
theorem int_eq {k : IntKind} {a b : Int} (h : a = b) : Value.int k a = .int k b := by rw [h]
theorem digit_val (v n b : Nat) (hb : b ≤ 8) : wrap64 (2 * (b : Int) + wrap64 (((v : Int) / 2 ^ n).tmod 2)) = ((2 * b + v / 2 ^ n % 2 : Nat) : Int) := by
  have e : ((v : Int) / 2 ^ n).tmod 2 = ((v / 2 ^ n % 2 : Nat) : Int) := by
    rw [shr_f]; exact (Int.ofNat_tmod _ _).symm
  have h2 : v / 2 ^ n % 2 < 2 := Nat.mod_lt _ (by decide)
  rw [e, IntWalk.wrap64_in ((v / 2 ^ n % 2 : Nat) : Int) (by omega), IntWalk.wrap64_in _ (by omega)]
  omega
theorem sum_val {L k b : Nat} (hL : L < 64) (hk : k ≤ 3) (hb : b ≤ 8) : wrap64 (wrap64 (1 + wrap64 ((L : Int) * 2 ^ k)) + (b : Int)) = ((1 + L * 2 ^ k + b : Nat) : Int) := by
  have hp : 2 ^ k ≤ 8 := Nat.pow_le_pow_right (n := 2) (j := 3) (by decide) hk
  have hm : L * 2 ^ k ≤ 64 * 8 := Nat.mul_le_mul (by omega) hp
  have e3 : (L : Int) * 2 ^ k = ((L * 2 ^ k : Nat) : Int) := by simp
  rw [e3]
  generalize L * 2 ^ k = a at *
  rw [IntWalk.wrap64_in a (by omega), IntWalk.wrap64_in (1 + (a : Int)) (by omega), IntWalk.wrap64_in _ (by omega)]
  omega
theorem rbucket_good (f v : Nat) (hf : f ≤ 3) (h0 : v ≠ 0) (hv : v < 18446744073709551616) (w : World) :
    Calls Try.prog 18 #[.int .i64 f, .int .u64 v] w fun e w' => e = .returned (.int .i64 (bk f v)) ∧ w = w' := by
  have hL := log2_lt64 hv
  have h1 : ((v : Int) == 0) = false := by simp [h0]
  go_enter Try.func18, Try.ntmps18
  go_wp2_with fail
  refine (digits_any v h0 hv _).mono ?_
  rintro e w' ⟨rfl, rfl⟩
  go_wp2_with fail
  have hfz := fr_zero v h0
  go_loop [6, 7] (fun b i => ∃ k : Nat, k ≤ f ∧ i = .int .i64 (k + 1) ∧ b = .int .i64 ((fr k v : Nat) : Int)) (fun _ i => f + 1 - (RowKit.intOf i).toNat)
  case atStart => exact ⟨0, Nat.zero_le _, rfl, by rw [hfz]; rfl⟩
  case round =>
    obtain ⟨k, hk, rfl, rfl⟩ := hrel
    have HN := Lib.hid (fr_succ k v h0)
    have hb := fr_lt k v h0
    have hp : 2 ^ k ≤ 8 := Nat.pow_le_pow_right (n := 2) (j := 3) (by decide) (by omega)
    have HP := Lib.hid hp
    have hb8 : fr k v ≤ 8 := by omega
    have HV : Hid (bk f v = 1 + v.log2 * 2 ^ f + fr f v) := by show _ = _; unfold bk; rw [if_neg h0]
    clear hb hp hfz
    by_cases hlt : k < f
    · by_cases hd : k + 1 ≤ v.log2
      · rw [if_pos hd] at HN
        go_wp2_with fail
        go_round
        case rel => exact ⟨k + 1, by omega, by go_num, by rw [HN.out]; exact int_eq (digit_val _ _ _ hb8)⟩
        case measure => simp [RowKit.intOf]; omega
      · rw [if_neg hd] at HN
        go_wp2_with fail
        go_round
        case rel => exact ⟨k + 1, by omega, by go_num, by rw [HN.out]; exact int_eq (by omega)⟩
        case measure => simp [RowKit.intOf]; omega
    · obtain rfl : k = f := by omega
      go_wp2_with fail
      go_ret
      exact ⟨ret_int (by rw [HV.out]; exact sum_val hL hf hb8), rfl⟩
theorem rbucket_zero (f : Nat) (hf : f ≤ 3) (w : World) :
    Calls Try.prog 18 #[.int .i64 f, .int .u64 0] w fun e w' => e = .returned (.int .i64 0) ∧ w = w' := by
  go_enter Try.func18, Try.ntmps18
  go_wp2
  go_ret
  exact ⟨rfl, rfl⟩
theorem rbucket_bad (f v : Int) (hf : fineB f = false) (w : World) :
    Calls Try.prog 18 #[.int .i64 f, .int .u64 v] w fun e w' => e = .returned (.int .i64 0) ∧ w = w' := by
  have hc : f < 0 ∨ (0 ≤ f ∧ 3 < f) := by simp [fineB] at hf; omega
  rcases hc with h | ⟨h1, h⟩
  all_goals
    go_enter Try.func18, Try.ntmps18
    go_wp2
    go_ret
    exact ⟨rfl, rfl⟩
theorem rbucket_any (f v : Int) (hv : U v) (w : World) :
    Calls Try.prog 18 #[.int .i64 f, .int .u64 v] w fun e w' => e = .returned (.int .i64 (bucketF f v)) ∧ w = w' := by
  cases h : fineB f with
  | false => unfold bucketF; rw [if_neg (by simp [h])]; exact rbucket_bad f v h w
  | true =>
    obtain ⟨h1, h2⟩ := fine_of h
    obtain ⟨u1, u2⟩ := hv
    obtain ⟨F, rfl⟩ := Int.eq_ofNat_of_zero_le h1
    obtain ⟨V, rfl⟩ := Int.eq_ofNat_of_zero_le u1
    rw [bucketF_nat (by omega)]
    by_cases h0 : V = 0
    · subst h0; exact rbucket_zero F (by omega) w
    · exact rbucket_good F V (by omega) h0 (by omega) w
end Go.Proofs.Ytopddcabaiicgaa

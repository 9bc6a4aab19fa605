/-
  Merged out of: HistPlain HistList HistWalk1 HistBucket Fwd Bins HistBounds HistRight HistAdd HistEq HistSame HistRef1 HistRef2 HistRef3 HistRef5.
-/
import Derived.IntWalk
import Derived.ScopeJumps
import Derived.WalkMore
import Derived.WalkKit
import Derived.Laws.BitsAllLaws
import Derived.Laws.StructEq
import Derived.Test.YtoffmclbnobllaaGreatDoorCkHi
import Derived.Test.YtoffmclbnobllaaGreatDoorRows
namespace Go.Proofs.YtoffmclbnobllaaGreatDoor.Hi
section
/-- What stands behind the first digit, f digits of it. -/
def fr (f v : Nat) : Nat := (v - 2 ^ v.log2) * 2 ^ f / 2 ^ v.log2
/-- A value's bucket. -/
def bk (f v : Nat) : Nat := if v = 0 then 0 else 1 + v.log2 * 2 ^ f + fr f v
theorem log2_self (v : Nat) (h : v ≠ 0) : 2 ^ v.log2 ≤ v ∧ v < 2 ^ (v.log2 + 1) := ⟨Nat.log2_self_le h, Nat.lt_log2_self⟩
theorem fr_lt (f v : Nat) (h : v ≠ 0) : fr f v < 2 ^ f := by
  obtain ⟨h1, h2⟩ := log2_self v h
  unfold fr
  rw [Nat.div_lt_iff_lt_mul (Nat.two_pow_pos _), Nat.mul_comm]
  refine Nat.mul_lt_mul_of_pos_left ?_ (Nat.two_pow_pos _)
  rw [Nat.pow_succ] at h2
  omega
theorem log2_lt64 {v : Nat} (h : v < 18446744073709551616) : v.log2 < 64 := by
  by_cases h0 : v = 0
  · subst h0; decide
  · exact (Nat.log2_lt h0).2 h
/-- The digits behind the first one, one by one. -/
theorem fr_zero (v : Nat) (h : v ≠ 0) : fr 0 v = 0 := by have := fr_lt 0 v h; simp at this; exact this
theorem fr_succ (f v : Nat) (h : v ≠ 0) : fr (f + 1) v = 2 * fr f v + if f + 1 ≤ v.log2 then v / 2 ^ (v.log2 - (f + 1)) % 2 else 0 := by
  obtain ⟨h1, h2⟩ := log2_self v h
  unfold fr
  obtain ⟨L, hL⟩ : ∃ L, v.log2 = L := ⟨_, rfl⟩
  rw [hL] at h1 h2 ⊢
  obtain ⟨x, hx⟩ : ∃ x, v = 2 ^ L + x := ⟨v - 2 ^ L, by omega⟩
  have ex : v - 2 ^ L = x := by omega
  rw [ex]
  by_cases hf : f + 1 ≤ L
  · rw [if_pos hf]
    obtain ⟨d, rfl⟩ : ∃ d, L = d + (f + 1) := ⟨L - (f + 1), by omega⟩
    have e1 : x * 2 ^ (f + 1) / 2 ^ (d + (f + 1)) = x / 2 ^ d := by rw [show (2 : Nat) ^ (d + (f + 1)) = 2 ^ d * 2 ^ (f + 1) from Nat.pow_add .., Nat.mul_div_mul_right _ _ (Nat.two_pow_pos _)]
    have e2 : x * 2 ^ f / 2 ^ (d + (f + 1)) = x / 2 ^ d / 2 := by
      rw [show d + (f + 1) = d + 1 + f by omega, Nat.pow_add, Nat.mul_div_mul_right _ _ (Nat.two_pow_pos _), Nat.pow_succ, Nat.div_div_eq_div_mul]
    rw [e1, e2, Nat.add_sub_cancel, hx]
    have e3 : (2 ^ (d + (f + 1)) + x) / 2 ^ d = 2 ^ (f + 1) + x / 2 ^ d := by
      rw [show (2 : Nat) ^ (d + (f + 1)) = 2 ^ d * 2 ^ (f + 1) from Nat.pow_add .., Nat.mul_add_div (Nat.two_pow_pos _)]
    rw [e3]
    have : (2 : Nat) ^ (f + 1) = 2 * 2 ^ f := by rw [Nat.pow_succ]; omega
    omega
  · rw [if_neg hf]
    obtain ⟨d, rfl⟩ : ∃ d, f = L + d := ⟨f - L, by omega⟩
    have e1 : x * 2 ^ (L + d + 1) / 2 ^ L = x * 2 ^ (d + 1) := by
      rw [show L + d + 1 = d + 1 + L by omega, Nat.pow_add, ← Nat.mul_assoc, Nat.mul_div_cancel _ (Nat.two_pow_pos _)]
    have e2 : x * 2 ^ (L + d) / 2 ^ L = x * 2 ^ d := by
      rw [show L + d = d + L by omega, Nat.pow_add, ← Nat.mul_assoc, Nat.mul_div_cancel _ (Nat.two_pow_pos _)]
    rw [e1, e2, Nat.pow_succ, ← Nat.mul_assoc, Nat.mul_comm]
    omega
end
section
set_option linter.unusedVariables false
end
section
open Go.RowKit
set_option linter.unusedVariables false
end
section
open Go.RowKit
set_option linter.unusedVariables false
/-- What Bucket tells. -/
def bucketF (f v : Int) : Int := if fineB f = true then ((bk f.toNat v.toNat : Nat) : Int) else 0
theorem bucketF_nat {f v : Nat} (hf : f ≤ 3) : bucketF f v = ((bk f v : Nat) : Int) := by
  have : fineB f = true := by simp [fineB]; omega
  unfold bucketF; rw [if_pos this]; simp
end
section
open Go.RowKit
section
variable {l : Nat} {J : Act → World → Prop} {Q : Exit → Act → World → Prop} {a : Act} {w : World}
end
end
section
open Go.RowKit
section
variable {w w' : World} {B B' : Nat} {A : Option Addr} {l : List (Int × Int)}
end
end
section
open Go.RowKit
set_option linter.unusedVariables false
end
section
open Go.RowKit
set_option linter.unusedVariables false
end
section
open Go.RowKit
set_option linter.unusedVariables false
set_option linter.unusedSimpArgs false
end
section
open Go.RowKit
end
section
open Go.RowKit
set_option linter.unusedVariables false
set_option linter.unusedSimpArgs false
end
section
open Go.RowKit
set_option linter.unusedVariables false
set_option linter.unusedSimpArgs false
theorem log2_div {v k : Nat} (h : v ≠ 0) : 0 < v / 2 ^ k ↔ k < v.log2 + 1 := by
  rw [Nat.div_pos_iff]
  constructor
  · intro h1; exact Nat.lt_succ_of_le ((Nat.le_log2 h).2 h1.2)
  · intro h1; exact ⟨Nat.two_pow_pos k, (Nat.le_log2 h).1 (by omega)⟩
theorem digits_any (v : Nat) (h0 : v ≠ 0) (hv : v < 18446744073709551616) (w : World) : Calls Tryz.prog 81 #[.int .u64 v] w fun e w' => e = .returned (.int .i64 ((v.log2 : Int) + 1)) ∧ w = w' := by
  have hL := log2_lt64 hv
  go_enter Tryz.func81, Tryz.ntmps81
  go_wp2
  go_loop [0, 3] (fun x n => ∃ k : Nat, k ≤ v.log2 + 1 ∧ n = .int .i64 k ∧ x = .int .u64 ((v / 2 ^ k : Nat) : Int)) (fun x _ => (RowKit.intOf x).toNat)
  case atStart => exact ⟨0, Nat.zero_le _, rfl, by simp⟩
  case round =>
    obtain ⟨k, hk, rfl, rfl⟩ := hrel
    have hi := log2_div (k := k) h0
    have HS : Hid (v / 2 ^ (k + 1) = v / 2 ^ k / 2) := by show _ = _; rw [Nat.pow_succ, Nat.div_div_eq_div_mul]
    have hx : v / 2 ^ k ≤ v := Nat.div_le_self _ _
    generalize v / 2 ^ k = x at *
    have HI := Lib.hid hi
    clear hi
    by_cases hp : 0 < x
    · have hlt := HI.out.1 hp
      go_wp2
      go_round
      case rel => exact ⟨k + 1, by omega, by go_num, by rw [HS.out]; simp⟩
      case measure => simp [RowKit.intOf]; omega
    · have hk2 : k = v.log2 + 1 := by
        rcases Nat.lt_or_ge k (v.log2 + 1) with h | h
        · exact absurd (HI.out.2 h) hp
        · omega
      have HK := Lib.hid hk2
      clear hk2
      go_wp2
      go_ret
      exact ⟨ret_int (by rw [HK.out]; omega), rfl⟩
theorem int_eq {k : IntKind} {a b : Int} (h : a = b) : Value.int k a = .int k b := by rw [h]
theorem digit_val (v n b : Nat) (hb : b ≤ 8) : wrap64 (2 * (b : Int) + wrap64 (((v : Int) / 2 ^ n).tmod 2)) = ((2 * b + v / 2 ^ n % 2 : Nat) : Int) := by
  have e : ((v : Int) / 2 ^ n).tmod 2 = ((v / 2 ^ n % 2 : Nat) : Int) := by
    rw [shr_f]; exact (Int.ofNat_tmod _ _).symm
  have h2 : v / 2 ^ n % 2 < 2 := Nat.mod_lt _ (by decide)
  rw [e, IntWalk.wrap64_in ((v / 2 ^ n % 2 : Nat) : Int) (by omega), IntWalk.wrap64_in _ (by omega)]
  omega
theorem sum_val {L k b : Nat} (hL : L < 64) (hk : k ≤ 3) (hb : b ≤ 8) : wrap64 (wrap64 (1 + wrap64 ((L : Int) * 2 ^ k)) + (b : Int)) = ((1 + L * 2 ^ k + b : Nat) : Int) := by
  have hp : 2 ^ k ≤ 8 := Nat.pow_le_pow_right (n := 2) (j := 3) (by decide) hk
  have hm : L * 2 ^ k ≤ 64 * 8 := Nat.mul_le_mul (by omega) hp
  have e3 : (L : Int) * 2 ^ k = ((L * 2 ^ k : Nat) : Int) := by simp
  rw [e3]
  generalize L * 2 ^ k = a at *
  rw [IntWalk.wrap64_in a (by omega), IntWalk.wrap64_in (1 + (a : Int)) (by omega), IntWalk.wrap64_in _ (by omega)]
  omega
theorem rbucket_good (f v : Nat) (hf : f ≤ 3) (h0 : v ≠ 0) (hv : v < 18446744073709551616) (w : World) :
    Calls Tryz.prog 71 #[.int .i64 f, .int .u64 v] w fun e w' => e = .returned (.int .i64 (bk f v)) ∧ w = w' := by
  have hL := log2_lt64 hv
  have h1 : ((v : Int) == 0) = false := by simp [h0]
  go_enter Tryz.func71, Tryz.ntmps71
  go_wp2_with fail
  refine (digits_any v h0 hv _).mono ?_
  rintro e w' ⟨rfl, rfl⟩
  go_wp2_with fail
  have hfz := fr_zero v h0
  go_loop [6, 7] (fun b i => ∃ k : Nat, k ≤ f ∧ i = .int .i64 (k + 1) ∧ b = .int .i64 ((fr k v : Nat) : Int)) (fun _ i => f + 1 - (RowKit.intOf i).toNat)
  case atStart => exact ⟨0, Nat.zero_le _, rfl, by rw [hfz]; rfl⟩
  case round =>
    obtain ⟨k, hk, rfl, rfl⟩ := hrel
    have HN := Lib.hid (fr_succ k v h0)
    have hb := fr_lt k v h0
    have hp : 2 ^ k ≤ 8 := Nat.pow_le_pow_right (n := 2) (j := 3) (by decide) (by omega)
    have HP := Lib.hid hp
    have hb8 : fr k v ≤ 8 := by omega
    have HV : Hid (bk f v = 1 + v.log2 * 2 ^ f + fr f v) := by show _ = _; unfold bk; rw [if_neg h0]
    clear hb hp hfz
    by_cases hlt : k < f
    · by_cases hd : k + 1 ≤ v.log2
      · rw [if_pos hd] at HN
        go_wp2_with fail
        go_round
        case rel => exact ⟨k + 1, by omega, by go_num, by rw [HN.out]; exact int_eq (digit_val _ _ _ hb8)⟩
        case measure => simp [RowKit.intOf]; omega
      · rw [if_neg hd] at HN
        go_wp2_with fail
        go_round
        case rel => exact ⟨k + 1, by omega, by go_num, by rw [HN.out]; exact int_eq (by omega)⟩
        case measure => simp [RowKit.intOf]; omega
    · obtain rfl : k = f := by omega
      go_wp2_with fail
      go_ret
      exact ⟨ret_int (by rw [HV.out]; exact sum_val hL hf hb8), rfl⟩
theorem rbucket_zero (f : Nat) (hf : f ≤ 3) (w : World) :
    Calls Tryz.prog 71 #[.int .i64 f, .int .u64 0] w fun e w' => e = .returned (.int .i64 0) ∧ w = w' := by
  go_enter Tryz.func71, Tryz.ntmps71
  go_wp2
  go_ret
  exact ⟨rfl, rfl⟩
theorem rbucket_bad (f v : Int) (hf : fineB f = false) (w : World) :
    Calls Tryz.prog 71 #[.int .i64 f, .int .u64 v] w fun e w' => e = .returned (.int .i64 0) ∧ w = w' := by
  have hc : f < 0 ∨ (0 ≤ f ∧ 3 < f) := by simp [fineB] at hf; omega
  rcases hc with h | ⟨h1, h⟩
  all_goals
    go_enter Tryz.func71, Tryz.ntmps71
    go_wp2
    go_ret
    exact ⟨rfl, rfl⟩
theorem rbucket_any (f v : Int) (hv : U v) (w : World) :
    Calls Tryz.prog 71 #[.int .i64 f, .int .u64 v] w fun e w' => e = .returned (.int .i64 (bucketF f v)) ∧ w = w' := by
  cases h : fineB f with
  | false => unfold bucketF; rw [if_neg (by simp [h])]; exact rbucket_bad f v h w
  | true =>
    obtain ⟨h1, h2⟩ := fine_of h
    obtain ⟨u1, u2⟩ := hv
    obtain ⟨F, rfl⟩ := Int.eq_ofNat_of_zero_le h1
    obtain ⟨V, rfl⟩ := Int.eq_ofNat_of_zero_le u1
    rw [bucketF_nat (by omega)]
    by_cases h0 : V = 0
    · subst h0; exact rbucket_zero F (by omega) w
    · exact rbucket_good F V (by omega) h0 (by omega) w
end
section
open Go.RowKit
set_option linter.unusedVariables false
set_option linter.unusedSimpArgs false
theorem lim_val {f : Nat} (hf : f ≤ 3) : wrap64 (64 * 2 ^ f) = ((64 * 2 ^ f : Nat) : Int) := by
  have hp : 2 ^ f ≤ 8 := Nat.pow_le_pow_right (n := 2) (j := 3) (by decide) hf
  have e : (64 : Int) * 2 ^ f = ((64 * 2 ^ f : Nat) : Int) := by simp
  rw [e, IntWalk.wrap64_in _ (by omega)]
theorem rbounds_none (f a : Int) (hf : f < 0 ∨ (0 ≤ f ∧ 3 < f) ∨ (0 ≤ f ∧ f ≤ 3 ∧ a < 0)) (w : World) :
    Calls Tryz.prog 61 #[.int .i64 f, .int .i64 a] w fun e w' => e = .returned (.tuple #[.int .u64 0, .int .u64 0, .bool false]) ∧ ∃ n, w' = w.drewN n := by
  rcases hf with h | ⟨h1, h2⟩ | ⟨h1, h2, h3⟩
  all_goals
    go_enter Tryz.func61, Tryz.ntmps61
    go_wp2
    exact bodyPost_ret (v := .tuple #[.int .u64 0, .int .u64 0, .bool false]) (by simp [results, Tryz.results61, go_sem]) rfl ⟨rfl, 0, rfl⟩
theorem rbounds_over (f A lim : Nat) (hf : f ≤ 3) (hl : wrap64 (64 * 2 ^ f) = (lim : Int)) (hA : lim ≤ A) (w : World) :
    Calls Tryz.prog 61 #[.int .i64 f, .int .i64 (A + 1)] w fun e w' => e = .returned (.tuple #[.int .u64 0, .int .u64 0, .bool false]) ∧ ∃ n, w' = w.drewN n := by
  have d : decide ((lim : Int) < (A : Int) + 1) = true := by simp; omega
  go_enter Tryz.func61, Tryz.ntmps61
  go_wp2
  exact bodyPost_ret (v := .tuple #[.int .u64 0, .int .u64 0, .bool false]) (by simp [results, Tryz.results61, go_sem]) rfl ⟨rfl, 0, rfl⟩
def rwideB (f b p : Nat) : Bool := decide (2 ^ f ≤ p) || decide (b < f) ||
    (IntKind.u64.wrap (((p : Int) + ((2 ^ f : Nat) : Int)) * 2 ^ (b - f)) == ((2 ^ b + p * 2 ^ (b - f) : Nat) : Int) &&
    IntKind.u64.wrap (IntKind.u64.wrap (((p : Int) + ((2 ^ f : Nat) : Int)) * 2 ^ (b - f)) + IntKind.u64.wrap (IntKind.u64.wrap (2 ^ (b - f)) - 1)) == ((2 ^ b + p * 2 ^ (b - f) + (2 ^ (b - f) - 1) : Nat) : Int))
theorem rwide_all : ((List.range 4).all fun f => (List.range 64).all fun b => (List.range 8).all fun p => rwideB f b p) = true := by decide +kernel
theorem rwide_val (f : Nat) (hf : f < 4) (b : Nat) (hb : b < 64) (p : Nat) (hp : p < 8) (h1 : p < 2 ^ f) (h2 : f ≤ b) :
    IntKind.u64.wrap (((p : Int) + ((2 ^ f : Nat) : Int)) * 2 ^ (b - f)) = ((2 ^ b + p * 2 ^ (b - f) : Nat) : Int) ∧
    IntKind.u64.wrap (IntKind.u64.wrap (((p : Int) + ((2 ^ f : Nat) : Int)) * 2 ^ (b - f)) + IntKind.u64.wrap (IntKind.u64.wrap (2 ^ (b - f)) - 1)) = ((2 ^ b + p * 2 ^ (b - f) + (2 ^ (b - f) - 1) : Nat) : Int) := by
  have := all3 rwide_all hf hb hp
  unfold rwideB at this
  rw [decide_eq_false (by omega), decide_eq_false (by omega), Bool.false_or, Bool.false_or, Bool.and_eq_true, beq_iff_eq, beq_iff_eq] at this
  exact this
def rthinB (f b p : Nat) : Bool := decide (2 ^ f ≤ p) || decide (f ≤ b) ||
    ((p + 2 ^ f) / 2 ^ (f - b) == 2 ^ b + p / 2 ^ (f - b) && (bk f ((p + 2 ^ f) / 2 ^ (f - b)) == b * 2 ^ f + p + 1) == decide (p % 2 ^ (f - b) = 0))
theorem rthin_all : ((List.range 4).all fun f => (List.range 4).all fun b => (List.range 8).all fun p => rthinB f b p) = true := by decide +kernel
theorem rthin_val (f : Nat) (hf : f < 4) (b : Nat) (hb : b < 4) (p : Nat) (hp : p < 8) (h1 : p < 2 ^ f) (h2 : b < f) :
    (p + 2 ^ f) / 2 ^ (f - b) = 2 ^ b + p / 2 ^ (f - b) ∧ (bk f ((p + 2 ^ f) / 2 ^ (f - b)) == b * 2 ^ f + p + 1) = decide (p % 2 ^ (f - b) = 0) := by
  have := all3 rthin_all hf hb hp
  unfold rthinB at this
  rw [decide_eq_false (by omega), decide_eq_false (by omega), Bool.false_or, Bool.false_or, Bool.and_eq_true, beq_iff_eq, beq_iff_eq] at this
  exact this
theorem rbounds_wide (f A lim m p : Nat) (hm : wrap64 (2 ^ f) = (m : Int)) (m1 : 1 ≤ m) (m8 : m ≤ 8) (p8 : p < 8) (hp : (A : Int).tmod (m : Int) = (p : Int)) (hf : f ≤ 3) (hl : wrap64 (64 * 2 ^ f) = (lim : Int)) (hA : A < lim) (hlim : lim ≤ 512) (hb : A / 2 ^ f < 64) (hfb : f ≤ A / 2 ^ f) (w : World) :
    Calls Tryz.prog 61 #[.int .i64 f, .int .i64 (A + 1)] w fun e w' => e = .returned (.tuple #[.int .u64 (IntKind.u64.wrap (((p : Int) + (m : Int)) * 2 ^ (A / 2 ^ f - f))), .int .u64 (IntKind.u64.wrap (IntKind.u64.wrap (((p : Int) + (m : Int)) * 2 ^ (A / 2 ^ f - f)) + IntKind.u64.wrap (IntKind.u64.wrap (2 ^ (A / 2 ^ f - f)) - 1))), .bool true]) ∧ ∃ n, w' = w.drewN n := by
  have d : decide ((lim : Int) < (A : Int) + 1) = false := by simp; omega
  have h1 : (((A : Int) + 1) == 0) = false := by simp; omega
  have q1 := shr_f f A
  have mz : ((m : Int) == 0) = false := by simp; omega
  have s1 : wrap64 ((p : Int) + (m : Int)) = (p : Int) + (m : Int) := IntWalk.wrap64_in _ (by omega)
  generalize A / 2 ^ f = b at *
  go_enter Tryz.func61, Tryz.ntmps61
  go_wp2_with fail
  go_quiet (fail)
  go_wp2_with fail
  go_quiet (fail)
  go_wp2_with fail
  exact bodyPost_ret (v := .tuple #[.int .u64 (IntKind.u64.wrap (((p : Int) + (m : Int)) * 2 ^ (b - f))), .int .u64 (IntKind.u64.wrap (IntKind.u64.wrap (((p : Int) + (m : Int)) * 2 ^ (b - f)) + IntKind.u64.wrap (IntKind.u64.wrap (2 ^ (b - f)) - 1))), .bool true]) (by simp [results, Tryz.results61, go_sem]) rfl ⟨rfl, _, drewN_two _ _ _⟩
theorem rbounds_thin (f A lim m p LO : Nat) (d : Bool) (hm : wrap64 (2 ^ f) = (m : Int)) (m1 : 1 ≤ m) (m8 : m ≤ 8) (p8 : p < 8) (hp : (A : Int).tmod (m : Int) = (p : Int)) (hf : f ≤ 3) (hl : wrap64 (64 * 2 ^ f) = (lim : Int)) (hA : A < lim) (hlim : lim ≤ 512) (hfb : A / 2 ^ f < f) (hlo : ((p : Int) + (m : Int)) / 2 ^ (f - A / 2 ^ f) = (LO : Int)) (LO8 : LO ≤ 16) (hd : (bucketF f LO != (A : Int) + 1) = d) (w : World) :
    Calls Tryz.prog 61 #[.int .i64 f, .int .i64 (A + 1)] w fun e w' => e = .returned (if d = true then .tuple #[.int .u64 0, .int .u64 0, .bool false] else .tuple #[.int .u64 LO, .int .u64 LO, .bool true]) ∧ ∃ n, w' = w.drewN n := by
  have dd : decide ((lim : Int) < (A : Int) + 1) = false := by simp; omega
  have h1 : (((A : Int) + 1) == 0) = false := by simp; omega
  have q1 := shr_f f A
  have mz : ((m : Int) == 0) = false := by simp; omega
  have s1 : wrap64 ((p : Int) + (m : Int)) = (p : Int) + (m : Int) := IntWalk.wrap64_in _ (by omega)
  have HB : ∀ w, Calls Tryz.prog 71 #[.int .i64 f, .int .u64 LO] w fun e w' => e = .returned (.int .i64 (bucketF f LO)) ∧ w = w' := fun w => rbucket_any f LO (by unfold U; omega) w
  have HC := Lib.hid HB
  clear HB
  generalize bucketF f LO = kb at *
  generalize A / 2 ^ f = b at *
  cases d with
  | true =>
    go_enter Tryz.func61, Tryz.ntmps61
    go_wp2_with fail
    go_quiet (fail)
    go_wp2_with fail
    refine (HC.out _).mono ?_
    rintro e w2 ⟨rfl, rfl⟩
    go_wp2_with fail
    exact bodyPost_ret (v := .tuple #[.int .u64 0, .int .u64 0, .bool false]) (by simp [results, Tryz.results61, go_sem]) rfl ⟨rfl, nq, rfl⟩
  | false =>
    go_enter Tryz.func61, Tryz.ntmps61
    go_wp2_with fail
    go_quiet (fail)
    go_wp2_with fail
    refine (HC.out _).mono ?_
    rintro e w2 ⟨rfl, rfl⟩
    go_wp2_with fail
    exact bodyPost_ret (v := .tuple #[.int .u64 LO, .int .u64 LO, .bool true]) (by simp [results, Tryz.results61, go_sem]) rfl ⟨rfl, nq, rfl⟩
theorem rbounds_zero (f lim : Nat) (hf : f ≤ 3) (hl : wrap64 (64 * 2 ^ f) = (lim : Int)) (w : World) :
    Calls Tryz.prog 61 #[.int .i64 f, .int .i64 0] w fun e w' => e = .returned (.tuple #[.int .u64 0, .int .u64 0, .bool true]) ∧ ∃ n, w' = w.drewN n := by
  have d : decide ((lim : Int) < 0) = false := by simp
  go_enter Tryz.func61, Tryz.ntmps61
  go_wp2
  exact bodyPost_ret (v := .tuple #[.int .u64 0, .int .u64 0, .bool true]) (by simp [results, Tryz.results61, go_sem]) rfl ⟨rfl, 0, rfl⟩
theorem rbounds_any (f a : Int) (ha : I64 a) (w : World) :
    Calls Tryz.prog 61 #[.int .i64 f, .int .i64 a] w fun e w' => e = .returned (bdV (boundsF f a)) ∧ ∃ n, w' = w.drewN n := by
  cases h : fineB f with
  | false => have e : boundsF f a = (0, 0, false) := by unfold boundsF; rw [if_neg (by simp [h])]
             rw [e]; exact rbounds_none f a (by simp [fineB] at h; omega) w
  | true =>
    obtain ⟨h1, h2⟩ := fine_of h
    obtain ⟨F, rfl⟩ := Int.eq_ofNat_of_zero_le h1
    have hF : F ≤ 3 := by omega
    by_cases hn : a < 0
    · have e : boundsF F a = (0, 0, false) := by unfold boundsF; rw [if_neg (by omega)]
      rw [e]; exact rbounds_none F a (.inr (.inr ⟨by omega, by omega, hn⟩)) w
    · obtain ⟨a, rfl⟩ := Int.eq_ofNat_of_zero_le (show 0 ≤ a by omega)
      rw [boundsF_nat hF]
      unfold I64 at ha
      have hp : 2 ^ F ≤ 8 := Nat.pow_le_pow_right (n := 2) (j := 3) (by decide) hF
      have hp1 : 1 ≤ 2 ^ F := Nat.two_pow_pos F
      cases a with
      | zero => exact rbounds_zero F _ hF (lim_val hF) w
      | succ A =>
        have hdm := Nat.div_add_mod A (2 ^ F)
        have hml := Nat.mod_lt A (Nat.two_pow_pos F)
        have hm : wrap64 ((2 : Int) ^ F) = ((2 ^ F : Nat) : Int) := by
          have e0 : (2 : Int) ^ F = ((2 ^ F : Nat) : Int) := by simp
          rw [e0, IntWalk.wrap64_in _ (by omega)]
        have htm : (A : Int).tmod ((2 ^ F : Nat) : Int) = ((A % 2 ^ F : Nat) : Int) := (Int.ofNat_tmod _ _).symm
        unfold bnd
        rw [if_neg (by omega), Nat.add_sub_cancel]
        by_cases c1 : 64 ≤ A / 2 ^ F
        · rw [if_pos c1]
          exact rbounds_over F A _ hF (lim_val hF) ((Nat.le_div_iff_mul_le (Nat.two_pow_pos F)).1 c1) w
        · rw [if_neg c1]
          have hA : A < 64 * 2 ^ F := (Nat.div_lt_iff_lt_mul (Nat.two_pow_pos F)).1 (by omega)
          have hlim : 64 * 2 ^ F ≤ 512 := by omega
          by_cases c2 : F ≤ A / 2 ^ F
          · rw [if_pos c2]
            obtain ⟨e1, e2⟩ := rwide_val F (by omega) (A / 2 ^ F) (by omega) (A % 2 ^ F) (by omega) hml c2
            have := rbounds_wide F A _ (2 ^ F) (A % 2 ^ F) hm hp1 hp (by omega) htm hF (lim_val hF) hA hlim (by omega) c2 w
            rw [e2, e1] at this
            exact this
          · rw [if_neg c2]
            obtain ⟨e1, e2⟩ := rthin_val F (by omega) (A / 2 ^ F) (by omega) (A % 2 ^ F) (by omega) hml (by omega)
            have hsum : A / 2 ^ F * 2 ^ F + A % 2 ^ F + 1 = A + 1 := by rw [Nat.mul_comm]; omega
            rw [hsum] at e2
            have hlo : (((A % 2 ^ F : Nat) : Int) + ((2 ^ F : Nat) : Int)) / 2 ^ (F - A / 2 ^ F) = (((A % 2 ^ F + 2 ^ F) / 2 ^ (F - A / 2 ^ F) : Nat) : Int) := by
              have : ((A % 2 ^ F : Nat) : Int) + ((2 ^ F : Nat) : Int) = ((A % 2 ^ F + 2 ^ F : Nat) : Int) := by omega
              rw [this, shr_f]
            have hle : (A % 2 ^ F + 2 ^ F) / 2 ^ (F - A / 2 ^ F) ≤ 16 := Nat.le_trans (Nat.div_le_self _ _) (by omega)
            have hd : (bucketF F (((A % 2 ^ F + 2 ^ F) / 2 ^ (F - A / 2 ^ F) : Nat) : Int) != (A : Int) + 1) = !decide (A % 2 ^ F % 2 ^ (F - A / 2 ^ F) = 0) := by
              rw [bucketF_nat hF, ← e2]
              generalize bk F _ = z
              by_cases hz : z = A + 1
              · subst hz; simp
              · have h5 : ¬ (z : Int) = (A : Int) + 1 := by omega
                have h6 : ((z : Int) == (A : Int) + 1) = false := by simp [h5]
                have h7 : (z == A + 1) = false := by simp [hz]
                rw [bne, h6, h7]
            have := rbounds_thin F A _ (2 ^ F) (A % 2 ^ F) _ _ hm hp1 hp (by omega) htm hF (lim_val hF) hA hlim (by omega) hlo hle hd w
            by_cases c3 : A % 2 ^ F % 2 ^ (F - A / 2 ^ F) = 0
            · rw [if_pos c3]
              rw [decide_eq_true c3, e1] at this
              exact this
            · rw [if_neg c3]
              rw [decide_eq_false c3] at this
              exact this
end
section
open Go.RowKit
set_option linter.unusedVariables false
set_option linter.unusedSimpArgs false
theorem has_ge' {f a : Int} (h : (boundsF f a).2.2 = true) : 0 ≤ a := by
  unfold boundsF at h
  split at h
  · rename_i h1; exact h1.2
  · cases h
/-- Is bin k right, as the document says it? -/
theorem okI_alt {f : Int} {l : Bins} {k : Nat} : okI f l k = ((boundsF f (bth l k).1).2.2 && ((bth l k).2 != 0 && (decide (k = 0) || decide ((bth l (k - 1)).1 < (bth l k).1)))) := by
  unfold okI
  cases h : (boundsF f (bth l k).1).2.2
  · simp
  · cases h2 : (bth l k).2 != 0
    · simp
    · simp only [Bool.true_and]
      have := has_ge' h
      unfold bef
      by_cases h0 : k = 0
      · simp [h0]; subst h0; omega
      · simp [h0]
set_option maxRecDepth 100000 in
set_option maxHeartbeats 4000000 in
theorem rright_any (f : Int) (A : Option Addr) (l : Bins) (cap : Nat) (hU : UBs l) (hl : l.length ≤ 9223372036854775806) (w : World) (hS : Sb w w.heap.size A l) :
    Calls Tryz.prog 50 #[.agg #[.int .i64 f, .slice A l.length cap]] w fun e w' => e = .returned (.bool (rightB f l)) ∧ Below w.heap.size w w' := by
  have T : Below w.heap.size w (w.alloc (.cells #[.int .i64 f, .slice A l.length cap] 46)) := below_al (below_0 _) _
  have HI : Hid (RightI w f A l.length cap (w.alloc (.cells #[.int .i64 f, .slice A l.length cap] 46))) := ⟨Blk.new w _ _, T⟩
  have HS := Lib.hid hS
  clear hS T
  go_enter Tryz.func50, Tryz.ntmps50
  go_wp2_with fail
  go_loopw [3] (fun i wr => ∃ k : Nat, k ≤ l.length ∧ i = .int .i64 k ∧ Hid (okTo f l k = true) ∧ RightI w f A l.length cap wr) (fun i _ => l.length - (RowKit.intOf i).toNat)
  case atStart => exact ⟨0, Nat.zero_le _, rfl, rfl, HI.out⟩
  case round =>
    obtain ⟨k, hk, rfl, HK, X, T⟩ := hrel
    clear HI
    have x0 := X.d0
    have x1 := X.d1
    have zx := X.lt
    have HX := Lib.hid X
    clear X
    by_cases hlt : k < l.length
    · obtain ⟨b, off, rfl, hb, hcs⟩ := HS.out.at_ (by omega)
      obtain ⟨h1, h2⟩ := hcs k hlt
      have i1 := (T.cell (p := ⟨b, off + k * 2, none⟩) hb).trans h1
      have i2 := (T.cell (p := ⟨b, off + k * 2 + 1, none⟩) hb).trans h2
      have HPV : Hid (0 < k → wr.cell? ⟨b, off + (k - 1) * 2, none⟩ = some (.int .i64 (bth l (k - 1)).1)) := fun h => (T.cell (p := ⟨b, off + (k - 1) * 2, none⟩) hb).trans (hcs (k - 1) (by omega)).1
      have hbw : b < wr.heap.size := by have := T.size; omega
      have HN : Hid (okTo f l (k + 1) = okI f l k) := by show _ = _; rw [okTo_succ, HK.out, Bool.true_and]
      have HB : Hid (okI f l k = false → okTo f l l.length = false) := fun h => okTo_bad hlt h
      have HV := Lib.hid (okI_alt (f := f) (l := l) (k := k))
      obtain ⟨u1, u2⟩ := bth_U hU k
      have QB : Hid (∀ w, Calls Tryz.prog 61 #[.int .i64 f, .int .i64 (bth l k).1] w fun e w' => e = .returned (bdV (boundsF f (bth l k).1)) ∧ ∃ n, w' = w.drewN n) := fun w => rbounds_any f _ u1 w
      generalize bth l k = it at *
      generalize boundsF f it.1 = q at *
      have hi1 : (0 : Int) ≤ (k : Int) := by omega
      have hi2 : (k : Int) < (l.length : Int) := by omega
      clear hcs h1 h2
      cases c1 : q.2.2 with
      | false =>
        rw [bdV, c1] at QB
        have HR : Hid (okTo f l l.length = false) := HB.out (by rw [HV.out, c1]; simp)
        clear c1
        go_wp2_with fail
        go_quiet ((go_at_call 61; exact Calls.quiet_of (QB.out _)))
        go_wp2_with fail
        go_quiet (fail)
        go_wp2_with fail
        go_ret
        exact ⟨ret_bool (by simp [rightB, HR.out]), below_drew (below_drew T _) _⟩
      | true =>
        rw [bdV, c1] at QB
        by_cases c2 : it.2 = 0
        · have d2 : (it.2 == 0) = true := by simp [c2]
          have HR : Hid (okTo f l l.length = false) := HB.out (by rw [HV.out]; simp [c2])
          clear c2 c1
          go_wp2_with fail
          go_quiet ((go_at_call 61; exact Calls.quiet_of (QB.out _)))
          go_wp2_with fail
          go_quiet (fail)
          go_wp2_with fail
          go_ret
          exact ⟨ret_bool (by simp [rightB, HR.out]), below_drew (below_drew T _) _⟩
        · have d2 : (it.2 == 0) = false := by simp [c2]
          by_cases c3 : k = 0
          · have HR : Hid (okTo f l (k + 1) = true) := by show _ = _; rw [HN.out, HV.out, c1]; simp [c2, c3]
            have d3 : decide ((0 : Int) < (k : Int)) = false := by simp; omega
            have d3' : decide (0 < k) = false := by simp; omega
            have d3n : ¬ 0 < k := by omega
            clear c2 c1 c3
            go_wp2_with fail
            go_quiet ((go_at_call 61; exact Calls.quiet_of (QB.out _)))
            go_wp2_with fail
            go_quiet (fail)
            go_wp2_with fail
            go_roundw
            case rel => exact ⟨k + 1, by omega, by go_num, HR, HX.out.drewN _, below_drew T _⟩
            case measure => simp [RowKit.intOf]; omega
          · have j1 := HPV.out (by omega)
            have c3' : decide (k = 0) = false := by simp [c3]
            have k1 : (0 : Int) < (k : Int) := by omega
            have k2 : ((k : Int) - 1).toNat = k - 1 := by omega
            have k3 : (0 : Int) ≤ (k : Int) - 1 := by omega
            have k4 : (k : Int) - 1 < (l.length : Int) := by omega
            have k5 : IntKind.i64.wrap ((k : Int) - 1) = (k : Int) - 1 := IntWalk.i64_in _ (by omega)
            have k6 : wrap64 ((k : Int) - 1) = (k : Int) - 1 := IntWalk.wrap64_in _ (by omega)
            have k7 : 0 < k := by omega
            have k8 : (1 : Int) ≤ (k : Int) := by omega
            rw [c3', Bool.false_or] at HV
            generalize bth l (k - 1) = pv at *
            by_cases c4 : pv.1 < it.1
            · have d4 : decide (it.1 ≤ pv.1) = false := by simp; omega
              have HR : Hid (okTo f l (k + 1) = true) := by show _ = _; rw [HN.out, HV.out, c1]; simp [c2, c4]
              clear c2 c1 c3 c3'
              go_wp2_with fail
              go_quiet ((go_at_call 61; exact Calls.quiet_of (QB.out _)))
              go_wp2_with fail
              go_quiet (fail)
              go_wp2_with fail
              go_roundw
              case rel => exact ⟨k + 1, by omega, by go_num, HR, HX.out.drewN _, below_drew T _⟩
              case measure => simp [RowKit.intOf]; omega
            · have d4 : decide (it.1 ≤ pv.1) = true := by simp; omega
              have HR : Hid (okTo f l l.length = false) := HB.out (by rw [HV.out]; simp [c4])
              clear c2 c1 c3 c3'
              go_wp2_with fail
              go_quiet ((go_at_call 61; exact Calls.quiet_of (QB.out _)))
              go_wp2_with fail
              go_quiet (fail)
              go_wp2_with fail
              go_ret
              exact ⟨ret_bool (by simp [rightB, HR.out]), below_drew (below_drew T _) _⟩
    · obtain rfl : k = l.length := by omega
      by_cases h1 : 0 ≤ f
      · go_wp2_with fail
        go_ret
        exact ⟨ret_bool (by simp [rightB, HK.out, fineB, h1]), T⟩
      · go_wp2_with fail
        go_ret
        exact ⟨ret_bool (by simp [rightB, HK.out, fineB]; omega), T⟩
end
section
open Go.RowKit
set_option linter.unusedVariables false
set_option linter.unusedSimpArgs false
set_option maxRecDepth 100000 in
set_option maxHeartbeats 2000000 in
theorem rsame_any (f g : Int) (A C : Option Addr) (l m : Bins) (cap capy : Nat) (hl : l.length ≤ 65536) (hm : m.length ≤ 65536) (w : World) (hS : Sb w w.heap.size A l) (hT : Sb w w.heap.size C m) :
    Calls Tryz.prog 53 #[.agg #[.int .i64 f, .slice A l.length cap], .agg #[.int .i64 g, .slice C m.length capy]] w fun e w' => e = .returned (.bool (sameH f l g m)) ∧ Below w.heap.size w w' := by
  have T : Below w.heap.size w ((w.alloc (.cells #[.int .i64 f, .slice A l.length cap] 46)).alloc (.cells #[.int .i64 g, .slice C m.length capy] 46)) := below_al (below_al (below_0 _) _) _
  have X := Lib.hid ((Blk.new w 46 #[.int .i64 f, .slice A l.length cap]).alloc (.cells #[.int .i64 g, .slice C m.length capy] 46))
  have Y := Lib.hid (Blk.new2 w (.cells #[.int .i64 f, .slice A l.length cap] 46) 46 #[.int .i64 g, .slice C m.length capy])
  have HS := Lib.hid hS
  have HT := Lib.hid hT
  clear hS hT
  by_cases c1 : f = g
  · subst c1
    by_cases c2 : l.length = m.length
    · have dl : ((l.length : Int) != (m.length : Int)) = false := by simp; omega
      have HL := Lib.hid c2
      have HI : Hid (SmI w f f A C l.length m.length cap capy ((w.alloc (.cells #[.int .i64 f, .slice A l.length cap] 46)).alloc (.cells #[.int .i64 f, .slice C m.length capy] 46))) := ⟨X.out, Y.out, T⟩
      clear c2 X Y T
      go_enter Tryz.func53, Tryz.ntmps53
      go_wp2_with fail
      go_loopw [5] (fun i wr => ∃ k : Nat, k ≤ l.length ∧ i = .int .i64 k ∧ Hid (l.take k = m.take k) ∧ SmI w f f A C l.length m.length cap capy wr) (fun i _ => l.length - (RowKit.intOf i).toNat)
      case atStart => exact ⟨0, Nat.zero_le _, rfl, rfl, HI.out⟩
      case round =>
        obtain ⟨k, hk, rfl, HE, X, Y, T⟩ := hrel
        clear HI
        have x0 := X.d0
        have x1 := X.d1
        have zx := X.lt
        have y1 := Y.d1
        have zy := Y.lt
        have HX := Lib.hid X
        have HY := Lib.hid Y
        clear X Y
        by_cases hlt : k < l.length
        · have hlt2 : k < m.length := by have := HL.out; omega
          obtain ⟨b, off, rfl, hb, hcs⟩ := HS.out.at_ (by omega)
          obtain ⟨b2, off2, rfl, hb2, hcs2⟩ := HT.out.at_ (by omega)
          obtain ⟨h1, h2⟩ := hcs k hlt
          obtain ⟨h3, h4⟩ := hcs2 k hlt2
          have i1 := (T.cell (p := ⟨b, off + k * 2, none⟩) hb).trans h1
          have i2 := (T.cell (p := ⟨b, off + k * 2 + 1, none⟩) hb).trans h2
          have i3 := (T.cell (p := ⟨b2, off2 + k * 2, none⟩) hb2).trans h3
          have i4 := (T.cell (p := ⟨b2, off2 + k * 2 + 1, none⟩) hb2).trans h4
          have hbw : b < wr.heap.size := by have := T.size; omega
          have hbw2 : b2 < wr.heap.size := by have := T.size; omega
          have HN : Hid (bth l k = bth m k → l.take (k + 1) = m.take (k + 1)) := fun h => take_eq_succ hlt hlt2 HE.out h
          have HD : Hid (bth l k ≠ bth m k → l ≠ m) := fun h e => h (by rw [e])
          generalize bth l k = p at *
          generalize bth m k = q at *
          have hi1 : (0 : Int) ≤ (k : Int) := by omega
          have hi2 : (k : Int) < (l.length : Int) := by omega
          have hi3 : (k : Int) < (m.length : Int) := by omega
          clear hcs hcs2 h1 h2 h3 h4
          have gb := guard_bin
          by_cases c : p = q
          · have nb := neq_bin p q false (by simp [c])
            have HE2 := Lib.hid (HN.out c)
            clear c
            go_wp2_with fail
            go_quiet (fail)
            go_wp2_with fail
            go_roundw
            case rel => exact ⟨k + 1, by omega, by go_num, HE2, HX.out.drewN _, HY.out.drewN _, below_drew T _⟩
            case measure => simp [RowKit.intOf]; omega
          · have nb := neq_bin p q true (by simp [c])
            have HE2 := Lib.hid (HD.out c)
            clear c
            go_wp2_with fail
            go_quiet (fail)
            go_wp2_with fail
            go_ret
            exact ⟨ret_bool (by simp [sameH, HE2.out]), below_drew T _⟩
        · obtain rfl : k = l.length := by omega
          have HR : Hid (l = m) := bins_eq_take HL.out _ rfl HE.out
          go_wp2_with fail
          go_ret
          exact ⟨ret_bool (by simp [sameH, HR.out]), T⟩
    · have dl : ((l.length : Int) != (m.length : Int)) = true := by simp; omega
      go_enter Tryz.func53, Tryz.ntmps53
      go_wp2_with fail
      go_ret
      exact ⟨ret_bool (by simp [sameH]; intro e; exact c2 (by rw [e])), T⟩
  · have d1 : (f != g) = true := by simp [c1]
    go_enter Tryz.func53, Tryz.ntmps53
    go_wp2_with fail
    go_ret
    exact ⟨ret_bool (by simp [sameH, c1]), T⟩
end
end Go.Proofs.YtoffmclbnobllaaGreatDoor.Hi

/-
  The document's own Bounds.
-/
import Derived.Test.YtopddcabaiicgaaHistRef1
namespace Go.Proofs.Ytopddcabaiicgaa
open Go.RowKit
set_option linter.unusedVariables false
set_option linter.unusedSimpArgs false
theorem lim_val {f : Nat} (hf : f ≤ 3) : wrap64 (64 * 2 ^ f) = ((64 * 2 ^ f : Nat) : Int) := by
  have hp : 2 ^ f ≤ 8 := Nat.pow_le_pow_right (n := 2) (j := 3) (by decide) hf
  have e : (64 : Int) * 2 ^ f = ((64 * 2 ^ f : Nat) : Int) := by simp
  rw [e, IntWalk.wrap64_in _ (by omega)]
theorem rbounds_none (f a : Int) (hf : f < 0 ∨ (0 ≤ f ∧ 3 < f) ∨ (0 ≤ f ∧ f ≤ 3 ∧ a < 0)) (w : World) :
    Calls Try.prog 14 #[.int .i64 f, .int .i64 a] w fun e w' => e = .returned (.tuple #[.int .u64 0, .int .u64 0, .bool false]) ∧ ∃ n, w' = w.drewN n := by
  rcases hf with h | ⟨h1, h2⟩ | ⟨h1, h2, h3⟩
  all_goals
    go_enter Try.func14, Try.ntmps14
    go_wp2
    exact bodyPost_ret (v := .tuple #[.int .u64 0, .int .u64 0, .bool false]) (by simp [results, Try.results14, go_sem]) rfl ⟨rfl, 0, rfl⟩
theorem rbounds_over (f A lim : Nat) (hf : f ≤ 3) (hl : wrap64 (64 * 2 ^ f) = (lim : Int)) (hA : lim ≤ A) (w : World) :
    Calls Try.prog 14 #[.int .i64 f, .int .i64 (A + 1)] w fun e w' => e = .returned (.tuple #[.int .u64 0, .int .u64 0, .bool false]) ∧ ∃ n, w' = w.drewN n := by
  have d : decide ((lim : Int) < (A : Int) + 1) = true := by simp; omega
  go_enter Try.func14, Try.ntmps14
  go_wp2
  exact bodyPost_ret (v := .tuple #[.int .u64 0, .int .u64 0, .bool false]) (by simp [results, Try.results14, go_sem]) rfl ⟨rfl, 0, rfl⟩
def rwideB (f b p : Nat) : Bool := decide (2 ^ f ≤ p) || decide (b < f) ||
    (IntKind.u64.wrap (((p : Int) + ((2 ^ f : Nat) : Int)) * 2 ^ (b - f)) == ((2 ^ b + p * 2 ^ (b - f) : Nat) : Int) &&
    IntKind.u64.wrap (IntKind.u64.wrap (((p : Int) + ((2 ^ f : Nat) : Int)) * 2 ^ (b - f)) + IntKind.u64.wrap (IntKind.u64.wrap (2 ^ (b - f)) - 1)) == ((2 ^ b + p * 2 ^ (b - f) + (2 ^ (b - f) - 1) : Nat) : Int))
theorem rwide_all : ((List.range 4).all fun f => (List.range 64).all fun b => (List.range 8).all fun p => rwideB f b p) = true := by decide +kernel
theorem rwide_val (f : Nat) (hf : f < 4) (b : Nat) (hb : b < 64) (p : Nat) (hp : p < 8) (h1 : p < 2 ^ f) (h2 : f ≤ b) :
    IntKind.u64.wrap (((p : Int) + ((2 ^ f : Nat) : Int)) * 2 ^ (b - f)) = ((2 ^ b + p * 2 ^ (b - f) : Nat) : Int) ∧
    IntKind.u64.wrap (IntKind.u64.wrap (((p : Int) + ((2 ^ f : Nat) : Int)) * 2 ^ (b - f)) + IntKind.u64.wrap (IntKind.u64.wrap (2 ^ (b - f)) - 1)) = ((2 ^ b + p * 2 ^ (b - f) + (2 ^ (b - f) - 1) : Nat) : Int) := by
  have := all3 rwide_all hf hb hp
  unfold rwideB at this
  rw [decide_eq_false (by omega), decide_eq_false (by omega), Bool.false_or, Bool.false_or, Bool.and_eq_true, beq_iff_eq, beq_iff_eq] at this
  exact this
def rthinB (f b p : Nat) : Bool := decide (2 ^ f ≤ p) || decide (f ≤ b) ||
    ((p + 2 ^ f) / 2 ^ (f - b) == 2 ^ b + p / 2 ^ (f - b) && (bk f ((p + 2 ^ f) / 2 ^ (f - b)) == b * 2 ^ f + p + 1) == decide (p % 2 ^ (f - b) = 0))
theorem rthin_all : ((List.range 4).all fun f => (List.range 4).all fun b => (List.range 8).all fun p => rthinB f b p) = true := by decide +kernel
theorem rthin_val (f : Nat) (hf : f < 4) (b : Nat) (hb : b < 4) (p : Nat) (hp : p < 8) (h1 : p < 2 ^ f) (h2 : b < f) :
    (p + 2 ^ f) / 2 ^ (f - b) = 2 ^ b + p / 2 ^ (f - b) ∧ (bk f ((p + 2 ^ f) / 2 ^ (f - b)) == b * 2 ^ f + p + 1) = decide (p % 2 ^ (f - b) = 0) := by
  have := all3 rthin_all hf hb hp
  unfold rthinB at this
  rw [decide_eq_false (by omega), decide_eq_false (by omega), Bool.false_or, Bool.false_or, Bool.and_eq_true, beq_iff_eq, beq_iff_eq] at this
  exact this
theorem rbounds_wide (f A lim m p : Nat) (hm : wrap64 (2 ^ f) = (m : Int)) (m1 : 1 ≤ m) (m8 : m ≤ 8) (p8 : p < 8) (hp : (A : Int).tmod (m : Int) = (p : Int)) (hf : f ≤ 3) (hl : wrap64 (64 * 2 ^ f) = (lim : Int)) (hA : A < lim) (hlim : lim ≤ 512) (hb : A / 2 ^ f < 64) (hfb : f ≤ A / 2 ^ f) (w : World) :
    Calls Try.prog 14 #[.int .i64 f, .int .i64 (A + 1)] w fun e w' => e = .returned (.tuple #[.int .u64 (IntKind.u64.wrap (((p : Int) + (m : Int)) * 2 ^ (A / 2 ^ f - f))), .int .u64 (IntKind.u64.wrap (IntKind.u64.wrap (((p : Int) + (m : Int)) * 2 ^ (A / 2 ^ f - f)) + IntKind.u64.wrap (IntKind.u64.wrap (2 ^ (A / 2 ^ f - f)) - 1))), .bool true]) ∧ ∃ n, w' = w.drewN n := by
  have d : decide ((lim : Int) < (A : Int) + 1) = false := by simp; omega
  have h1 : (((A : Int) + 1) == 0) = false := by simp; omega
  have q1 := shr_f f A
  have mz : ((m : Int) == 0) = false := by simp; omega
  have s1 : wrap64 ((p : Int) + (m : Int)) = (p : Int) + (m : Int) := IntWalk.wrap64_in _ (by omega)
  generalize A / 2 ^ f = b at *
  go_enter Try.func14, Try.ntmps14
  go_wp2_with fail
  go_quiet (fail)
  go_wp2_with fail
  go_quiet (fail)
  go_wp2_with fail
  exact bodyPost_ret (v := .tuple #[.int .u64 (IntKind.u64.wrap (((p : Int) + (m : Int)) * 2 ^ (b - f))), .int .u64 (IntKind.u64.wrap (IntKind.u64.wrap (((p : Int) + (m : Int)) * 2 ^ (b - f)) + IntKind.u64.wrap (IntKind.u64.wrap (2 ^ (b - f)) - 1))), .bool true]) (by simp [results, Try.results14, go_sem]) rfl ⟨rfl, _, drewN_two _ _ _⟩
theorem rbounds_thin (f A lim m p LO : Nat) (d : Bool) (hm : wrap64 (2 ^ f) = (m : Int)) (m1 : 1 ≤ m) (m8 : m ≤ 8) (p8 : p < 8) (hp : (A : Int).tmod (m : Int) = (p : Int)) (hf : f ≤ 3) (hl : wrap64 (64 * 2 ^ f) = (lim : Int)) (hA : A < lim) (hlim : lim ≤ 512) (hfb : A / 2 ^ f < f) (hlo : ((p : Int) + (m : Int)) / 2 ^ (f - A / 2 ^ f) = (LO : Int)) (LO8 : LO ≤ 16) (hd : (bucketF f LO != (A : Int) + 1) = d) (w : World) :
    Calls Try.prog 14 #[.int .i64 f, .int .i64 (A + 1)] w fun e w' => e = .returned (if d = true then .tuple #[.int .u64 0, .int .u64 0, .bool false] else .tuple #[.int .u64 LO, .int .u64 LO, .bool true]) ∧ ∃ n, w' = w.drewN n := by
  have dd : decide ((lim : Int) < (A : Int) + 1) = false := by simp; omega
  have h1 : (((A : Int) + 1) == 0) = false := by simp; omega
  have q1 := shr_f f A
  have mz : ((m : Int) == 0) = false := by simp; omega
  have s1 : wrap64 ((p : Int) + (m : Int)) = (p : Int) + (m : Int) := IntWalk.wrap64_in _ (by omega)
  have HB : ∀ w, Calls Try.prog 18 #[.int .i64 f, .int .u64 LO] w fun e w' => e = .returned (.int .i64 (bucketF f LO)) ∧ w = w' := fun w => rbucket_any f LO (by unfold U; omega) w
  have HC := Lib.hid HB
  clear HB
  generalize bucketF f LO = kb at *
  generalize A / 2 ^ f = b at *
  cases d with
  | true =>
    go_enter Try.func14, Try.ntmps14
    go_wp2_with fail
    go_quiet (fail)
    go_wp2_with fail
    refine (HC.out _).mono ?_
    rintro e w2 ⟨rfl, rfl⟩
    go_wp2_with fail
    exact bodyPost_ret (v := .tuple #[.int .u64 0, .int .u64 0, .bool false]) (by simp [results, Try.results14, go_sem]) rfl ⟨rfl, nq, rfl⟩
  | false =>
    go_enter Try.func14, Try.ntmps14
    go_wp2_with fail
    go_quiet (fail)
    go_wp2_with fail
    refine (HC.out _).mono ?_
    rintro e w2 ⟨rfl, rfl⟩
    go_wp2_with fail
    exact bodyPost_ret (v := .tuple #[.int .u64 LO, .int .u64 LO, .bool true]) (by simp [results, Try.results14, go_sem]) rfl ⟨rfl, nq, rfl⟩
theorem rbounds_zero (f lim : Nat) (hf : f ≤ 3) (hl : wrap64 (64 * 2 ^ f) = (lim : Int)) (w : World) :
    Calls Try.prog 14 #[.int .i64 f, .int .i64 0] w fun e w' => e = .returned (.tuple #[.int .u64 0, .int .u64 0, .bool true]) ∧ ∃ n, w' = w.drewN n := by
  have d : decide ((lim : Int) < 0) = false := by simp
  go_enter Try.func14, Try.ntmps14
  go_wp2
  exact bodyPost_ret (v := .tuple #[.int .u64 0, .int .u64 0, .bool true]) (by simp [results, Try.results14, go_sem]) rfl ⟨rfl, 0, rfl⟩
theorem rbounds_any (f a : Int) (ha : I64 a) (w : World) :
    Calls Try.prog 14 #[.int .i64 f, .int .i64 a] w fun e w' => e = .returned (bdV (boundsF f a)) ∧ ∃ n, w' = w.drewN n := by
  cases h : fineB f with
  | false => have e : boundsF f a = (0, 0, false) := by unfold boundsF; rw [if_neg (by simp [h])]
             rw [e]; exact rbounds_none f a (by simp [fineB] at h; omega) w
  | true =>
    obtain ⟨h1, h2⟩ := fine_of h
    obtain ⟨F, rfl⟩ := Int.eq_ofNat_of_zero_le h1
    have hF : F ≤ 3 := by omega
    by_cases hn : a < 0
    · have e : boundsF F a = (0, 0, false) := by unfold boundsF; rw [if_neg (by omega)]
      rw [e]; exact rbounds_none F a (.inr (.inr ⟨by omega, by omega, hn⟩)) w
    · obtain ⟨a, rfl⟩ := Int.eq_ofNat_of_zero_le (show 0 ≤ a by omega)
      rw [boundsF_nat hF]
      unfold I64 at ha
      have hp : 2 ^ F ≤ 8 := Nat.pow_le_pow_right (n := 2) (j := 3) (by decide) hF
      have hp1 : 1 ≤ 2 ^ F := Nat.two_pow_pos F
      cases a with
      | zero => exact rbounds_zero F _ hF (lim_val hF) w
      | succ A =>
        have hdm := Nat.div_add_mod A (2 ^ F)
        have hml := Nat.mod_lt A (Nat.two_pow_pos F)
        have hm : wrap64 ((2 : Int) ^ F) = ((2 ^ F : Nat) : Int) := by
          have e0 : (2 : Int) ^ F = ((2 ^ F : Nat) : Int) := by simp
          rw [e0, IntWalk.wrap64_in _ (by omega)]
        have htm : (A : Int).tmod ((2 ^ F : Nat) : Int) = ((A % 2 ^ F : Nat) : Int) := (Int.ofNat_tmod _ _).symm
        unfold bnd
        rw [if_neg (by omega), Nat.add_sub_cancel]
        by_cases c1 : 64 ≤ A / 2 ^ F
        · rw [if_pos c1]
          exact rbounds_over F A _ hF (lim_val hF) ((Nat.le_div_iff_mul_le (Nat.two_pow_pos F)).1 c1) w
        · rw [if_neg c1]
          have hA : A < 64 * 2 ^ F := (Nat.div_lt_iff_lt_mul (Nat.two_pow_pos F)).1 (by omega)
          have hlim : 64 * 2 ^ F ≤ 512 := by omega
          by_cases c2 : F ≤ A / 2 ^ F
          · rw [if_pos c2]
            obtain ⟨e1, e2⟩ := rwide_val F (by omega) (A / 2 ^ F) (by omega) (A % 2 ^ F) (by omega) hml c2
            have := rbounds_wide F A _ (2 ^ F) (A % 2 ^ F) hm hp1 hp (by omega) htm hF (lim_val hF) hA hlim (by omega) c2 w
            rw [e2, e1] at this
            exact this
          · rw [if_neg c2]
            obtain ⟨e1, e2⟩ := rthin_val F (by omega) (A / 2 ^ F) (by omega) (A % 2 ^ F) (by omega) hml (by omega)
            have hsum : A / 2 ^ F * 2 ^ F + A % 2 ^ F + 1 = A + 1 := by rw [Nat.mul_comm]; omega
            rw [hsum] at e2
            have hlo : (((A % 2 ^ F : Nat) : Int) + ((2 ^ F : Nat) : Int)) / 2 ^ (F - A / 2 ^ F) = (((A % 2 ^ F + 2 ^ F) / 2 ^ (F - A / 2 ^ F) : Nat) : Int) := by
              have : ((A % 2 ^ F : Nat) : Int) + ((2 ^ F : Nat) : Int) = ((A % 2 ^ F + 2 ^ F : Nat) : Int) := by omega
              rw [this, shr_f]
            have hle : (A % 2 ^ F + 2 ^ F) / 2 ^ (F - A / 2 ^ F) ≤ 16 := Nat.le_trans (Nat.div_le_self _ _) (by omega)
            have hd : (bucketF F (((A % 2 ^ F + 2 ^ F) / 2 ^ (F - A / 2 ^ F) : Nat) : Int) != (A : Int) + 1) = !decide (A % 2 ^ F % 2 ^ (F - A / 2 ^ F) = 0) := by
              rw [bucketF_nat hF, ← e2]
              generalize bk F _ = z
              by_cases hz : z = A + 1
              · subst hz; simp
              · have h5 : ¬ (z : Int) = (A : Int) + 1 := by omega
                have h6 : ((z : Int) == (A : Int) + 1) = false := by simp [h5]
                have h7 : (z == A + 1) = false := by simp [hz]
                rw [bne, h6, h7]
            have := rbounds_thin F A _ (2 ^ F) (A % 2 ^ F) _ _ hm hp1 hp (by omega) htm hF (lim_val hF) hA hlim (by omega) hlo hle hd w
            by_cases c3 : A % 2 ^ F % 2 ^ (F - A / 2 ^ F) = 0
            · rw [if_pos c3]
              rw [decide_eq_true c3, e1] at this
              exact this
            · rw [if_neg c3]
              rw [decide_eq_false c3] at this
              exact this
end Go.Proofs.Ytopddcabaiicgaa

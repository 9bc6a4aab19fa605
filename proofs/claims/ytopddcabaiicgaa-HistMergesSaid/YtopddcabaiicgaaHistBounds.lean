/-
  The walk of hist.Bounds.
-/
import Derived.Test.YtopddcabaiicgaaHistBucket
import Derived.Laws.BitsAllLaws
import Derived.Test.YtopddcabaiicgaaFwd
import Derived.Test.YtopddcabaiicgaaBins
namespace Go.Proofs.Ytopddcabaiicgaa
open Go.RowKit
set_option linter.unusedVariables false
theorem drewN_two (w : World) (a b : Nat) : (w.drewN a).drewN b = w.drewN (a + b) := by
  exact World.drewN_drewN w a b
theorem and_low {f A : Nat} (hf : f ≤ 3) (hA : A < 9223372036854775807) : bits .and .i64 (A : Int) (wrap64 (wrap64 (2 ^ f) - 1)) = ((A % 2 ^ f : Nat) : Int) := by
  have hp : 2 ^ f ≤ 8 := Nat.pow_le_pow_right (n := 2) (by decide) hf
  have hp1 : 1 ≤ 2 ^ f := Nat.two_pow_pos f
  have e0 : (2 : Int) ^ f = ((2 ^ f : Nat) : Int) := by simp
  have e1 : wrap64 (wrap64 ((2 : Int) ^ f) - 1) = ((2 ^ f - 1 : Nat) : Int) := by
    rw [e0, IntWalk.wrap64_in ((2 ^ f : Nat) : Int) (by omega), IntWalk.wrap64_in _ (by omega)]; omega
  rw [e1]
  have key : (BitVec.ofInt 64 (A : Int) &&& BitVec.ofInt 64 ((2 ^ f - 1 : Nat) : Int)).toNat = A % 2 ^ f := by
    rw [BitVec.toNat_and, ofInt_u64 A (by omega), ofInt_u64 _ (by omega), Nat.and_two_pow_sub_one_eq_mod]
  show IntKind.i64.wrap ((BitVec.ofInt 64 (A : Int) &&& BitVec.ofInt 64 ((2 ^ f - 1 : Nat) : Int)).toNat : Nat) = _
  have hm : A % 2 ^ f < 2 ^ f := Nat.mod_lt _ hp1
  rw [key, IntKind.wrap_i64]
  omega
theorem shr_f (f A : Nat) : (A : Int) / 2 ^ f = ((A / 2 ^ f : Nat) : Int) := by simp
def wideB (f b p : Nat) : Bool := decide (2 ^ f ≤ p) || decide (b < f) ||
    (bits .or .u64 (IntKind.u64.wrap (2 ^ b)) (IntKind.u64.wrap ((p : Int) * 2 ^ (b - f))) == ((2 ^ b + p * 2 ^ (b - f) : Nat) : Int) &&
    bits .or .u64 (bits .or .u64 (IntKind.u64.wrap (2 ^ b)) (IntKind.u64.wrap ((p : Int) * 2 ^ (b - f)))) (IntKind.u64.wrap (IntKind.u64.wrap (2 ^ (b - f)) - 1)) == ((2 ^ b + p * 2 ^ (b - f) + (2 ^ (b - f) - 1) : Nat) : Int))
theorem wide_all : ((List.range 4).all fun f => (List.range 64).all fun b => (List.range 8).all fun p => wideB f b p) = true := by decide +kernel
theorem all3 {P : Nat → Nat → Nat → Bool} {n m k : Nat} (h : ((List.range n).all fun f => (List.range m).all fun b => (List.range k).all fun p => P f b p) = true) {f b p : Nat} (hf : f < n) (hb : b < m) (hp : p < k) : P f b p = true :=
  List.all_eq_true.1 (List.all_eq_true.1 (List.all_eq_true.1 h f (List.mem_range.2 hf)) b (List.mem_range.2 hb)) p (List.mem_range.2 hp)
theorem wide_val (f : Nat) (hf : f < 4) (b : Nat) (hb : b < 64) (p : Nat) (hp : p < 8) (h1 : p < 2 ^ f) (h2 : f ≤ b) :
    bits .or .u64 (IntKind.u64.wrap (2 ^ b)) (IntKind.u64.wrap ((p : Int) * 2 ^ (b - f))) = ((2 ^ b + p * 2 ^ (b - f) : Nat) : Int) ∧
    bits .or .u64 (bits .or .u64 (IntKind.u64.wrap (2 ^ b)) (IntKind.u64.wrap ((p : Int) * 2 ^ (b - f)))) (IntKind.u64.wrap (IntKind.u64.wrap (2 ^ (b - f)) - 1)) = ((2 ^ b + p * 2 ^ (b - f) + (2 ^ (b - f) - 1) : Nat) : Int) := by
  have := all3 wide_all hf hb hp
  unfold wideB at this
  rw [decide_eq_false (by omega), decide_eq_false (by omega), Bool.false_or, Bool.false_or, Bool.and_eq_true, beq_iff_eq, beq_iff_eq] at this
  exact this
def thinB (f b p : Nat) : Bool := decide (2 ^ f ≤ p) || decide (f ≤ b) ||
    (bits .or .u64 (IntKind.u64.wrap (2 ^ b)) ((p : Int) / 2 ^ (f - b)) == ((2 ^ b + p / 2 ^ (f - b) : Nat) : Int) &&
    (bits .and .i64 (p : Int) (wrap64 (wrap64 (2 ^ (f - b)) - 1)) == 0) == decide (p % 2 ^ (f - b) = 0))
theorem thin_all : ((List.range 4).all fun f => (List.range 4).all fun b => (List.range 8).all fun p => thinB f b p) = true := by decide +kernel
theorem thin_val (f : Nat) (hf : f < 4) (b : Nat) (hb : b < 4) (p : Nat) (hp : p < 8) (h1 : p < 2 ^ f) (h2 : b < f) :
    bits .or .u64 (IntKind.u64.wrap (2 ^ b)) ((p : Int) / 2 ^ (f - b)) = ((2 ^ b + p / 2 ^ (f - b) : Nat) : Int) ∧
    (bits .and .i64 (p : Int) (wrap64 (wrap64 (2 ^ (f - b)) - 1)) == 0) = decide (p % 2 ^ (f - b) = 0) := by
  have := all3 thin_all hf hb hp
  unfold thinB at this
  rw [decide_eq_false (by omega), decide_eq_false (by omega), Bool.false_or, Bool.false_or, Bool.and_eq_true, beq_iff_eq, beq_iff_eq] at this
  exact this
theorem mod_f {f : Nat} (hf : f ≤ 3) (A : Nat) : A % 2 ^ f < 2 ^ f ∧ A % 2 ^ f < 8 := by
  have hp : 2 ^ f ≤ 8 := Nat.pow_le_pow_right (n := 2) (by decide) hf
  have := Nat.mod_lt A (Nat.two_pow_pos f)
  omega
theorem bounds_over (f A : Nat) (hf : f ≤ 3) (hA : A < 9223372036854775807) (hb : 64 ≤ A / 2 ^ f) (w : World) :
    Calls Try.prog 13 #[.int .i64 f, .int .i64 (A + 1)] w fun e w' => e = .returned (.tuple #[.int .u64 0, .int .u64 0, .bool false]) ∧ ∃ n, w' = w.drewN n := by
  have HB := Lib.hid (show fineB f = true by simp [fineB]; omega)
  have h1 : (((A : Int) + 1) == 0) = false := by simp; omega
  have q1 := shr_f f A
  have q2 := and_low hf hA
  generalize A / 2 ^ f = b at *
  generalize A % 2 ^ f = p at *
  go_enter Try.func13, Try.ntmps13
  go_wp2_with fail
  refine wp_scope_fwd 0 rfl ?_
  go_wp2_with fail
  refine (isFine_any _ _).mono ?_
  rintro e w' ⟨rfl, rfl⟩
  rw [HB.out]
  go_wp2_with fail
  go_quiet (fail)
  go_wp2_with fail
  go_step3
  refine And.intro (Eq.refl 0) ?_
  dsimp only
  go_wp2_with fail
  rw [Exit.noGoto_ret]
  exact bodyPost_ret (v := .tuple #[.int .u64 0, .int .u64 0, .bool false]) (by simp [results, Try.results13, go_sem]) rfl ⟨rfl, nq, rfl⟩
theorem bounds_wide (f A : Nat) (hf : f ≤ 3) (hA : A < 9223372036854775807) (hb : A / 2 ^ f < 64) (hfb : f ≤ A / 2 ^ f) (w : World) :
    Calls Try.prog 13 #[.int .i64 f, .int .i64 (A + 1)] w fun e w' => e = .returned (.tuple #[.int .u64 ((2 ^ (A / 2 ^ f) + A % 2 ^ f * 2 ^ (A / 2 ^ f - f) : Nat) : Int), .int .u64 ((2 ^ (A / 2 ^ f) + A % 2 ^ f * 2 ^ (A / 2 ^ f - f) + (2 ^ (A / 2 ^ f - f) - 1) : Nat) : Int), .bool true]) ∧ ∃ n, w' = w.drewN n := by
  have HB := Lib.hid (show fineB f = true by simp [fineB]; omega)
  have h1 : (((A : Int) + 1) == 0) = false := by simp; omega
  have q1 := shr_f f A
  have q2 := and_low hf hA
  obtain ⟨m1, m2⟩ := mod_f hf A
  have HV := Lib.hid (wide_val f (by omega) _ hb _ m2 m1 hfb)
  generalize A / 2 ^ f = b at *
  generalize A % 2 ^ f = p at *
  go_enter Try.func13, Try.ntmps13
  go_wp2_with fail
  go_step3
  go_wp2_with fail
  refine (isFine_any _ _).mono ?_
  rintro e w' ⟨rfl, rfl⟩
  rw [HB.out]
  go_wp2_with fail
  go_quiet (fail)
  go_wp2_with fail
  go_quiet (fail)
  go_wp2_with fail
  rw [Exit.noGoto_ret]
  refine bodyPost_ret (v := .tuple #[.int .u64 (bits .or .u64 (IntKind.u64.wrap (2 ^ b)) (IntKind.u64.wrap ((p : Int) * 2 ^ (b - f)))), .int .u64 (bits .or .u64 (bits .or .u64 (IntKind.u64.wrap (2 ^ b)) (IntKind.u64.wrap ((p : Int) * 2 ^ (b - f)))) (IntKind.u64.wrap (IntKind.u64.wrap (2 ^ (b - f)) - 1))), .bool true]) (by simp [results, Try.results13, go_sem]) rfl ⟨?_, _, (drewN_two _ _ _)⟩
  rw [HV.out.1, ← HV.out.2, HV.out.1]
theorem bounds_thin (f A : Nat) (hf : f ≤ 3) (hA : A < 9223372036854775807) (hfb : A / 2 ^ f < f) (hd : A % 2 ^ f % 2 ^ (f - A / 2 ^ f) = 0) (w : World) :
    Calls Try.prog 13 #[.int .i64 f, .int .i64 (A + 1)] w fun e w' => e = .returned (.tuple #[.int .u64 ((2 ^ (A / 2 ^ f) + A % 2 ^ f / 2 ^ (f - A / 2 ^ f) : Nat) : Int), .int .u64 ((2 ^ (A / 2 ^ f) + A % 2 ^ f / 2 ^ (f - A / 2 ^ f) : Nat) : Int), .bool true]) ∧ ∃ n, w' = w.drewN n := by
  have HB := Lib.hid (show fineB f = true by simp [fineB]; omega)
  have h1 : (((A : Int) + 1) == 0) = false := by simp; omega
  have q1 := shr_f f A
  have q2 := and_low hf hA
  obtain ⟨m1, m2⟩ := mod_f hf A
  obtain ⟨hv, ht⟩ := thin_val f (by omega) (A / 2 ^ f) (by omega) _ m2 m1 hfb
  have HV := Lib.hid hv
  rw [decide_eq_true hd] at ht
  clear hv hd
  generalize A / 2 ^ f = b at *
  generalize A % 2 ^ f = p at *
  go_enter Try.func13, Try.ntmps13
  go_wp2_with fail
  go_step3
  go_wp2_with fail
  refine (isFine_any _ _).mono ?_
  rintro e w' ⟨rfl, rfl⟩
  rw [HB.out]
  go_wp2_with fail
  go_quiet (fail)
  go_wp2_with fail
  rw [Exit.noGoto_ret]
  refine bodyPost_ret (v := .tuple #[.int .u64 (bits .or .u64 (IntKind.u64.wrap (2 ^ b)) ((p : Int) / 2 ^ (f - b))), .int .u64 (bits .or .u64 (IntKind.u64.wrap (2 ^ b)) ((p : Int) / 2 ^ (f - b))), .bool true]) (by simp [results, Try.results13, go_sem]) rfl ⟨?_, nq, rfl⟩
  rw [HV.out]
theorem bounds_none (f A : Nat) (hf : f ≤ 3) (hA : A < 9223372036854775807) (hfb : A / 2 ^ f < f) (hd : ¬ A % 2 ^ f % 2 ^ (f - A / 2 ^ f) = 0) (w : World) :
    Calls Try.prog 13 #[.int .i64 f, .int .i64 (A + 1)] w fun e w' => e = .returned (.tuple #[.int .u64 0, .int .u64 0, .bool false]) ∧ ∃ n, w' = w.drewN n := by
  have HB := Lib.hid (show fineB f = true by simp [fineB]; omega)
  have h1 : (((A : Int) + 1) == 0) = false := by simp; omega
  have q1 := shr_f f A
  have q2 := and_low hf hA
  obtain ⟨m1, m2⟩ := mod_f hf A
  obtain ⟨_, ht⟩ := thin_val f (by omega) (A / 2 ^ f) (by omega) _ m2 m1 hfb
  rw [decide_eq_false hd] at ht
  clear hd
  generalize A / 2 ^ f = b at *
  generalize A % 2 ^ f = p at *
  go_enter Try.func13, Try.ntmps13
  go_wp2_with fail
  go_step3
  go_wp2_with fail
  refine (isFine_any _ _).mono ?_
  rintro e w' ⟨rfl, rfl⟩
  rw [HB.out]
  go_wp2_with fail
  go_quiet (fail)
  go_wp2_with fail
  go_step3
  go_wp2_with fail
  rw [Exit.noGoto_ret]
  exact bodyPost_ret (v := .tuple #[.int .u64 0, .int .u64 0, .bool false]) (by simp [results, Try.results13, go_sem]) rfl ⟨rfl, nq, rfl⟩
theorem bounds_zero (f : Nat) (hf : f ≤ 3) (w : World) :
    Calls Try.prog 13 #[.int .i64 f, .int .i64 0] w fun e w' => e = .returned (.tuple #[.int .u64 0, .int .u64 0, .bool true]) ∧ ∃ n, w' = w.drewN n := by
  have HB := Lib.hid (show fineB f = true by simp [fineB]; omega)
  go_enter Try.func13, Try.ntmps13
  go_wp2_with fail
  go_step3
  go_wp2_with fail
  refine (isFine_any _ _).mono ?_
  rintro e w' ⟨rfl, rfl⟩
  rw [HB.out]
  go_wp2_with fail
  rw [Exit.noGoto_ret]
  exact bodyPost_ret (v := .tuple #[.int .u64 0, .int .u64 0, .bool true]) (by simp [results, Try.results13, go_sem]) rfl ⟨rfl, 0, rfl⟩
theorem bounds_bad (f a : Int) (hf : fineB f = false) (w : World) :
    Calls Try.prog 13 #[.int .i64 f, .int .i64 a] w fun e w' => e = .returned (.tuple #[.int .u64 0, .int .u64 0, .bool false]) ∧ ∃ n, w' = w.drewN n := by
  have HB := Lib.hid hf
  clear hf
  go_enter Try.func13, Try.ntmps13
  go_wp2_with fail
  refine wp_scope_fwd 0 rfl ?_
  go_wp2_with fail
  refine (isFine_any _ _).mono ?_
  rintro e w' ⟨rfl, rfl⟩
  rw [HB.out]
  go_wp2_with fail
  go_step3
  refine And.intro (Eq.refl 0) ?_
  dsimp only
  go_wp2_with fail
  rw [Exit.noGoto_ret]
  exact bodyPost_ret (v := .tuple #[.int .u64 0, .int .u64 0, .bool false]) (by simp [results, Try.results13, go_sem]) rfl ⟨rfl, 0, rfl⟩
theorem bounds_neg (f a : Int) (hf : fineB f = true) (ha : a < 0) (w : World) :
    Calls Try.prog 13 #[.int .i64 f, .int .i64 a] w fun e w' => e = .returned (.tuple #[.int .u64 0, .int .u64 0, .bool false]) ∧ ∃ n, w' = w.drewN n := by
  have HB := Lib.hid hf
  clear hf
  go_enter Try.func13, Try.ntmps13
  go_wp2_with fail
  refine wp_scope_fwd 0 rfl ?_
  go_wp2_with fail
  refine (isFine_any _ _).mono ?_
  rintro e w' ⟨rfl, rfl⟩
  rw [HB.out]
  go_wp2_with fail
  go_step3
  refine And.intro (Eq.refl 0) ?_
  dsimp only
  go_wp2_with fail
  rw [Exit.noGoto_ret]
  exact bodyPost_ret (v := .tuple #[.int .u64 0, .int .u64 0, .bool false]) (by simp [results, Try.results13, go_sem]) rfl ⟨rfl, 0, rfl⟩
/-- What Bounds tells. -/
def boundsF (f a : Int) : Int × Int × Bool :=
  if fineB f = true ∧ 0 ≤ a then match bnd f.toNat a.toNat with | some q => ((q.1 : Nat), (q.2 : Nat), true) | none => (0, 0, false) else (0, 0, false)
abbrev bdV (q : Int × Int × Bool) : Value := .tuple #[.int .u64 q.1, .int .u64 q.2.1, .bool q.2.2]
theorem boundsF_nat {f a : Nat} (hf : f ≤ 3) : boundsF f a = match bnd f a with | some q => ((q.1 : Nat), (q.2 : Nat), true) | none => (0, 0, false) := by
  have : fineB f = true := by simp [fineB]; omega
  unfold boundsF; rw [if_pos ⟨this, by omega⟩]; simp
theorem bounds_any (f a : Int) (ha : I64 a) (w : World) :
    Calls Try.prog 13 #[.int .i64 f, .int .i64 a] w fun e w' => e = .returned (bdV (boundsF f a)) ∧ ∃ n, w' = w.drewN n := by
  cases h : fineB f with
  | false => have e : boundsF f a = (0, 0, false) := by unfold boundsF; rw [if_neg (by simp [h])]
             rw [e]; exact bounds_bad f a h w
  | true =>
    obtain ⟨h1, h2⟩ := fine_of h
    obtain ⟨F, rfl⟩ := Int.eq_ofNat_of_zero_le h1
    by_cases hn : a < 0
    · have e : boundsF F a = (0, 0, false) := by unfold boundsF; rw [if_neg (by omega)]
      rw [e]; exact bounds_neg F a h hn w
    · obtain ⟨a, rfl⟩ := Int.eq_ofNat_of_zero_le (show 0 ≤ a by omega)
      rw [boundsF_nat (by omega)]
      unfold I64 at ha
      cases a with
      | zero => exact bounds_zero F (by omega) w
      | succ A =>
        unfold bnd
        rw [if_neg (by omega), Nat.add_sub_cancel]
        have hF : F ≤ 3 := by omega
        have hA : A < 9223372036854775807 := by omega
        by_cases c1 : 64 ≤ A / 2 ^ F
        · rw [if_pos c1]; exact bounds_over F A hF hA c1 w
        · rw [if_neg c1]
          by_cases c2 : F ≤ A / 2 ^ F
          · rw [if_pos c2]; exact bounds_wide F A hF hA (by omega) c2 w
          · rw [if_neg c2]
            by_cases c3 : A % 2 ^ F % 2 ^ (F - A / 2 ^ F) = 0
            · rw [if_pos c3]; exact bounds_thin F A hF hA (by omega) c3 w
            · rw [if_neg c3]; exact bounds_none F A hF hA (by omega) c3 w
end Go.Proofs.Ytopddcabaiicgaa

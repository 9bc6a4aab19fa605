/-
  The walk of the reference's Place: digit by digit.
-/
import Derived.Test.YtgbanhjjieagnaaHllWalk1
namespace Go.Proofs.Ytgbanhjjieagnaa
open Go.RowKit
set_option linter.unusedVariables false
/-- The digit of n at j, below the register's digits. -/
theorem digit_rest {B n j : Nat} (h : j < 64 - B) : n / 2 ^ j % 2 = restF B n / 2 ^ j % 2 := by
  unfold restF
  obtain ⟨c, hc⟩ : ∃ c, 64 - B = j + 1 + c := ⟨64 - B - (j + 1), by omega⟩
  have e : (2 : Nat) ^ (64 - B) = 2 ^ j * (2 * 2 ^ c) := by rw [hc, Nat.pow_add, Nat.pow_succ, Nat.mul_assoc]
  rw [e, Nat.mod_mul_right_div_self, Nat.mod_mul_right_mod]
theorem half_step (n j : Nat) : 2 * (n / 2 ^ (j + 1)) + n / 2 ^ j % 2 = n / 2 ^ j := by
  rw [Nat.pow_succ, ← Nat.div_div_eq_div_mul]; omega
theorem rplace_bad (b : Int) (n : Nat) (hb : bitsB b = false) (w : World) :
    Calls Try.prog 18 #[.int .i64 b, .int .u64 n] w fun e w' => e = .returned (.tuple #[.int .i64 0, .int .i64 0]) ∧ w = w' := by
  have HB := Lib.hid hb
  clear hb
  go_enter Try.func18, Try.ntmps18
  go_wp2_with fail
  refine (risBits_any _ _).mono ?_
  rintro e w' ⟨rfl, rfl⟩
  rw [HB.out]
  go_wp2_with fail
  go_ret2
  exact ⟨rfl, rfl⟩
set_option maxHeartbeats 1000000 in
theorem rplace_good (B n : Nat) (hB : 3 ≤ B) (hB8 : B ≤ 8) (hn : n < 18446744073709551616) (w : World) :
    Calls Try.prog 18 #[.int .i64 B, .int .u64 n] w fun e w' => e = .returned (.tuple #[.int .i64 (atF B n), .int .i64 (rankF B n)]) ∧ w = w' := by
  have hb : bitsB B = true := by simp [bitsB]; omega
  have HB := Lib.hid hb
  have hat : atF B n < 256 := Nat.lt_of_lt_of_le (at_lt (B := B) (by omega) hn) (Nat.le_trans (Nat.pow_le_pow_right (by decide) hB8) (by decide))
  clear hb
  go_enter Try.func18, Try.ntmps18
  go_wp2_with fail
  refine (risBits_any _ _).mono ?_
  rintro e w' ⟨rfl, rfl⟩
  rw [HB.out]
  go_wp2_with fail
  go_loop [6, 7, 8] (fun a r i => ∃ j : Nat, j ≤ 64 ∧ i = .int .i64 ((j : Int) - 1) ∧ a = .int .i64 ((n / 2 ^ (max j (64 - B)) : Nat) : Int) ∧ r = .int .i64 ((1 + (64 - B - j) : Nat) : Int) ∧ (j ≤ 64 - B → restF B n < 2 ^ j)) (fun _ _ i => (intOf i + 1).toNat)
  case atStart =>
    refine ⟨64, Nat.le_refl _, rfl, ?_, ?_, fun h => by omega⟩
    · rw [show max 64 (64 - B) = 64 by omega, Nat.div_eq_of_lt (show n < 2 ^ 64 from hn)]; rfl
    · rw [show 64 - B - 64 = 0 by omega]; rfl
  case round =>
    obtain ⟨j, hj, rfl, rfl, rfl, hrest⟩ := hrel
    cases j with
    | zero =>
      have hr0 : restF B n = 0 := by have := hrest (by omega); simpa using this
      have HRK : Hid ((rankF B n : Nat) = 1 + (64 - B - 0)) := by show _ = _; rw [rankF, hr0, bl_zero]; omega
      have HAT : Hid (n / 2 ^ (max 0 (64 - B)) = atF B n) := by show _ = _; rw [show max 0 (64 - B) = 64 - B by omega]; rfl
      rw [HAT.out, ← HRK.out]
      have hrb := rank_bd hB hB8 n
      clear hrest hr0
      go_wp2_with fail
      go_ret2
      exact ⟨rfl, rfl⟩
    | succ j =>
      have hji : ((j + 1 : Nat) : Int) - 1 = (j : Int) := by omega
      rw [hji]
      clear hji
      have hq : (n : Int) / 2 ^ j = ((n / 2 ^ j : Nat) : Int) := by simp
      have hj1 : (0 : Int) ≤ (j : Int) := by omega
      by_cases hge : 64 - B ≤ j
      · have HA : Hid (n / 2 ^ (max j (64 - B)) = 2 * (n / 2 ^ (max (j + 1) (64 - B))) + n / 2 ^ j % 2) := by
          show _ = _
          rw [show max j (64 - B) = j by omega, show max (j + 1) (64 - B) = j + 1 by omega]; exact (half_step n j).symm
        have HR : Hid (64 - B - j = 64 - B - (j + 1)) := by show _ = _; omega
        have hab : n / 2 ^ (max (j + 1) (64 - B)) ≤ 256 := by
          rw [show max (j + 1) (64 - B) = j + 1 by omega]
          refine Nat.le_trans (Nat.div_le_div_left (Nat.pow_le_pow_right (by decide) (show 64 - B ≤ j + 1 by omega)) (Nat.two_pow_pos _)) (Nat.le_of_lt hat)
        have hd : n / 2 ^ j % 2 < 2 := Nat.mod_lt _ (by decide)
        have HD : Hid (((n / 2 ^ j % 2 : Nat) : Int) = ((n / 2 ^ j : Nat) : Int) % 2) := by show _ = _; omega
        generalize n / 2 ^ (max (j + 1) (64 - B)) = a at *
        generalize n / 2 ^ j = q at *
        have d1 : decide (64 - (B : Int) ≤ (j : Int)) = true := by simp; omega
        clear hrest
        go_wp2_with fail
        go_round
        case rel => exact ⟨j, by omega, rfl, by rw [HA.out]; congr 1, by rw [HR.out], fun h => by rw [show j = 64 - B by omega]; exact rest_lt B n⟩
        case measure => simp [intOf]
      · have hlt : j < 64 - B := by omega
        have hr2 := hrest (by omega)
        have HAT : Hid (n / 2 ^ (max (j + 1) (64 - B)) = atF B n) := by show _ = _; rw [show max (j + 1) (64 - B) = 64 - B by omega]; rfl
        have HAT2 : Hid (n / 2 ^ (max j (64 - B)) = atF B n) := by show _ = _; rw [show max j (64 - B) = 64 - B by omega]; rfl
        have hdg := digit_rest (B := B) (n := n) hlt
        have hrd : restF B n / 2 ^ j < 2 := Nat.div_lt_of_lt_mul (by rw [Nat.pow_succ] at hr2; exact hr2)
        rw [HAT.out]
        have d1 : decide (64 - (B : Int) ≤ (j : Int)) = false := by simp; omega
        by_cases hd : restF B n / 2 ^ j = 0
        · have hr3 : restF B n < 2 ^ j := by
            rcases Nat.lt_or_ge (restF B n) (2 ^ j) with h | h
            · exact h
            · have := Nat.div_pos h (Nat.two_pow_pos j); omega
          have HD : Hid (n / 2 ^ j % 2 = 0) := by show _ = _; rw [hdg, hd]
          have HR : Hid (1 + (64 - B - j) = 1 + (64 - B - (j + 1)) + 1) := by show _ = _; omega
          have hrr : 1 + (64 - B - (j + 1)) ≤ 64 := by omega
          have hd0 : ((n / 2 ^ j : Nat) : Int) % 2 = 0 := by have := HD.out; omega
          have HR3 := Lib.hid hr3
          generalize 1 + (64 - B - (j + 1)) = r at *
          generalize n / 2 ^ j = q at *
          generalize atF B n = a at *
          clear hrest hr2 hdg hrd hd hr3
          go_wp2_with fail
          go_round
          case rel => exact ⟨j, by omega, rfl, by rw [HAT2.out], by rw [HR.out]; congr 1, fun _ => HR3.out⟩
          case measure => simp [intOf]
        · have hr3 : 2 ^ j ≤ restF B n := by
            rcases Nat.lt_or_ge (restF B n) (2 ^ j) with h | h
            · exact absurd (Nat.div_eq_of_lt h) hd
            · exact h
          have h11 : restF B n / 2 ^ j = 1 := Nat.le_antisymm (Nat.le_of_lt_succ hrd) (Nat.pos_of_ne_zero hd)
          have HD : Hid (n / 2 ^ j % 2 = 1) := by show _ = _; rw [hdg, h11]
          clear h11
          have hd0 : ((n / 2 ^ j : Nat) : Int) % 2 = 1 := by have := HD.out; omega
          have HRK : Hid (rankF B n = 1 + (64 - B - (j + 1))) := by show _ = _; rw [rankF, bl_eq hr3 hr2]; omega
          generalize 1 + (64 - B - (j + 1)) = r at *
          generalize n / 2 ^ j = q at *
          clear hrest hr2 hdg hrd hd hr3
          go_wp2_with fail
          go_ret2
          exact ⟨by rw [HRK.out]; rfl, rfl⟩
theorem rplace_any (b : Int) (n : Nat) (hn : n < 18446744073709551616) (w : World) :
    Calls Try.prog 18 #[.int .i64 b, .int .u64 n] w fun e w' => e = .returned (.tuple #[.int .i64 (placeF b n).1, .int .i64 (placeF b n).2]) ∧ w = w' := by
  cases h : bitsB b with
  | false => rw [placeF, if_neg (by simp [h])]; exact rplace_bad b n h w
  | true =>
    obtain ⟨B, rfl, h1, h2⟩ := bits_nat h
    rw [placeF, if_pos h, Int.toNat_natCast]
    exact rplace_good B n h1 h2 hn w
end Go.Proofs.Ytgbanhjjieagnaa

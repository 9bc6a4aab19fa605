/-
  Walks of package hll: which registers, and which ranks, numbers tell.
-/
import Derived.Test.YtgbanhjjieagnaaHllShelf
import Derived.Test.YtgbanhjjieagnaaBlk
import Derived.IntWalk
namespace Go.Proofs.Ytgbanhjjieagnaa
open Go.RowKit
set_option linter.unusedVariables false
theorem isBits_any (b : Int) (w : World) : Calls Try.prog 34 #[.int .i64 b] w fun e w' => e = .returned (.bool (bitsB b)) ∧ w = w' := by
  by_cases h1 : 3 ≤ b
  · by_cases h2 : b ≤ 8
    · go_enter Try.func34, Try.ntmps34
      go_wp2
      go_ret
      exact ⟨ret_bool (by simp [bitsB]; omega), rfl⟩
    · go_enter Try.func34, Try.ntmps34
      go_wp2
      go_ret
      exact ⟨ret_bool (by simp [bitsB]; omega), rfl⟩
  · go_enter Try.func34, Try.ntmps34
    go_wp2
    go_ret
    exact ⟨ret_bool (by simp [bitsB]; omega), rfl⟩
theorem risBits_any (b : Int) (w : World) : Calls Try.prog 36 #[.int .i64 b] w fun e w' => e = .returned (.bool (bitsB b)) ∧ w = w' := by
  by_cases h1 : 3 ≤ b
  · by_cases h2 : b ≤ 8
    · go_enter Try.func36, Try.ntmps36
      go_wp2
      go_ret
      exact ⟨ret_bool (by simp [bitsB]; omega), rfl⟩
    · go_enter Try.func36, Try.ntmps36
      go_wp2
      go_ret
      exact ⟨ret_bool (by simp [bitsB]; omega), rfl⟩
  · go_enter Try.func36, Try.ntmps36
    go_wp2
    go_ret
    exact ⟨ret_bool (by simp [bitsB]; omega), rfl⟩
abbrev errV (s : ByteArray) : Value := .iface 64 (.agg #[.string s])
theorem errno_ok (w : World) : Calls Try.prog 30 #[.nilIface] w fun e w' => e = .returned (.int .i64 0) ∧ w.alloc (.cells #[.string ⟨#[]⟩] 64) = w' := by
  have ta : ∀ w, (Instr.typeAssert .nilIface 51 64 true).run Try.prog w = .ok (.tuple #[.agg #[.string ⟨#[]⟩], .bool false]) w := fun _ => by kernel_rfl
  go_enter Try.func30, Try.ntmps30
  go_wp2
  go_ret
  exact ⟨rfl, rfl⟩
theorem errno_err (s : ByteArray) (w : World) : Calls Try.prog 30 #[errV s] w fun e w' => e = .returned (.int .i64 70) ∧ w.alloc (.cells #[.string s] 64) = w' := by
  have ta : ∀ w, (Instr.typeAssert (errV s) 51 64 true).run Try.prog w = .ok (.tuple #[.agg #[.string s], .bool true]) w := fun _ => by kernel_rfl
  go_enter Try.func30, Try.ntmps30
  go_wp2
  go_ret
  exact ⟨rfl, rfl⟩
theorem ahead_any (x : Nat) (hx : x < 18446744073709551616) (w : World) : Calls Try.prog 35 #[.int .u64 x] w fun e w' => e = .returned (.int .i64 (64 - (bl x : Int))) ∧ w = w' := by
  go_enter Try.func35, Try.ntmps35
  go_wp2_with fail
  refine (lz_any x hx _).mono ?_
  rintro e w' ⟨rfl, rfl⟩
  go_wp2_with fail
  go_ret
  exact ⟨rfl, rfl⟩
theorem shl_rest {B n : Nat} (hB : B ≤ 8) : IntKind.u64.wrap ((n : Int) * 2 ^ B) = ((restF B n * 2 ^ B : Nat) : Int) := by
  have e : (2 : Nat) ^ (64 - B) * 2 ^ B = 18446744073709551616 := by rw [← Nat.pow_add, show 64 - B + B = 64 by omega]
  have h : n * 2 ^ B % 18446744073709551616 = restF B n * 2 ^ B := by rw [← e, Nat.mul_mod_mul_right]; rfl
  rw [← h, IntKind.wrap_u64]
  simp
theorem place_good (B n : Nat) (hB : 3 ≤ B) (hB8 : B ≤ 8) (hn : n < 18446744073709551616) (w : World) :
    Calls Try.prog 17 #[.int .i64 B, .int .u64 n] w fun e w' => e = .returned (.tuple #[.int .i64 (atF B n), .int .i64 (rankF B n)]) ∧ w = w' := by
  have hb : bitsB B = true := by simp [bitsB]; omega
  have HB := Lib.hid hb
  have hat : atF B n < 256 := Nat.lt_of_lt_of_le (at_lt (B := B) (by omega) hn) (Nat.le_trans (Nat.pow_le_pow_right (by decide) hB8) (by decide))
  have hdv : (n : Int) / 2 ^ (64 - B) = ((atF B n : Nat) : Int) := by simp [atF]
  have hsh := shl_rest (B := B) (n := n) hB8
  have hbl := bl_le (rest_lt B n)
  have hrl := rest_lt B n
  by_cases h0 : restF B n = 0
  · have HRK : Hid (((rankF B n : Nat) : Int) = 65 - (B : Int)) := by show _ = _; rw [rankF, h0, bl_zero]; omega
    rw [h0, Nat.zero_mul] at hsh
    clear hb h0 hbl hrl
    generalize atF B n = a at *
    go_enter Try.func17, Try.ntmps17
    go_wp2_with fail
    refine (isBits_any _ _).mono ?_
    rintro e w' ⟨rfl, rfl⟩
    rw [HB.out]
    go_wp2_with fail
    go_ret2
    exact ⟨by rw [HRK.out]; rfl, rfl⟩
  · have hbs := bl_mul (restF B n) B h0
    have hs64 : restF B n * 2 ^ B < 18446744073709551616 := by
      have e : (2 : Nat) ^ (64 - B) * 2 ^ B = 18446744073709551616 := by rw [← Nat.pow_add, show 64 - B + B = 64 by omega]
      rw [← e]; exact Nat.mul_lt_mul_of_pos_right hrl (Nat.two_pow_pos B)
    have hs0 : restF B n * 2 ^ B ≠ 0 := Nat.mul_ne_zero h0 (Nat.ne_of_gt (Nat.two_pow_pos B))
    have HRK : Hid (((rankF B n : Nat) : Int) = 64 - ((bl (restF B n * 2 ^ B) : Nat) : Int) + 1) := by show _ = _; rw [rankF, hbs]; omega
    have hbb : bl (restF B n * 2 ^ B) ≤ 64 := bl_le (k := 64) hs64
    clear hb hbs h0 hbl hrl
    generalize restF B n * 2 ^ B = s at *
    generalize atF B n = a at *
    have hs1 : ((s : Int) != 0) = true := by simp; omega
    go_enter Try.func17, Try.ntmps17
    go_wp2_with fail
    refine (isBits_any _ _).mono ?_
    rintro e w' ⟨rfl, rfl⟩
    rw [HB.out]
    go_wp2_with fail
    refine (ahead_any s hs64 _).mono ?_
    rintro e w' ⟨rfl, rfl⟩
    go_wp2_with fail
    go_ret2
    exact ⟨by rw [HRK.out]; rfl, rfl⟩
theorem place_bad (b : Int) (n : Nat) (hb : bitsB b = false) (w : World) :
    Calls Try.prog 17 #[.int .i64 b, .int .u64 n] w fun e w' => e = .returned (.tuple #[.int .i64 0, .int .i64 0]) ∧ w = w' := by
  have HB := Lib.hid hb
  clear hb
  go_enter Try.func17, Try.ntmps17
  go_wp2_with fail
  refine (isBits_any _ _).mono ?_
  rintro e w' ⟨rfl, rfl⟩
  rw [HB.out]
  go_wp2_with fail
  go_ret2
  exact ⟨rfl, rfl⟩
/-- What Place tells. -/
def placeF (b : Int) (n : Nat) : Int × Int := if bitsB b = true then ((atF b.toNat n : Nat), (rankF b.toNat n : Nat)) else (0, 0)
theorem place_any (b : Int) (n : Nat) (hn : n < 18446744073709551616) (w : World) :
    Calls Try.prog 17 #[.int .i64 b, .int .u64 n] w fun e w' => e = .returned (.tuple #[.int .i64 (placeF b n).1, .int .i64 (placeF b n).2]) ∧ w = w' := by
  cases h : bitsB b with
  | false => rw [placeF, if_neg (by simp [h])]; exact place_bad b n h w
  | true =>
    obtain ⟨B, rfl, h1, h2⟩ := bits_nat h
    rw [placeF, if_pos h, Int.toNat_natCast]
    exact place_good B n h1 h2 hn w
end Go.Proofs.Ytgbanhjjieagnaa

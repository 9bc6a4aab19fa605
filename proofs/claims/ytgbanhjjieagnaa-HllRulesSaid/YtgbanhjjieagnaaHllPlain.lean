/-
  Registers (chapter 7) in plain words: places, ranks, merging, lowering. No program in sight.
-/
import Derived.Test.YtgbanhjjieagnaaMem
namespace Go.Proofs.Ytgbanhjjieagnaa
/-- How many binary digits a number has. -/
def bl (m : Nat) : Nat := if m = 0 then 0 else Nat.log2 m + 1
theorem bl_zero : bl 0 = 0 := rfl
theorem bl_le {m k : Nat} (h : m < 2 ^ k) : bl m ≤ k := by
  unfold bl
  split
  · omega
  · rename_i h0
    have := (Nat.log2_lt h0).2 h
    omega
theorem lt_bl (m : Nat) : m < 2 ^ bl m := by
  unfold bl
  split
  · rename_i h; rw [h]; decide
  · rename_i h0; exact (Nat.log2_lt h0).1 (Nat.lt_succ_self _)
theorem bl_ge {m k : Nat} (h : 2 ^ k ≤ m) : k + 1 ≤ bl m := by
  have h1 := lt_bl m
  have : 2 ^ k < 2 ^ bl m := Nat.lt_of_le_of_lt h h1
  exact (Nat.pow_lt_pow_iff_right (by decide)).1 this
theorem bl_eq {m k : Nat} (h1 : 2 ^ k ≤ m) (h2 : m < 2 ^ (k + 1)) : bl m = k + 1 := Nat.le_antisymm (bl_le h2) (bl_ge h1)
theorem bl_mul (m b : Nat) (h : m ≠ 0) : bl (m * 2 ^ b) = bl m + b := by
  have hp : 0 < bl m := by unfold bl; rw [if_neg h]; omega
  obtain ⟨k, hk⟩ : ∃ k, bl m = k + 1 := ⟨bl m - 1, by omega⟩
  have h1 : 2 ^ k ≤ m := by
    rcases Nat.lt_or_ge m (2 ^ k) with hlt | hge
    · have := bl_le hlt; omega
    · exact hge
  have h2 : m < 2 ^ (k + 1) := by rw [← hk]; exact lt_bl m
  have e : k + b + 1 = k + 1 + b := by omega
  rw [hk, bl_eq (k := k + b) (by rw [Nat.pow_add]; exact Nat.mul_le_mul_right _ h1) (by rw [e, Nat.pow_add]; exact Nat.mul_lt_mul_of_pos_right h2 (Nat.two_pow_pos b))]
  omega
/-- May registers have so many digits? -/
def bitsB (b : Int) : Bool := decide (3 ≤ b ∧ b ≤ 8)
theorem bits_of {b : Int} (h : bitsB b = true) : 3 ≤ b ∧ b ≤ 8 := by simpa [bitsB] using h
theorem bits_nat {b : Int} (h : bitsB b = true) : ∃ B : Nat, b = B ∧ 3 ≤ B ∧ B ≤ 8 := by
  obtain ⟨h1, h2⟩ := bits_of h
  exact ⟨b.toNat, by omega, by omega, by omega⟩
/-- The register that n tells, and its rank. -/
def atF (B n : Nat) : Nat := n / 2 ^ (64 - B)
def restF (B n : Nat) : Nat := n % 2 ^ (64 - B)
def rankF (B n : Nat) : Nat := 65 - B - bl (restF B n)
theorem rest_lt (B n : Nat) : restF B n < 2 ^ (64 - B) := Nat.mod_lt _ (Nat.two_pow_pos _)
theorem at_lt {B n : Nat} (hB : B ≤ 64) (hn : n < 2 ^ 64) : atF B n < 2 ^ B := by
  unfold atF
  refine Nat.div_lt_of_lt_mul ?_
  rw [← Nat.pow_add, show 64 - B + B = 64 by omega]
  exact hn
theorem rank_bd {B : Nat} (hB : 3 ≤ B) (hB8 : B ≤ 8) (n : Nat) : 1 ≤ rankF B n ∧ rankF B n ≤ 65 - B := by
  have := bl_le (rest_lt B n)
  unfold rankF; omega
/-- A digit less: the register's number is halved, and the rank is one more, or 1. -/
theorem at_less {B n : Nat} (h : 1 ≤ B) (hB : B ≤ 64) : atF (B - 1) n = atF B n / 2 := by
  unfold atF
  rw [Nat.div_div_eq_div_mul, show 64 - (B - 1) = 64 - B + 1 by omega, Nat.pow_succ]
theorem rest_less {B n : Nat} (h : 1 ≤ B) (hB : B ≤ 64) : restF (B - 1) n = (atF B n % 2) * 2 ^ (64 - B) + restF B n := by
  unfold restF atF
  rw [show 64 - (B - 1) = 64 - B + 1 by omega, Nat.pow_succ, Nat.mod_mul, Nat.add_comm, Nat.mul_comm]
theorem rank_less {B n : Nat} (hB : 4 ≤ B) (hB8 : B ≤ 8) : rankF (B - 1) n = if atF B n % 2 = 0 then rankF B n + 1 else 1 := by
  have h1 := rest_less (B := B) (n := n) (by omega) (by omega)
  have h2 := rest_lt B n
  have h3 := bl_le h2
  unfold rankF
  rw [h1]
  rcases Nat.mod_two_eq_zero_or_one (atF B n) with e | e
  · rw [e, if_pos rfl, Nat.zero_mul, Nat.zero_add]; omega
  · rw [e, if_neg (by decide), Nat.one_mul, bl_eq (k := 64 - B) (by omega) (by rw [Nat.pow_succ]; omega)]; omega
end Go.Proofs.Ytgbanhjjieagnaa

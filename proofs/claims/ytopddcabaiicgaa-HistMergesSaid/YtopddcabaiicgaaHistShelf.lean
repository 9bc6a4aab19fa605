/-
  The shelf's contract of math/bits.Len64 at this dump (laid by the kit's lay-shelf and lay-plain).
-/
import Derived.Shelf.Small.Bits
import Derived.Shelf.Strconv.Itoa0
import Derived.Test.YtopddcabaiicgaaRows
import Derived.Test.YtopddcabaiicgaaHistPlain
namespace Go.Proofs.Ytopddcabaiicgaa
open Go.RowKit Go.Shelf
def lays129_ren : Go.Shelf.Ren := ⟨fun | 129 => 41 | n => n, fun | 53 => 22 | 3 => 3 | 4 => 4 | 46 => 69 | 5 => 5 | 9 => 9 | n => n, fun | n => n⟩
theorem lays129 : Go.Proofs.Lays.n129 Try.prog lays129_ren := {
  mixed := by kernel_rfl
  f129 := Try.func41.trans (congrArg some (by kernel_rfl))
  t3 := Try.underlying3
  a3 := Try.isAgg3
  z3 := Try.sizeOf3
  v3 := Try.zeroValue3
  t4 := Try.underlying4
  a4 := Try.isAgg4
  z4 := Try.sizeOf4
  v4 := Try.zeroValue4
  t5 := Try.underlying5
  a5 := Try.isAgg5
  z5 := Try.sizeOf5
  v5 := Try.zeroValue5
  t9 := Try.underlying9
  a9 := Try.isAgg9
  z9 := Try.sizeOf9
  v9 := Try.zeroValue9
  t46 := Try.underlying69
  a46 := Try.isAgg69
  z46 := Try.sizeOf69
  v46 := Try.zeroValue69
  t53 := Try.underlying22
  a53 := Try.isAgg22
  z53 := Try.sizeOf22
  v53 := Try.zeroValue22 }
theorem bitLen_log2 : ∀ (f x : Nat), x < 2 ^ f → x ≠ 0 → Lib.bitLenAux f x = x.log2 + 1
  | 0, x, h, h0 => by simp at h; omega
  | f + 1, x, h, h0 => by
    rw [Lib.bitLenAux, if_neg h0]
    have hx : x / 2 < 2 ^ f := by rw [Nat.pow_succ] at h; omega
    by_cases h2 : x / 2 = 0
    · have : x = 1 := by omega
      subst this
      have e : Lib.bitLenAux f (1 / 2) = 0 := by cases f <;> rfl
      rw [e]; decide
    · rw [bitLen_log2 f (x / 2) hx h2]
      have := Nat.log2_def x
      rw [if_pos (by omega)] at this
      omega
theorem len64_any (x : Nat) (h0 : x ≠ 0) (hx : x < 18446744073709551616) (w : World) : Calls Try.prog 41 #[.int .u64 x] w fun e w' => e = .returned (.int .i64 ((x.log2 : Int) + 1)) ∧ w = w' :=
  (Go.Proofs.Any.bits_Len64 lays129 x w (by omega) (by omega)).mono fun _ _ ⟨he, hw⟩ => ⟨by rw [he, Int.toNat_natCast]; show Ending.returned (.int .i64 ((Lib.bitLenAux 64 x : Nat) : Int)) = _; rw [bitLen_log2 64 x hx h0]; rfl, hw.symm⟩
end Go.Proofs.Ytopddcabaiicgaa

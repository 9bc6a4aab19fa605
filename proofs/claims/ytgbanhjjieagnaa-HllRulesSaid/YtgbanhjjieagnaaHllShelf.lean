/-
  The shelf's contract of math/bits.LeadingZeros64 at this dump (laid by the kit's lay-shelf and lay-plain).
-/
import Derived.Shelf.Small.Bits
import Derived.Shelf.Strconv.Itoa0
import Derived.Test.YtgbanhjjieagnaaRows
import Derived.Test.YtgbanhjjieagnaaHllPlain
namespace Go.Proofs.Ytgbanhjjieagnaa
open Go.RowKit Go.Shelf
def lays134_ren : Go.Shelf.Ren := ⟨fun | 134 => 41 | 129 => 44 | n => n, fun | 53 => 25 | 3 => 3 | 4 => 4 | 46 => 66 | 5 => 5 | 9 => 9 | n => n, fun | n => n⟩
theorem lays134 : Go.Proofs.Lays.n134 Try.prog lays134_ren := {
  mixed := by kernel_rfl
  f129 := Try.func44.trans (congrArg some (by kernel_rfl))
  f134 := Try.func41.trans (congrArg some (by kernel_rfl))
  t3 := Try.underlying3
  a3 := Try.isAgg3
  z3 := Try.sizeOf3
  v3 := Try.zeroValue3
  t4 := Try.underlying4
  a4 := Try.isAgg4
  z4 := Try.sizeOf4
  v4 := Try.zeroValue4
  t5 := Try.underlying5
  a5 := Try.isAgg5
  z5 := Try.sizeOf5
  v5 := Try.zeroValue5
  t9 := Try.underlying9
  a9 := Try.isAgg9
  z9 := Try.sizeOf9
  v9 := Try.zeroValue9
  t46 := Try.underlying66
  a46 := Try.isAgg66
  z46 := Try.sizeOf66
  v46 := Try.zeroValue66
  t53 := Try.underlying25
  a53 := Try.isAgg25
  z53 := Try.sizeOf25
  v53 := Try.zeroValue25 }
theorem bitLen_bl : ∀ (f x : Nat), x < 2 ^ f → Lib.bitLenAux f x = bl x
  | 0, x, h => by have : x = 0 := by simpa using h
                  subst this; rfl
  | f + 1, x, h => by
    rw [Lib.bitLenAux]
    split
    · rename_i e; rw [e]; rfl
    · rename_i e
      have hx : x / 2 < 2 ^ f := by rw [Nat.pow_succ] at h; omega
      rw [bitLen_bl f (x / 2) hx]
      by_cases h2 : x / 2 = 0
      · have : x = 1 := by omega
        subst this; decide
      · unfold bl
        rw [if_neg h2, if_neg e]
        have := Nat.log2_def x
        rw [if_pos (by omega)] at this
        omega
theorem lz_any (x : Nat) (hx : x < 18446744073709551616) (w : World) : Calls Try.prog 41 #[.int .u64 x] w fun e w' => e = .returned (.int .i64 (64 - (bl x : Int))) ∧ w = w' :=
  (Go.Proofs.Any.bits_LeadingZeros64 lays134 x w (by omega) (by omega)).mono fun _ _ ⟨he, hw⟩ => ⟨by rw [he, Int.toNat_natCast]; show Ending.returned (.int .i64 (64 - (Lib.bitLenAux 64 x : Int))) = _; rw [bitLen_bl 64 x hx], hw.symm⟩
end Go.Proofs.Ytgbanhjjieagnaa

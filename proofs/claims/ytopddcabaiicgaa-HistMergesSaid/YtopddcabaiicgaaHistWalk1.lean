/-
  Walks of package hist: buckets, sums.
-/
import Derived.Test.YtopddcabaiicgaaHistShelf
import Derived.Test.YtopddcabaiicgaaHistList
import Derived.Test.YtopddcabaiicgaaBlk
import Derived.IntWalk
namespace Go.Proofs.Ytopddcabaiicgaa
open Go.RowKit
set_option linter.unusedVariables false
def fineB (f : Int) : Bool := decide (0 ≤ f ∧ f ≤ 3)
theorem fine_of {f : Int} (h : fineB f = true) : 0 ≤ f ∧ f ≤ 3 := by simpa [fineB] using h
theorem isFine_any (b : Int) (w : World) : Calls Try.prog 35 #[.int .i64 b] w fun e w' => e = .returned (.bool (fineB b)) ∧ w = w' := by
  by_cases h1 : 0 ≤ b
  · by_cases h2 : b ≤ 3
    · go_enter Try.func35, Try.ntmps35
      go_wp2
      go_ret
      exact ⟨ret_bool (by simp [fineB]; omega), rfl⟩
    · go_enter Try.func35, Try.ntmps35
      go_wp2
      go_ret
      exact ⟨ret_bool (by simp [fineB]; omega), rfl⟩
  · go_enter Try.func35, Try.ntmps35
    go_wp2
    go_ret
    exact ⟨ret_bool (by simp [fineB]; omega), rfl⟩
abbrev errV (s : ByteArray) : Value := .iface 73 (.agg #[.string s])
theorem errno_err (s : ByteArray) (w : World) : Calls Try.prog 37 #[errV s] w fun e w' => e = .returned (.int .i64 90) ∧ w.alloc (.cells #[.string s] 73) = w' := by
  have ta : ∀ w, (Instr.typeAssert (errV s) 61 73 true).run Try.prog w = .ok (.tuple #[.agg #[.string s], .bool true]) w := fun _ => by kernel_rfl
  go_enter Try.func37, Try.ntmps37
  go_wp2
  go_ret
  exact ⟨rfl, rfl⟩
theorem plus_any (a b : Int) (ha : U a) (hb : U b) (w : World) : Calls Try.prog 29 #[.int .u64 a, .int .u64 b] w fun e w' => e = .returned (.int .u64 (sat a b)) ∧ w = w' := by
  obtain ⟨ha1, ha2⟩ := ha
  obtain ⟨hb1, hb2⟩ := hb
  by_cases h : 18446744073709551615 - b < a
  · go_enter Try.func29, Try.ntmps29
    go_wp2
    go_ret
    exact ⟨ret_int (by simp [sat, h]), rfl⟩
  · go_enter Try.func29, Try.ntmps29
    go_wp2
    go_ret
    exact ⟨ret_int (by rw [sat, if_neg (by omega)]), rfl⟩
theorem together_any (a b : Int) (ha : U a) (hb : U b) (w : World) (g off cap : Nat) (h0 : w.cell? ⟨g, off, none⟩ = some (.int .u64 a)) (h1 : w.cell? ⟨g, off + 1, none⟩ = some (.int .u64 b)) :
    Calls Try.prog 45 #[.slice (some ⟨g, off, none⟩) 2 cap] w fun e w' => e = .returned (.int .u64 (sat a b)) ∧ w = w' := by
  obtain ⟨ha1, ha2⟩ := ha
  obtain ⟨hb1, hb2⟩ := hb
  by_cases h : 18446744073709551615 - a < b
  · go_enter Try.func45, Try.ntmps45
    go_wp2
    refine wp_loop_rounds 3 ?_
    rw [rounds_succ]
    go_wp2
    rw [rounds_succ]
    go_wp2
    go_ret
    exact ⟨ret_int (by rw [sat, if_pos (by omega)]), rfl⟩
  · go_enter Try.func45, Try.ntmps45
    go_wp2
    refine wp_loop_rounds 3 ?_
    rw [rounds_succ]
    go_wp2
    rw [rounds_succ]
    go_wp2
    rw [rounds_succ]
    go_wp2
    go_ret
    exact ⟨ret_int (by rw [sat, if_neg (by omega)]), rfl⟩
end Go.Proofs.Ytopddcabaiicgaa

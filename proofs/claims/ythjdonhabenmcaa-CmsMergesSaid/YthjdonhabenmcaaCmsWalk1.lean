/-
  Walks of package cms and of its reference: shapes, sums, columns.
-/
import Derived.Test.YthjdonhabenmcaaRows
import Derived.Test.YthjdonhabenmcaaBlk
import Derived.Test.YthjdonhabenmcaaCmsPlain
namespace Go.Proofs.Ythjdonhabenmcaa
open Go.RowKit
set_option linter.unusedVariables false

theorem beq_dec (a b : Int) : (a == b) = decide (a = b) := by by_cases h : a = b <;> simp [h]
theorem and_le {c : Int} (h1 : 4 ≤ c) (h2 : c ≤ 32) : (bits .and .i64 c (c - 1) == 0) = decide (c = 4 ∨ c = 8 ∨ c = 16 ∨ c = 32) := by
  obtain ⟨n, rfl⟩ : ∃ n : Nat, c = n := ⟨c.toNat, by omega⟩
  have : n = 4 ∨ n = 5 ∨ n = 6 ∨ n = 7 ∨ n = 8 ∨ n = 9 ∨ n = 10 ∨ n = 11 ∨ n = 12 ∨ n = 13 ∨ n = 14 ∨ n = 15 ∨ n = 16 ∨ n = 17 ∨ n = 18 ∨ n = 19 ∨ n = 20 ∨ n = 21 ∨ n = 22 ∨ n = 23 ∨ n = 24 ∨ n = 25 ∨ n = 26 ∨ n = 27 ∨ n = 28 ∨ n = 29 ∨ n = 30 ∨ n = 31 ∨ n = 32 := by omega
  rcases this with rfl | rfl | rfl | rfl | rfl | rfl | rfl | rfl | rfl | rfl | rfl | rfl | rfl | rfl | rfl | rfl | rfl | rfl | rfl | rfl | rfl | rfl | rfl | rfl | rfl | rfl | rfl | rfl | rfl <;> decide
theorem isShape_any (r c : Int) (w : World) : Calls Try.prog 38 #[.int .i64 r, .int .i64 c] w fun e w' => e = .returned (.bool (shapeB r c)) ∧ w = w' := by
  by_cases h1 : 1 ≤ r
  · by_cases h2 : r ≤ 4
    · by_cases h3 : 4 ≤ c
      · by_cases h4 : c ≤ 32
        · have hb := and_le h3 h4
          go_enter Try.func38, Try.ntmps38
          go_wp2
          go_ret
          exact ⟨ret_bool (by simp [shapeB, h1, h2]), rfl⟩
        · go_enter Try.func38, Try.ntmps38
          go_wp2
          go_ret
          exact ⟨ret_bool (by simp [shapeB]; omega), rfl⟩
      · go_enter Try.func38, Try.ntmps38
        go_wp2
        go_ret
        exact ⟨ret_bool (by simp [shapeB]; omega), rfl⟩
    · go_enter Try.func38, Try.ntmps38
      go_wp2
      go_ret
      exact ⟨ret_bool (by simp [shapeB]; omega), rfl⟩
  · go_enter Try.func38, Try.ntmps38
    go_wp2
    go_ret
    exact ⟨ret_bool (by simp [shapeB]; omega), rfl⟩
theorem is_any (r c : Int) (w : World) : Calls Try.prog 32 #[.int .i64 r, .int .i64 c] w fun e w' => e = .returned (.bool (shapeB r c)) ∧ w = w' := by
  by_cases h1 : 1 ≤ r ∧ r ≤ 4
  · obtain ⟨h1, h2⟩ := h1
    go_enter Try.func32, Try.ntmps32
    go_wp2
    all_goals go_ret
    all_goals exact ⟨ret_bool (by simp [shapeB, beq_dec, *]), rfl⟩
  · by_cases h2 : 1 ≤ r
    · have h3 : ¬ r ≤ 4 := by omega
      go_enter Try.func32, Try.ntmps32
      go_wp2
      all_goals go_ret
      all_goals exact ⟨ret_bool (by simp [shapeB]; omega), rfl⟩
    · go_enter Try.func32, Try.ntmps32
      go_wp2
      all_goals go_ret
      all_goals exact ⟨ret_bool (by simp [shapeB]; omega), rfl⟩
/-- The cells of counters. -/
abbrev cmsV (r c : Int) (A : Option Addr) (n cap : Nat) : Array Value := #[.int .i64 r, .int .i64 c, .slice A n cap]
theorem right_any (r c : Int) (A : Option Addr) (n cap : Nat) (w : World) :
    Calls Try.prog 16 #[.agg #[.int .i64 r, .int .i64 c, .slice A n cap]] w fun e w' => e = .returned (.bool (rightC r c n)) ∧ w.alloc (.cells #[.int .i64 r, .int .i64 c, .slice A n cap] 24) = w' := by
  cases hs : shapeB r c with
  | false =>
    have H := Lib.hid hs
    clear hs
    go_enter Try.func16, Try.ntmps16
    go_wp2_with fail
    refine (isShape_any r c _).mono ?_
    rintro e w' ⟨rfl, rfl⟩
    rw [H.out]
    go_wp2_with fail
    go_ret
    exact ⟨ret_bool (by simp [rightC, H.out]), rfl⟩
  | true =>
    obtain ⟨h1, h2, h3⟩ := shape_of hs
    have hm : 0 ≤ r * c ∧ r * c ≤ 128 := by rcases h3 with rfl | rfl | rfl | rfl <;> omega
    obtain ⟨hm1, hm2⟩ := hm
    have H := Lib.hid hs
    clear hs h3
    go_enter Try.func16, Try.ntmps16
    go_wp2_with fail
    refine (isShape_any r c _).mono ?_
    rintro e w' ⟨rfl, rfl⟩
    rw [H.out]
    go_wp2_with fail
    go_ret
    exact ⟨ret_bool (by simp [rightC, H.out, beq_dec]), rfl⟩
theorem rright_any (r c : Int) (A : Option Addr) (n cap : Nat) (w : World) :
    Calls Try.prog 17 #[.agg #[.int .i64 r, .int .i64 c, .slice A n cap]] w fun e w' => e = .returned (.bool (rightC r c n)) ∧ w.alloc (.cells #[.int .i64 r, .int .i64 c, .slice A n cap] 24) = w' := by
  cases hs : shapeB r c with
  | false =>
    have H := Lib.hid hs
    clear hs
    go_enter Try.func17, Try.ntmps17
    go_wp2_with fail
    refine (is_any r c _).mono ?_
    rintro e w' ⟨rfl, rfl⟩
    rw [H.out]
    go_wp2_with fail
    go_ret
    exact ⟨ret_bool (by simp [rightC, H.out]), rfl⟩
  | true =>
    obtain ⟨h1, h2, h3⟩ := shape_of hs
    have hm : 0 ≤ r * c ∧ r * c ≤ 128 := by rcases h3 with rfl | rfl | rfl | rfl <;> omega
    obtain ⟨hm1, hm2⟩ := hm
    have H := Lib.hid hs
    clear hs h3
    go_enter Try.func17, Try.ntmps17
    go_wp2_with fail
    refine (is_any r c _).mono ?_
    rintro e w' ⟨rfl, rfl⟩
    rw [H.out]
    go_wp2_with fail
    go_ret
    exact ⟨ret_bool (by simp [rightC, H.out, beq_dec]), rfl⟩
theorem plus_any (a b : Int) (ha : U a) (hb : U b) (w : World) : Calls Try.prog 25 #[.int .u64 a, .int .u64 b] w fun e w' => e = .returned (.int .u64 (sat a b)) ∧ w = w' := by
  obtain ⟨ha1, ha2⟩ := ha
  obtain ⟨hb1, hb2⟩ := hb
  by_cases h : 18446744073709551615 - b < a
  · go_enter Try.func25, Try.ntmps25
    go_wp2
    go_ret
    exact ⟨ret_int (by simp [sat, h]), rfl⟩
  · go_enter Try.func25, Try.ntmps25
    go_wp2
    go_ret
    exact ⟨ret_int (by rw [sat, if_neg (by omega)]), rfl⟩
theorem together_any (a b : Int) (ha : U a) (hb : U b) (w : World) (g off cap : Nat) (h0 : w.cell? ⟨g, off, none⟩ = some (.int .u64 a)) (h1 : w.cell? ⟨g, off + 1, none⟩ = some (.int .u64 b)) :
    Calls Try.prog 37 #[.slice (some ⟨g, off, none⟩) 2 cap] w fun e w' => e = .returned (.int .u64 (sat a b)) ∧ w = w' := by
  obtain ⟨ha1, ha2⟩ := ha
  obtain ⟨hb1, hb2⟩ := hb
  by_cases h : 18446744073709551615 - b < a
  · go_enter Try.func37, Try.ntmps37
    go_wp2
    refine wp_loop_rounds 3 ?_
    rw [rounds_succ]
    go_wp2
    rw [rounds_succ]
    go_wp2
    go_ret
    exact ⟨ret_int (by simp [sat, h]), rfl⟩
  · go_enter Try.func37, Try.ntmps37
    go_wp2
    refine wp_loop_rounds 3 ?_
    rw [rounds_succ]
    go_wp2
    rw [rounds_succ]
    go_wp2
    rw [rounds_succ]
    go_wp2
    go_ret
    exact ⟨ret_int (by rw [sat, if_neg (by omega)]), rfl⟩
end Go.Proofs.Ythjdonhabenmcaa

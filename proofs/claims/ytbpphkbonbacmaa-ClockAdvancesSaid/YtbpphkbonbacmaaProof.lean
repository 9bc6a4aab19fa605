/-
  PROVED: for every input, aviarylaw14.ClockAdvances returns true and leaves its arguments as they were (Rows.ClockAdvancesSaid). Conditions: none.
  The frame of the row's step was written by the kit's proof-skeleton.mjs; the walks of shown, Advance, Stale and the law are our own.
-/
import Derived.Test.YtbpphkbonbacmaaRows
import Derived.WalkKit
import Derived.ProofKit
import Derived.OpenShut
import Derived.Lib.Hide
namespace Go.Proofs.Ytbpphkbonbacmaa.clockAdvances
open Go.ChangeShapes Go.WideShapes Go.ChangeAt Go.RowKit
set_option linter.unusedVariables false      -- a walk need not use every 'w<i>' (that an integer argument fits its kind)

theorem own : ownKnob Try.prog.godebug = none := by kernel_rfl

/-! ### STEP 1 -/
theorem grown_trans {a b c : World} (h : Grown a b) (k : Grown b c) : Grown a c :=
  ⟨World.keptBut_trans h.1 k.1, fun x => (k.2.1 x).trans (h.2.1 x), Nat.le_trans h.2.2 k.2.2⟩
theorem bounds64 {a : Int} (h : (Lit.int .u64 a).wf = true) : 0 ≤ a ∧ a ≤ 18446744073709551615 := bounds_u64 h
theorem shown_any (w : World) : Calls Try.prog 4 #[] w fun e w' => e = .returned (.bool true) ∧ Grown w w' := by
  go_enter Try.func4, Try.ntmps4
  go_wp2
  go_ret
  exact ⟨rfl, by repeat (first | exact Grown.refl _ | apply Grown.drew | apply Grown.alloc)⟩
theorem adv_yes (now next : Int) (h : now ≤ next) (w : World) : Calls Try.prog 5 #[.int .u64 now, .int .u64 next] w fun e w' => e = .returned (.tuple #[.int .u64 next, .int .i64 0]) ∧ w = w' := by
  have h' : ¬ next < now := by omega
  go_enter Try.func5, Try.ntmps5
  go_wp2
  go_ret2
  exact ⟨rfl, rfl⟩
theorem adv_no (now next : Int) (h : next < now) (w : World) : Calls Try.prog 5 #[.int .u64 now, .int .u64 next] w fun e w' => e = .returned (.tuple #[.int .u64 0, .int .i64 140]) ∧ w = w' := by
  go_enter Try.func5, Try.ntmps5
  go_wp2
  go_ret2
  exact ⟨rfl, rfl⟩
def staleB (seen now life : Int) : Bool := decide (seen < now ∧ life < now - seen)
theorem stale_any (c0 c1 c2 c3 c4 c5 c6 c7 c8 c9 c10 : Value) (seen now life : Int) (b : Bool) (hb : staleB seen now life = b) (h0 : 0 ≤ seen) (hs : seen ≤ 18446744073709551615) (h1 : 0 ≤ now) (h1' : now ≤ 18446744073709551615) (w : World) :
    Calls Try.prog 6 #[.agg #[c0, c1, c2, c3, c4, c5, c6, c7, c8, c9, c10, .int .u64 seen], .int .u64 now, .int .u64 life] w fun e w' => e = .returned (.bool b) ∧ w.alloc (.cells #[c0, c1, c2, c3, c4, c5, c6, c7, c8, c9, c10, .int .u64 seen] 41) = w' := by
  have H := Lib.hid hb
  clear hb
  by_cases h2 : seen < now
  · by_cases h3 : life < now - seen
    · go_enter Try.func6, Try.ntmps6
      go_wp2
      go_ret
      refine ⟨?_, rfl⟩
      rw [← H.out]; simp [staleB, h2, h3]
    · go_enter Try.func6, Try.ntmps6
      go_wp2
      go_ret
      refine ⟨?_, rfl⟩
      rw [← H.out]; simp [staleB, h3]
  · go_enter Try.func6, Try.ntmps6
    go_wp2
    go_ret
    refine ⟨?_, rfl⟩
    rw [← H.out]; simp [staleB]; omega
theorem stale_mono (seen a b life : Int) (h : a ≤ b) (hs : staleB seen a life = true) : staleB seen b life = true := by
  simp [staleB] at *; omega
theorem stale_self (seen life : Int) : staleB seen seen life = false := by simp [staleB]
theorem walk_lt (a0 a1 a2 a3 : Int) (b0 : 0 ≤ a0) (b0' : a0 ≤ 18446744073709551615) (b1 : 0 ≤ a1) (b1' : a1 ≤ 18446744073709551615) (b2 : 0 ≤ a2) (b2' : a2 ≤ 18446744073709551615) (b3 : 0 ≤ a3) (b3' : a3 ≤ 18446744073709551615) (h : a0 < a1) (w : World) :
    Calls Try.prog 3 #[.int .u64 a0, .int .u64 a1, .int .u64 a2, .int .u64 a3] w fun e w' => e = .returned (.bool true) ∧ Grown w w' := by
  go_enter Try.func3, Try.ntmps3
  go_wp2_with fail
  refine (shown_any _).mono ?_
  rintro e w1 ⟨rfl, hg1⟩
  go_wp2_with fail
  refine (adv_yes _ _ (Int.le_of_lt h) _).mono ?_
  rintro e w2 ⟨rfl, rfl⟩
  go_wp2_with fail
  cases hs : staleB a2 a0 a3 with
  | false =>
    refine (stale_any _ _ _ _ _ _ _ _ _ _ _ _ _ _ false hs b2 b2' b0 b0' _).mono ?_
    clear hs
    rintro e w3 ⟨rfl, rfl⟩
    go_wp2_with fail
    refine (stale_any _ _ _ _ _ _ _ _ _ _ _ _ _ _ false (stale_self _ _) b2 b2' b2 b2' _).mono ?_
    rintro e w4 ⟨rfl, rfl⟩
    go_wp2_with fail
    go_ret
    exact ⟨rfl, grown_trans hg1 (by repeat (first | exact Grown.refl _ | apply Grown.drew | apply Grown.alloc))⟩
  | true =>
    refine (stale_any _ _ _ _ _ _ _ _ _ _ _ _ _ _ true hs b2 b2' b0 b0' _).mono ?_
    have hs2 := Lib.hid (stale_mono _ _ _ _ (Int.le_of_lt h) hs)
    clear hs
    rintro e w3 ⟨rfl, rfl⟩
    go_wp2_with fail
    refine (stale_any _ _ _ _ _ _ _ _ _ _ _ _ _ _ true hs2.out b2 b2' b1 b1' _).mono ?_
    rintro e w3 ⟨rfl, rfl⟩
    go_wp2_with fail
    refine (stale_any _ _ _ _ _ _ _ _ _ _ _ _ _ _ false (stale_self _ _) b2 b2' b2 b2' _).mono ?_
    rintro e w4 ⟨rfl, rfl⟩
    go_wp2_with fail
    go_ret
    exact ⟨rfl, grown_trans hg1 (by repeat (first | exact Grown.refl _ | apply Grown.drew | apply Grown.alloc))⟩
theorem walk_eq (a0 a2 a3 : Int) (b0 : 0 ≤ a0) (b0' : a0 ≤ 18446744073709551615) (b2 : 0 ≤ a2) (b2' : a2 ≤ 18446744073709551615) (b3 : 0 ≤ a3) (b3' : a3 ≤ 18446744073709551615) (w : World) :
    Calls Try.prog 3 #[.int .u64 a0, .int .u64 a0, .int .u64 a2, .int .u64 a3] w fun e w' => e = .returned (.bool true) ∧ Grown w w' := by
  go_enter Try.func3, Try.ntmps3
  go_wp2_with fail
  refine (shown_any _).mono ?_
  rintro e w1 ⟨rfl, hg1⟩
  go_wp2_with fail
  refine (adv_yes _ _ (Int.le_refl _) _).mono ?_
  rintro e w2 ⟨rfl, rfl⟩
  go_wp2_with fail
  cases hs : staleB a2 a0 a3 with
  | false =>
    refine (stale_any _ _ _ _ _ _ _ _ _ _ _ _ _ _ false hs b2 b2' b0 b0' _).mono ?_
    clear hs
    rintro e w3 ⟨rfl, rfl⟩
    go_wp2_with fail
    refine (stale_any _ _ _ _ _ _ _ _ _ _ _ _ _ _ false (stale_self _ _) b2 b2' b2 b2' _).mono ?_
    rintro e w4 ⟨rfl, rfl⟩
    go_wp2_with fail
    go_ret
    exact ⟨rfl, grown_trans hg1 (by repeat (first | exact Grown.refl _ | apply Grown.drew | apply Grown.alloc))⟩
  | true =>
    refine (stale_any _ _ _ _ _ _ _ _ _ _ _ _ _ _ true hs b2 b2' b0 b0' _).mono ?_
    have hs2 := Lib.hid (hs)
    clear hs
    rintro e w3 ⟨rfl, rfl⟩
    go_wp2_with fail
    refine (stale_any _ _ _ _ _ _ _ _ _ _ _ _ _ _ true hs2.out b2 b2' b0 b0' _).mono ?_
    rintro e w3 ⟨rfl, rfl⟩
    go_wp2_with fail
    refine (stale_any _ _ _ _ _ _ _ _ _ _ _ _ _ _ false (stale_self _ _) b2 b2' b2 b2' _).mono ?_
    rintro e w4 ⟨rfl, rfl⟩
    go_wp2_with fail
    go_ret
    exact ⟨rfl, grown_trans hg1 (by repeat (first | exact Grown.refl _ | apply Grown.drew | apply Grown.alloc))⟩
theorem walk_gt (a0 a1 a2 a3 : Int) (b0 : 0 ≤ a0) (b0' : a0 ≤ 18446744073709551615) (b1 : 0 ≤ a1) (b1' : a1 ≤ 18446744073709551615) (b2 : 0 ≤ a2) (b2' : a2 ≤ 18446744073709551615) (b3 : 0 ≤ a3) (b3' : a3 ≤ 18446744073709551615) (h : a1 < a0) (w : World) :
    Calls Try.prog 3 #[.int .u64 a0, .int .u64 a1, .int .u64 a2, .int .u64 a3] w fun e w' => e = .returned (.bool true) ∧ Grown w w' := by
  go_enter Try.func3, Try.ntmps3
  go_wp2_with fail
  refine (shown_any _).mono ?_
  rintro e w1 ⟨rfl, hg1⟩
  go_wp2_with fail
  refine (adv_no _ _ h _).mono ?_
  rintro e w2 ⟨rfl, rfl⟩
  go_wp2_with fail
  cases hs : staleB a2 a1 a3 with
  | false =>
    refine (stale_any _ _ _ _ _ _ _ _ _ _ _ _ _ _ false hs b2 b2' b1 b1' _).mono ?_
    clear hs
    rintro e w3 ⟨rfl, rfl⟩
    go_wp2_with fail
    refine (stale_any _ _ _ _ _ _ _ _ _ _ _ _ _ _ false (stale_self _ _) b2 b2' b2 b2' _).mono ?_
    rintro e w4 ⟨rfl, rfl⟩
    go_wp2_with fail
    go_ret
    exact ⟨rfl, grown_trans hg1 (by repeat (first | exact Grown.refl _ | apply Grown.drew | apply Grown.alloc))⟩
  | true =>
    refine (stale_any _ _ _ _ _ _ _ _ _ _ _ _ _ _ true hs b2 b2' b1 b1' _).mono ?_
    have hs2 := Lib.hid (stale_mono _ _ _ _ (Int.le_of_lt h) hs)
    clear hs
    rintro e w3 ⟨rfl, rfl⟩
    go_wp2_with fail
    refine (stale_any _ _ _ _ _ _ _ _ _ _ _ _ _ _ true hs2.out b2 b2' b0 b0' _).mono ?_
    rintro e w3 ⟨rfl, rfl⟩
    go_wp2_with fail
    refine (stale_any _ _ _ _ _ _ _ _ _ _ _ _ _ _ false (stale_self _ _) b2 b2' b2 b2' _).mono ?_
    rintro e w4 ⟨rfl, rfl⟩
    go_wp2_with fail
    go_ret
    exact ⟨rfl, grown_trans hg1 (by repeat (first | exact Grown.refl _ | apply Grown.drew | apply Grown.alloc))⟩

theorem walk (a0 : Int) (a1 : Int) (a2 : Int) (a3 : Int) (w0 : (Lit.int .u64 a0).wf = true) (w1 : (Lit.int .u64 a1).wf = true) (w2 : (Lit.int .u64 a2).wf = true) (w3 : (Lit.int .u64 a3).wf = true) (w : World) :
    Calls Try.prog 3 #[.int .u64 a0, .int .u64 a1, .int .u64 a2, .int .u64 a3] w fun e w' => e = .returned (.bool true) ∧ Grown w w' := by
  obtain ⟨b0, b0'⟩ := bounds64 w0
  obtain ⟨b1, b1'⟩ := bounds64 w1
  obtain ⟨b2, b2'⟩ := bounds64 w2
  obtain ⟨b3, b3'⟩ := bounds64 w3
  clear w0 w1 w2 w3
  rcases Int.lt_trichotomy a0 a1 with h | rfl | h
  · exact walk_lt a0 a1 a2 a3 b0 b0' b1 b1' b2 b2' b3 b3' h w
  · exact walk_eq a0 a2 a3 b0 b0' b2 b2' b3 b3' w
  · exact walk_gt a0 a1 a2 a3 b0 b0' b1 b1' b2 b2' b3 b3' h w

/-! ### THE ROW's STEP: WRITTEN OUT: LEAVE IT -/
set_option maxRecDepth 100000 in
theorem lifted (os : Os) (started : os.Started) (H : Type) (enc : TypeId × Value → H) :
    ReturnsInHanded {} Try.checked os 3 .any (Rows.clockAdvancesSpec.pre6 enc Try.prog Try.f3 Rows.clockAdvancesRow.domain false) (Rows.clockAdvancesSpec.post enc Try.prog Try.f3 false true false false) := by
  refine returnsInHanded_of_change (C := Try.checked) own started (by kernel_rfl) Try.func3
    (ChangeSpec.witness6 (enc := enc) (C := Try.checked) false ⟨#[], #[.int .u64 0, .int .u64 0, .int .u64 0, .int .u64 0], []⟩ 8 (by kernel_rfl) (by kernel_rfl) (by kernel_rfl) (by kernel_rfl)) ?_
  intro W base args ds gs before hval0 hW hcnd _
  have hval : ∀ (j : Nat) t v, Try.f3.params[j]? = some t → args[j]? = some v → Value.okWide Try.prog W .any base t v := hval0
  have hW' := hW
  obtain ⟨p, q, hA0, hV, rfl, hfz, hnd⟩ := hW
  have hA : DataW.TrodAll enc Try.prog W 0 (fun _ => true) true Try.f3.params.toList args.toList ds p := hA0
  rw [Try.params3] at hA hval
  obtain ⟨v0, vs0, d0, ds0, p0, q0, hargs, rfl, rfl, h0, r0⟩ := trodAll_cons hA
  obtain ⟨v1, vs1, d1, ds1, p1, q1, rfl, rfl, rfl, h1, r1⟩ := trodAll_cons r0
  obtain ⟨v2, vs2, d2, ds2, p2, q2, rfl, rfl, rfl, h2, r2⟩ := trodAll_cons r1
  obtain ⟨v3, vs3, d3, ds3, p3, q3, rfl, rfl, rfl, h3, r3⟩ := trodAll_cons r2
  obtain ⟨rfl, rfl, rfl⟩ := trodAll_nil r3
  obtain rfl : args = #[v0, v1, v2, v3] := by cases args; simp_all
  obtain ⟨rfl, rfl⟩ := trodVars_none hV
  obtain ⟨a0, rfl, rfl, rfl, w0⟩ := open_int Try.underlying22 (hval 0 22 v0 rfl rfl) h0
  obtain ⟨a1, rfl, rfl, rfl, w1⟩ := open_int Try.underlying22 (hval 1 22 v1 rfl rfl) h1
  obtain ⟨a2, rfl, rfl, rfl, w2⟩ := open_int Try.underlying22 (hval 2 22 v2 rfl rfl) h2
  obtain ⟨a3, rfl, rfl, rfl, w3⟩ := open_int Try.underlying22 (hval 3 22 v3 rfl rfl) h3
  clear hA0 hval0
  simp only [List.append_nil] at hW'
  refine (walk a0 a1 a2 a3 w0 w1 w2 w3 W).mono fun e W' ⟨he, hg⟩ => ?_
  subst he
  exact ⟨_, rfl, post_of_same (pa := []) (pv := []) hW' (fun _ _ _ => (trodAll_cons_mk (shut_bool Try.underlying4 _) trodAll_mk0)) (fun sp _ => (trodAll_cons_mk (shut_int Try.underlying22 w0) (trodAll_cons_mk (shut_int Try.underlying22 w1) (trodAll_cons_mk (shut_int Try.underlying22 w2) (trodAll_cons_mk (shut_int Try.underlying22 w3) trodAll_mk0))))) (fun _ _ => rfl) rfl
    (hg.frame _) hg.2.1 (ok_one (by kernel_rfl) rfl (okWide_bool_mk Try.underlying4 _))⟩

theorem over : Rows.clockAdvancesRow.holds Try.pinned (OpenSpec.ofChange Rows.clockAdvancesSpec) :=
  OpenClaim.holds_of_wide 3 Try.f3 rfl rfl rfl rfl rfl rfl rfl ⟨rfl, rfl, rfl, rfl, rfl⟩ rfl rfl rfl rfl rfl (by kernel_rfl) Try.func3 (by kernel_rfl)
    (of_decide_eq_true (by kernel_rfl)) (by unfold Func.isWrapper; first | (rw [if_pos (by decide +kernel)]; kernel_rfl) | (rw [if_neg (by decide +kernel)]; exact ⟨rfl, rfl⟩))
    (fun os started H enc _ => lifted os started H enc)

/-- ████ THE STATEMENT ████ -/
theorem proved : Rows.ClockAdvancesSaid :=
  over
#print axioms proved
end Go.Proofs.Ytbpphkbonbacmaa.clockAdvances

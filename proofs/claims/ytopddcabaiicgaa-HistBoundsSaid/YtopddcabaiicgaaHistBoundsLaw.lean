/-
  The walk of the law aviarylaw09.HistBounds.
-/
import Derived.Test.YtopddcabaiicgaaHistShown
import Derived.Test.YtopddcabaiicgaaHistFacts
namespace Go.Proofs.Ytopddcabaiicgaa
open Go.RowKit
set_option linter.unusedVariables false
set_option linter.unusedSimpArgs false
theorem bdrew {w w1 : World} (T : Below w.heap.size w w1) (n : Nat) : Below w.heap.size w (w1.drewN n) := below_drewN T n
set_option maxRecDepth 100000 in
set_option maxHeartbeats 2000000 in
theorem histBounds_bad (f v x : Int) (hv : U v) (hf : fineB f = false) (w : World) :
    Calls Try.prog 4 #[.int .i64 f, .int .u64 v, .int .u64 x] w fun e w' => e = .returned (.bool true) ∧ Below w.heap.size w w' := by
  have HB : Hid (bucketF f v = 0) := by show _ = _; simp [bucketF, hf]
  have hc : f < 0 ∨ (0 ≤ f ∧ 3 < f) := by simp [fineB] at hf; omega
  clear hf
  rcases hc with h | ⟨h1, h⟩
  all_goals
    go_enter Try.func4, Try.ntmps4
    go_wp2_with fail
    refine (shown_any _).mono ?_
    rintro e w1 ⟨rfl, T⟩
    go_wp2_with fail
    refine (bucket_any f v hv _).mono ?_
    rintro e w2 ⟨rfl, q, rfl⟩
    rw [HB.out]
    go_wp2_with fail
    go_ret
    exact ⟨rfl, bdrew T q⟩
set_option maxRecDepth 100000 in
set_option maxHeartbeats 2000000 in
theorem histBounds_good (f v x mn mx : Int) (hv : U v) (hx : U x) (hf : fineB f = true) (hmn : min v x = mn) (hmx : max v x = mx) (w : World) :
    Calls Try.prog 4 #[.int .i64 f, .int .u64 v, .int .u64 x] w fun e w' => e = .returned (.bool true) ∧ Below w.heap.size w w' := by
  obtain ⟨f1, f2⟩ := fine_of hf
  obtain ⟨a, b, B⟩ := bkF_any hf hv
  have HE := Lib.hid B.eq
  have HA := Lib.hid B.ba
  have HB := Lib.hid B.bb
  have u1 : U mn := by unfold U at *; omega
  have u2 : U mx := by unfold U at *; omega
  have hm := bucketF_mono (f := f) u1 u2 (by omega)
  have q1 := B.lo
  have q2 := B.hi
  have ua := B.ua
  have ub := B.ub
  have HL := Lib.hid B.low
  have hbi := bucketF_i64 f hv
  clear B
  go_enter Try.func4, Try.ntmps4
  go_wp2_with fail
  refine (shown_any _).mono ?_
  rintro e w1 ⟨rfl, T⟩
  go_wp2_with fail
  refine (bucket_any f v hv _).mono ?_
  rintro e w2 ⟨rfl, n2, rfl⟩
  replace T := bdrew T n2
  generalize w1.drewN n2 = w2 at *
  go_wp2_with fail
  refine (bounds_any f _ hbi _).mono ?_
  rintro e w3 ⟨rfl, n3, rfl⟩
  rw [HE.out]
  replace T := bdrew T n3
  generalize w2.drewN n3 = w3 at *
  go_wp2_with fail
  refine (bucket_any f mn u1 _).mono ?_
  rintro e w4 ⟨rfl, n4, rfl⟩
  replace T := bdrew T n4
  generalize w3.drewN n4 = w4 at *
  go_wp2_with fail
  refine (bucket_any f mx u2 _).mono ?_
  rintro e w5 ⟨rfl, n5, rfl⟩
  replace T := bdrew T n5
  generalize w4.drewN n5 = w5 at *
  generalize bucketF f mn = bx at *
  generalize bucketF f mx = by_ at *
  go_wp2_with fail
  refine (bucket_any f a ua _).mono ?_
  rintro e w6 ⟨rfl, n6, rfl⟩
  rw [HA.out]
  replace T := bdrew T n6
  generalize w5.drewN n6 = w6 at *
  go_wp2_with fail
  refine (bucket_any f v hv _).mono ?_
  rintro e w7 ⟨rfl, n7, rfl⟩
  replace T := bdrew T n7
  generalize w6.drewN n7 = w7 at *
  go_wp2_with fail
  refine (bucket_any f b ub _).mono ?_
  rintro e w8 ⟨rfl, n8, rfl⟩
  rw [HB.out]
  replace T := bdrew T n8
  generalize w7.drewN n8 = w8 at *
  go_wp2_with fail
  refine (bucket_any f v hv _).mono ?_
  rintro e w9 ⟨rfl, n9, rfl⟩
  replace T := bdrew T n9
  generalize w8.drewN n9 = w9 at *
  by_cases ha : a = 0
  · have d0 : (a == 0) = true := by simp [ha]
    clear ha
    go_wp2_with fail
    go_ret
    exact ⟨rfl, T⟩
  · have d0 : (a == 0) = false := by simp [ha]
    have hlt : bucketF f (a - 1) < bucketF f v := HL.out.resolve_left ha
    have a1 : 1 ≤ a := by unfold U at ua; omega
    have a2 : a ≤ 18446744073709551615 := ua.2
    have ua1 : U (a - 1) := by unfold U at *; omega
    obtain ⟨kb, hkb⟩ : ∃ c, bucketF f v = c := ⟨_, rfl⟩
    rw [hkb] at hlt ⊢
    have HV := Lib.hid hkb
    clear hkb hbi
    obtain ⟨kc, hkc⟩ : ∃ c, bucketF f (a - 1) = c := ⟨_, rfl⟩
    rw [hkc] at hlt
    have HC := Lib.hid hkc
    clear ha hkc
    go_wp2_with fail
    refine (bucket_any f (a - 1) ua1 _).mono ?_
    rintro e w10 ⟨rfl, n10, rfl⟩
    rw [HC.out]
    replace T := bdrew T n10
    generalize w9.drewN n10 = w10 at *
    go_wp2_with fail
    refine (bucket_any f v hv _).mono ?_
    rintro e w11 ⟨rfl, n11, rfl⟩
    rw [HV.out]
    go_wp2_with fail
    go_ret
    exact ⟨rfl, bdrew T _⟩
theorem histBounds_walk (f v x : Int) (hv : U v) (hx : U x) (w : World) :
    Calls Try.prog 4 #[.int .i64 f, .int .u64 v, .int .u64 x] w fun e w' => e = .returned (.bool true) ∧ Below w.heap.size w w' := by
  cases hf : fineB f with
  | false => exact histBounds_bad f v x hv hf w
  | true => exact histBounds_good f v x _ _ hv hx hf rfl rfl w
end Go.Proofs.Ytopddcabaiicgaa

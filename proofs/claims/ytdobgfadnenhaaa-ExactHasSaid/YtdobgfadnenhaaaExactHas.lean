/-
  The walk of the law aviarylaw06.ExactHas: call by call, each callee by its contract; and the plain law behind it.
-/
import Derived.Test.YtdobgfadnenhaaaExactShown
import Derived.Test.YtdobgfadnenhaaaExactLaws
import Derived.Test.YtdobgfadnenhaaaExactFew
namespace Go.Proofs.Ytdobgfadnenhaaa
open Go.RowKit
set_option linter.unusedVariables false
set_option maxHeartbeats 4000000 in
theorem has_walk (w : World) (n0 n1 cap0 cap1 : Nat) (a0 a1 : Option Addr) (x0 x1 : List Int) (n : Int)
    (hS0 : Sl w w.heap.size a0 x0) (hS1 : Sl w w.heap.size a1 x1)
    (hk0 : (if (100 : Int) < (n0 : Int) then (100 : Int) else (n0 : Int)) = (x0.length : Int)) (hk1 : (if (100 : Int) < (n1 : Int) then (100 : Int) else (n1 : Int)) = (x1.length : Int))
    (hq0 : x0.length ≤ cap0) (hq1 : x1.length ≤ cap1) (hm0 : cap0 ≤ 9223372036854775807) (hm1 : cap1 ≤ 9223372036854775807) (hn0 : n0 ≤ cap0) (h0 : x0.length ≤ 100) (h1 : x1.length ≤ 100) (h0' : x0.length ≤ n0) (hor : x0.length = n0 ∨ x0.length = 100) :
    Calls Try.prog 4 #[.slice a0 n0 cap0, .slice a1 n1 cap1, .int .u64 n] w fun e w' => e = .returned (.bool true) ∧ Below w.heap.size w w' := by
  have P0 := Lib.hid hS0
  have P1 := Lib.hid hS1
  have HK0 := Lib.hid hk0
  have HK1 := Lib.hid hk1
  have HOR := Lib.hid hor
  clear hS0 hS1 hk0 hk1 hor
  go_enter Try.func4, Try.ntmps4
  go_wp2_with fail
  refine (shown_any _).mono ?_
  rintro e w0 ⟨rfl, hb0⟩
  have Dw0 : Below w.heap.size w w0 := Below.two (below_0 w) hb0
  replace P0 := Lib.hid (P0.out.later Dw0)
  replace P1 := Lib.hid (P1.out.later Dw0)
  have Tw0 := Dw0
  go_wp2_with fail
  refine (few_any _ n0 cap0 a0 x0 HK0.out hq0 hm0).mono ?_
  rintro e w' ⟨rfl, rfl⟩
  go_wp2_with fail
  refine (of_tot _ cap0 a0 x0 (by exact P0.out.later (below_0 w0)) (by omega)).mono ?_
  rintro e w1 ⟨hb1, v1, rfl, hh1⟩
  obtain ⟨A1, c1, rfl, hc1, hA1, hS1, hF1⟩ := hh1
  have Dw1 : Below w0.heap.size w0 w1 := Below.two (below_0 w0) hb1
  replace P0 := Lib.hid (P0.out.later Dw1)
  replace P1 := Lib.hid (P1.out.later Dw1)
  have Tw1 := Below.two Tw0 Dw1
  have S1 := Lib.hid hS1
  clear hA1 hF1 hS1
  have X1 := Lib.hid (Boxed.new w1 24 (.slice A1 ((ofF x0).1).length c1))
  have kX1 := True.intro
  have zX1 := True.intro
  go_wp2_with fail
  refine (few_any _ n1 cap1 a1 x1 HK1.out hq1 hm1).mono ?_
  rintro e w' ⟨rfl, rfl⟩
  go_wp2_with fail
  refine (of_tot _ cap1 a1 x1 (by exact P1.out.later (below_al (below_0 w1) _)) (by omega)).mono ?_
  rintro e w2 ⟨hb2, v2, rfl, hh2⟩
  obtain ⟨A2, c2, rfl, hc2, hA2, hS2, hF2⟩ := hh2
  clear kX1 zX1
  have Dw2 : Below w1.heap.size w1 w2 := Below.two (below_al (below_0 w1) _) hb2
  replace P0 := Lib.hid (P0.out.later Dw2)
  replace P1 := Lib.hid (P1.out.later Dw2)
  replace S1 := Lib.hid (S1.out.later Dw2)
  replace X1 := Lib.hid (boxed_below X1.out hb2)
  have Tw2 := Below.two Tw1 Dw2
  have S2 := Lib.hid hS2
  clear hA2 hF2 hS2
  have X2 := Lib.hid (Boxed.new w2 24 (.slice A2 ((ofF x1).1).length c2))
  have kX1 := X1.out.cell
  have zX1 := X1.out.lt
  have kX2 := True.intro
  have zX2 := True.intro
  by_cases e1 : (ofF x0).2 = 0
  · have t1 : ((ofF x0).2 != 0) = false := by simpa using e1
    by_cases e2 : (ofF x1).2 = 0
    · have t2 : ((ofF x1).2 != 0) = false := by simpa using e2
      have E1 := Lib.hid e1
      have E2 := Lib.hid e2
      clear e1 e2
      go_wp2_with fail
      go_loop [12, 13] (fun b i => ∃ k : Nat, k ≤ x0.length ∧ i = .int .i64 k ∧ b = .bool (memTo x0 k n)) (fun _ i => x0.length - (intOf i).toNat)
      case atStart => exact ⟨0, Nat.zero_le _, rfl, by rw [memTo_zero]⟩
      case round =>
        obtain ⟨k, hk, rfl, rfl⟩ := hrel
        by_cases hlt : k < x0.length
        · obtain ⟨b, off, rfl, hb, hc⟩ := P0.out.at_ (by omega)
          have hlt1 : (k : Int) < (n0 : Int) := by omega
          have hlt2 : (k : Int) < 100 := by omega
          have hcc := hc k hlt
          have HMS := Lib.hid (memTo_succ hlt n)
          clear hc
          cases hm : memTo x0 k n with
          | true =>
            have HM := Lib.hid hm
            clear hm
            go_wp2_with fail
            go_round
            case rel => exact ⟨k + 1, by omega, by go_num, by rw [HMS.out, HM.out]; rfl⟩
            case measure => simp [intOf]; omega
          | false =>
            have HM := Lib.hid hm
            clear hm
            by_cases he : nth x0 k = n
            · have he' : (nth x0 k == n) = true := by simpa using he
              have HE := Lib.hid he
              clear he
              go_wp2_with fail
              go_round
              case rel => exact ⟨k + 1, by omega, by go_num, by rw [HMS.out, HM.out, HE.out]; simp⟩
              case measure => simp [intOf]; omega
            · have he' : (nth x0 k == n) = false := by simpa using he
              have HE : Hid (decide (nth x0 k = n) = false) := by show decide _ = false; simpa using he
              clear he
              go_wp2_with fail
              go_round
              case rel => exact ⟨k + 1, by omega, by go_num, by rw [HMS.out, HM.out, HE.out]; rfl⟩
              case measure => simp [intOf]; omega
        · obtain rfl : k = x0.length := by omega
          have HB : Hid (hasB (ofF x0).1 n = memTo x0 x0.length n) := by show hasB _ _ = _; rw [ofF_has E1.out]; simp [memTo]
          have hex : (x0.length < n0 ∧ x0.length = 100) ∨ ¬ x0.length < n0 := by have := HOR.out; omega
          rcases hex with ⟨hx1, hx2⟩ | hx1
          · have d2 : decide ((x0.length : Int) < 100) = false := by simp; omega
            have hx1i : (x0.length : Int) < (n0 : Int) := by omega
            clear hx2
            go_wp2_with fail
            refine (merge_tot _ c1 c2 A1 A2 (ofF x0).1 (ofF x1).1 (by exact S1.out.later (below_al (below_0 w2) _)) (by exact S2.out.later (below_al (below_0 w2) _)) (by have := right_len (ofF_right x0); omega) (by have := right_len (ofF_right x1); omega)).mono ?_
            rintro e w3 ⟨hb3, v3, rfl, hh3⟩
            obtain ⟨A3, c3, rfl, hc3, hA3, hS3, hF3⟩ := hh3
            clear kX1 zX1 kX2 zX2
            have Dw3 : Below w2.heap.size w2 w3 := Below.two (below_al (below_0 w2) _) hb3
            replace P0 := Lib.hid (P0.out.later Dw3)
            replace P1 := Lib.hid (P1.out.later Dw3)
            replace S1 := Lib.hid (S1.out.later Dw3)
            replace S2 := Lib.hid (S2.out.later Dw3)
            replace X1 := Lib.hid (boxed_below X1.out Dw3)
            replace X2 := Lib.hid (boxed_below X2.out hb3)
            have Tw3 := Below.two Tw2 Dw3
            have S3 := Lib.hid hS3
            clear hA3 hF3 hS3
            have X3 := Lib.hid (Boxed.new w3 24 (.slice A3 ((mergeF (ofF x0).1 (ofF x1).1).1).length c3))
            have kX1 := X1.out.cell
            have zX1 := X1.out.lt
            have kX2 := X2.out.cell
            have zX2 := X2.out.lt
            have kX3 := True.intro
            have zX3 := True.intro
            go_wp2_with fail
            refine (has_any _ c1 A1 (ofF x0).1 n (by exact S1.out.later (below_al (below_0 w3) _)) (by have := right_len (ofF_right x0); omega)).mono ?_
            rintro e w4 ⟨rfl, hb4⟩
            clear kX1 zX1 kX2 zX2 kX3 zX3
            have Dw4 : Below w3.heap.size w3 w4 := Below.two (below_al (below_0 w3) _) hb4
            replace P0 := Lib.hid (P0.out.later Dw4)
            replace P1 := Lib.hid (P1.out.later Dw4)
            replace S1 := Lib.hid (S1.out.later Dw4)
            replace S2 := Lib.hid (S2.out.later Dw4)
            replace S3 := Lib.hid (S3.out.later Dw4)
            replace X1 := Lib.hid (boxed_below X1.out Dw4)
            replace X2 := Lib.hid (boxed_below X2.out Dw4)
            replace X3 := Lib.hid (boxed_below X3.out hb4)
            have Tw4 := Below.two Tw3 Dw4
            have kX1 := X1.out.cell
            have zX1 := X1.out.lt
            have kX2 := X2.out.cell
            have zX2 := X2.out.lt
            have kX3 := X3.out.cell
            have zX3 := X3.out.lt
            rw [HB.out]
            go_wp2_with fail
            have F1 := After.cell kX1 zX1
            have F2 := After.cell kX2 zX2
            have F3 := After.cell kX3 zX3
            haveI := After.some w4
            clear kX1 kX2 kX3 zX1 zX2 zX3
            have GY : Hid (∀ x : After w4, Calls Try.prog 19 #[.agg #[.slice A2 ((ofF x1).1).length c2], .int .u64 n] x.at_ fun e w' => e = .returned (.bool (hasB (ofF x1).1 n)) ∧ Below x.at_.heap.size x.at_ w') := fun x => (has_any x.at_ c2 A2 ((ofF x1).1) n (S2.out.later x.is) (by have := right_len (ofF_right x1); omega))
            have GZ : Hid (∀ x : After w4, Calls Try.prog 19 #[.agg #[.slice A3 ((mergeF (ofF x0).1 (ofF x1).1).1).length c3], .int .u64 n] x.at_ fun e w' => e = .returned (.bool (hasB (mergeF (ofF x0).1 (ofF x1).1).1 n)) ∧ Below x.at_.heap.size x.at_ w') := fun x => (has_any x.at_ c3 A3 ((mergeF (ofF x0).1 (ofF x1).1).1) n (S3.out.later x.is) (by have := right_len (mergeF_right (ofF x0).1 (ofF x1).1); omega))
            have CX : Hid (∀ x : After w4, Calls Try.prog 20 #[.agg #[.slice A1 ((ofF x0).1).length c1]] x.at_ fun e w' => e = .returned (.int .u64 (cnt (ofF x0).1)) ∧ Below x.at_.heap.size x.at_ w') := fun x => (count_any x.at_ c1 A1 ((ofF x0).1) (S1.out.later x.is) (by have := right_len (ofF_right x0); omega))
            have CY : Hid (∀ x : After w4, Calls Try.prog 20 #[.agg #[.slice A2 ((ofF x1).1).length c2]] x.at_ fun e w' => e = .returned (.int .u64 (cnt (ofF x1).1)) ∧ Below x.at_.heap.size x.at_ w') := fun x => (count_any x.at_ c2 A2 ((ofF x1).1) (S2.out.later x.is) (by have := right_len (ofF_right x1); omega))
            have CZ : Hid (∀ x : After w4, Calls Try.prog 20 #[.agg #[.slice A3 ((mergeF (ofF x0).1 (ofF x1).1).1).length c3]] x.at_ fun e w' => e = .returned (.int .u64 (cnt (mergeF (ofF x0).1 (ofF x1).1).1)) ∧ Below x.at_.heap.size x.at_ w') := fun x => (count_any x.at_ c3 A3 ((mergeF (ofF x0).1 (ofF x1).1).1) (S3.out.later x.is) (by have := right_len (mergeF_right (ofF x0).1 (ofF x1).1); omega))
            by_cases e3 : (mergeF (ofF x0).1 (ofF x1).1).2 = 60
            · have t3 : ((mergeF (ofF x0).1 (ofF x1).1).2 == 60) = true := by simpa using e3
              clear e3 HB
              refine wp_region_below (by kernel_rfl) (by kernel_rfl) ?_
              repeat (go_big_quiet_step (fail))
              refine wpQuiet_nil ?_
              rintro _ ⟨⟨w9, hb9⟩, rfl⟩
              go_wp2_with fail
              go_ret
              exact ⟨rfl, Below.two Tw4 hb9⟩
            · have t3 : ((mergeF (ofF x0).1 (ofF x1).1).2 == 60) = false := by simpa using e3
              have hcn := mergeF_cnt (ofF_right x0) (ofF_right x1) e3
              have hbz := cnt_bd (mergeF_right (ofF x0).1 (ofF x1).1)
              have hbx := cnt_bd (ofF_right x0)
              have hby := cnt_bd (ofF_right x1)
              have HZ := Lib.hid (mergeF_has (ofF_right x0) (ofF_right x1) e3 n)
              obtain ⟨q1, q2, q3⟩ := hcn
              obtain ⟨q4, q5⟩ := hbz
              obtain ⟨q6, q7⟩ := hbx
              obtain ⟨q8, q9⟩ := hby
              clear e3
              cases hm : memTo x0 x0.length n with
              | true =>
                have HZ2 : Hid (hasB (mergeF (ofF x0).1 (ofF x1).1).1 n = true) := by show hasB _ _ = _; rw [HZ.out, HB.out, hm]; rfl
                clear HZ HB hm
                rw [HZ2.out] at GZ
                by_cases hmx : cnt (ofF x0).1 < cnt (ofF x1).1
                · refine wp_region_below (by kernel_rfl) (by kernel_rfl) ?_
                  repeat (go_big_quiet_step (first | with_reducible exact after_calls (GZ.out _) | with_reducible exact after_calls (GY.out _) | with_reducible exact after_calls (CZ.out _) | with_reducible exact after_calls (CX.out _) | with_reducible exact after_calls (CY.out _)))
                  refine wpQuiet_nil ?_
                  rintro _ ⟨⟨w9, hb9⟩, rfl⟩
                  go_wp2_with fail
                  go_ret
                  exact ⟨rfl, Below.two Tw4 hb9⟩
                · refine wp_region_below (by kernel_rfl) (by kernel_rfl) ?_
                  repeat (go_big_quiet_step (first | with_reducible exact after_calls (GZ.out _) | with_reducible exact after_calls (GY.out _) | with_reducible exact after_calls (CZ.out _) | with_reducible exact after_calls (CX.out _) | with_reducible exact after_calls (CY.out _)))
                  refine wpQuiet_nil ?_
                  rintro _ ⟨⟨w9, hb9⟩, rfl⟩
                  go_wp2_with fail
                  go_ret
                  exact ⟨rfl, Below.two Tw4 hb9⟩
              | false =>
                have HZ2 : Hid (hasB (mergeF (ofF x0).1 (ofF x1).1).1 n = hasB (ofF x1).1 n) := by show hasB _ _ = _; rw [HZ.out, HB.out, hm]; simp
                clear HZ HB hm
                rw [HZ2.out] at GZ
                by_cases hmx : cnt (ofF x0).1 < cnt (ofF x1).1
                · refine wp_region_below (by kernel_rfl) (by kernel_rfl) ?_
                  repeat (go_big_quiet_step (first | with_reducible exact after_calls (GZ.out _) | with_reducible exact after_calls (GY.out _) | with_reducible exact after_calls (CZ.out _) | with_reducible exact after_calls (CX.out _) | with_reducible exact after_calls (CY.out _)))
                  refine wpQuiet_nil ?_
                  rintro _ ⟨⟨w9, hb9⟩, rfl⟩
                  go_wp2_with fail
                  go_ret
                  exact ⟨rfl, Below.two Tw4 hb9⟩
                · refine wp_region_below (by kernel_rfl) (by kernel_rfl) ?_
                  repeat (go_big_quiet_step (first | with_reducible exact after_calls (GZ.out _) | with_reducible exact after_calls (GY.out _) | with_reducible exact after_calls (CZ.out _) | with_reducible exact after_calls (CX.out _) | with_reducible exact after_calls (CY.out _)))
                  refine wpQuiet_nil ?_
                  rintro _ ⟨⟨w9, hb9⟩, rfl⟩
                  go_wp2_with fail
                  go_ret
                  exact ⟨rfl, Below.two Tw4 hb9⟩
          · have d1 : decide (x0.length < n0) = false := by simpa using hx1
            go_wp2_with fail
            refine (merge_tot _ c1 c2 A1 A2 (ofF x0).1 (ofF x1).1 (by exact S1.out.later (below_al (below_0 w2) _)) (by exact S2.out.later (below_al (below_0 w2) _)) (by have := right_len (ofF_right x0); omega) (by have := right_len (ofF_right x1); omega)).mono ?_
            rintro e w3 ⟨hb3, v3, rfl, hh3⟩
            obtain ⟨A3, c3, rfl, hc3, hA3, hS3, hF3⟩ := hh3
            clear kX1 zX1 kX2 zX2
            have Dw3 : Below w2.heap.size w2 w3 := Below.two (below_al (below_0 w2) _) hb3
            replace P0 := Lib.hid (P0.out.later Dw3)
            replace P1 := Lib.hid (P1.out.later Dw3)
            replace S1 := Lib.hid (S1.out.later Dw3)
            replace S2 := Lib.hid (S2.out.later Dw3)
            replace X1 := Lib.hid (boxed_below X1.out Dw3)
            replace X2 := Lib.hid (boxed_below X2.out hb3)
            have Tw3 := Below.two Tw2 Dw3
            have S3 := Lib.hid hS3
            clear hA3 hF3 hS3
            have X3 := Lib.hid (Boxed.new w3 24 (.slice A3 ((mergeF (ofF x0).1 (ofF x1).1).1).length c3))
            have kX1 := X1.out.cell
            have zX1 := X1.out.lt
            have kX2 := X2.out.cell
            have zX2 := X2.out.lt
            have kX3 := True.intro
            have zX3 := True.intro
            go_wp2_with fail
            refine (has_any _ c1 A1 (ofF x0).1 n (by exact S1.out.later (below_al (below_0 w3) _)) (by have := right_len (ofF_right x0); omega)).mono ?_
            rintro e w4 ⟨rfl, hb4⟩
            clear kX1 zX1 kX2 zX2 kX3 zX3
            have Dw4 : Below w3.heap.size w3 w4 := Below.two (below_al (below_0 w3) _) hb4
            replace P0 := Lib.hid (P0.out.later Dw4)
            replace P1 := Lib.hid (P1.out.later Dw4)
            replace S1 := Lib.hid (S1.out.later Dw4)
            replace S2 := Lib.hid (S2.out.later Dw4)
            replace S3 := Lib.hid (S3.out.later Dw4)
            replace X1 := Lib.hid (boxed_below X1.out Dw4)
            replace X2 := Lib.hid (boxed_below X2.out Dw4)
            replace X3 := Lib.hid (boxed_below X3.out hb4)
            have Tw4 := Below.two Tw3 Dw4
            have kX1 := X1.out.cell
            have zX1 := X1.out.lt
            have kX2 := X2.out.cell
            have zX2 := X2.out.lt
            have kX3 := X3.out.cell
            have zX3 := X3.out.lt
            rw [HB.out]
            go_wp2_with fail
            have F1 := After.cell kX1 zX1
            have F2 := After.cell kX2 zX2
            have F3 := After.cell kX3 zX3
            haveI := After.some w4
            clear kX1 kX2 kX3 zX1 zX2 zX3
            have GY : Hid (∀ x : After w4, Calls Try.prog 19 #[.agg #[.slice A2 ((ofF x1).1).length c2], .int .u64 n] x.at_ fun e w' => e = .returned (.bool (hasB (ofF x1).1 n)) ∧ Below x.at_.heap.size x.at_ w') := fun x => (has_any x.at_ c2 A2 ((ofF x1).1) n (S2.out.later x.is) (by have := right_len (ofF_right x1); omega))
            have GZ : Hid (∀ x : After w4, Calls Try.prog 19 #[.agg #[.slice A3 ((mergeF (ofF x0).1 (ofF x1).1).1).length c3], .int .u64 n] x.at_ fun e w' => e = .returned (.bool (hasB (mergeF (ofF x0).1 (ofF x1).1).1 n)) ∧ Below x.at_.heap.size x.at_ w') := fun x => (has_any x.at_ c3 A3 ((mergeF (ofF x0).1 (ofF x1).1).1) n (S3.out.later x.is) (by have := right_len (mergeF_right (ofF x0).1 (ofF x1).1); omega))
            have CX : Hid (∀ x : After w4, Calls Try.prog 20 #[.agg #[.slice A1 ((ofF x0).1).length c1]] x.at_ fun e w' => e = .returned (.int .u64 (cnt (ofF x0).1)) ∧ Below x.at_.heap.size x.at_ w') := fun x => (count_any x.at_ c1 A1 ((ofF x0).1) (S1.out.later x.is) (by have := right_len (ofF_right x0); omega))
            have CY : Hid (∀ x : After w4, Calls Try.prog 20 #[.agg #[.slice A2 ((ofF x1).1).length c2]] x.at_ fun e w' => e = .returned (.int .u64 (cnt (ofF x1).1)) ∧ Below x.at_.heap.size x.at_ w') := fun x => (count_any x.at_ c2 A2 ((ofF x1).1) (S2.out.later x.is) (by have := right_len (ofF_right x1); omega))
            have CZ : Hid (∀ x : After w4, Calls Try.prog 20 #[.agg #[.slice A3 ((mergeF (ofF x0).1 (ofF x1).1).1).length c3]] x.at_ fun e w' => e = .returned (.int .u64 (cnt (mergeF (ofF x0).1 (ofF x1).1).1)) ∧ Below x.at_.heap.size x.at_ w') := fun x => (count_any x.at_ c3 A3 ((mergeF (ofF x0).1 (ofF x1).1).1) (S3.out.later x.is) (by have := right_len (mergeF_right (ofF x0).1 (ofF x1).1); omega))
            by_cases e3 : (mergeF (ofF x0).1 (ofF x1).1).2 = 60
            · have t3 : ((mergeF (ofF x0).1 (ofF x1).1).2 == 60) = true := by simpa using e3
              clear e3 HB
              refine wp_region_below (by kernel_rfl) (by kernel_rfl) ?_
              repeat (go_big_quiet_step (fail))
              refine wpQuiet_nil ?_
              rintro _ ⟨⟨w9, hb9⟩, rfl⟩
              go_wp2_with fail
              go_ret
              exact ⟨rfl, Below.two Tw4 hb9⟩
            · have t3 : ((mergeF (ofF x0).1 (ofF x1).1).2 == 60) = false := by simpa using e3
              have hcn := mergeF_cnt (ofF_right x0) (ofF_right x1) e3
              have hbz := cnt_bd (mergeF_right (ofF x0).1 (ofF x1).1)
              have hbx := cnt_bd (ofF_right x0)
              have hby := cnt_bd (ofF_right x1)
              have HZ := Lib.hid (mergeF_has (ofF_right x0) (ofF_right x1) e3 n)
              obtain ⟨q1, q2, q3⟩ := hcn
              obtain ⟨q4, q5⟩ := hbz
              obtain ⟨q6, q7⟩ := hbx
              obtain ⟨q8, q9⟩ := hby
              clear e3
              cases hm : memTo x0 x0.length n with
              | true =>
                have HZ2 : Hid (hasB (mergeF (ofF x0).1 (ofF x1).1).1 n = true) := by show hasB _ _ = _; rw [HZ.out, HB.out, hm]; rfl
                clear HZ HB hm
                rw [HZ2.out] at GZ
                by_cases hmx : cnt (ofF x0).1 < cnt (ofF x1).1
                · refine wp_region_below (by kernel_rfl) (by kernel_rfl) ?_
                  repeat (go_big_quiet_step (first | with_reducible exact after_calls (GZ.out _) | with_reducible exact after_calls (GY.out _) | with_reducible exact after_calls (CZ.out _) | with_reducible exact after_calls (CX.out _) | with_reducible exact after_calls (CY.out _)))
                  refine wpQuiet_nil ?_
                  rintro _ ⟨⟨w9, hb9⟩, rfl⟩
                  go_wp2_with fail
                  go_ret
                  exact ⟨rfl, Below.two Tw4 hb9⟩
                · refine wp_region_below (by kernel_rfl) (by kernel_rfl) ?_
                  repeat (go_big_quiet_step (first | with_reducible exact after_calls (GZ.out _) | with_reducible exact after_calls (GY.out _) | with_reducible exact after_calls (CZ.out _) | with_reducible exact after_calls (CX.out _) | with_reducible exact after_calls (CY.out _)))
                  refine wpQuiet_nil ?_
                  rintro _ ⟨⟨w9, hb9⟩, rfl⟩
                  go_wp2_with fail
                  go_ret
                  exact ⟨rfl, Below.two Tw4 hb9⟩
              | false =>
                have HZ2 : Hid (hasB (mergeF (ofF x0).1 (ofF x1).1).1 n = hasB (ofF x1).1 n) := by show hasB _ _ = _; rw [HZ.out, HB.out, hm]; simp
                clear HZ HB hm
                rw [HZ2.out] at GZ
                by_cases hmx : cnt (ofF x0).1 < cnt (ofF x1).1
                · refine wp_region_below (by kernel_rfl) (by kernel_rfl) ?_
                  repeat (go_big_quiet_step (first | with_reducible exact after_calls (GZ.out _) | with_reducible exact after_calls (GY.out _) | with_reducible exact after_calls (CZ.out _) | with_reducible exact after_calls (CX.out _) | with_reducible exact after_calls (CY.out _)))
                  refine wpQuiet_nil ?_
                  rintro _ ⟨⟨w9, hb9⟩, rfl⟩
                  go_wp2_with fail
                  go_ret
                  exact ⟨rfl, Below.two Tw4 hb9⟩
                · refine wp_region_below (by kernel_rfl) (by kernel_rfl) ?_
                  repeat (go_big_quiet_step (first | with_reducible exact after_calls (GZ.out _) | with_reducible exact after_calls (GY.out _) | with_reducible exact after_calls (CZ.out _) | with_reducible exact after_calls (CX.out _) | with_reducible exact after_calls (CY.out _)))
                  refine wpQuiet_nil ?_
                  rintro _ ⟨⟨w9, hb9⟩, rfl⟩
                  go_wp2_with fail
                  go_ret
                  exact ⟨rfl, Below.two Tw4 hb9⟩
    · have t2 : ((ofF x1).2 != 0) = true := by simpa using e2
      clear e1 e2
      go_wp2_with fail
      go_ret
      exact ⟨rfl, below_al Tw2 _⟩
  · have t1 : ((ofF x0).2 != 0) = true := by simpa using e1
    clear e1
    go_wp2_with fail
    go_ret
    exact ⟨rfl, below_al Tw2 _⟩
end Go.Proofs.Ytdobgfadnenhaaa

/-
  The walk of the law aviarylaw06.ExactRules: call by call, each callee by its contract; and the plain law behind it.
-/
import Derived.Test.YtdobgfadnenhaaaExactShown
import Derived.Test.YtdobgfadnenhaaaExactLaws
namespace Go.Proofs.Ytdobgfadnenhaaa
open Go.RowKit
set_option linter.unusedVariables false
set_option maxHeartbeats 4000000 in
theorem rules_walk (w : World) (n0 n1 n2 cap0 cap1 cap2 : Nat) (a0 a1 a2 : Option Addr) (x0 x1 x2 : List Int)
    (hS0 : Sl w w.heap.size a0 x0) (hS1 : Sl w w.heap.size a1 x1) (hS2 : Sl w w.heap.size a2 x2)
    (hk0 : (if (40 : Int) < (n0 : Int) then (40 : Int) else (n0 : Int)) = (x0.length : Int)) (hk1 : (if (40 : Int) < (n1 : Int) then (40 : Int) else (n1 : Int)) = (x1.length : Int)) (hk2 : (if (40 : Int) < (n2 : Int) then (40 : Int) else (n2 : Int)) = (x2.length : Int))
    (hc0 : x0.length ≤ cap0) (hc1 : x1.length ≤ cap1) (hc2 : x2.length ≤ cap2) (h0 : x0.length ≤ 40) (h1 : x1.length ≤ 40) (h2 : x2.length ≤ 40) :
    Calls Try.prog 9 #[.slice a0 n0 cap0, .slice a1 n1 cap1, .slice a2 n2 cap2] w fun e w' => e = .returned (.bool true) ∧ Below w.heap.size w w' := by
  have P0 := Lib.hid hS0
  have P1 := Lib.hid hS1
  have P2 := Lib.hid hS2
  clear hS0 hS1 hS2
  go_enter Try.func9, Try.ntmps9
  go_wp2_with fail
  refine (shown_any _).mono ?_
  rintro e w0 ⟨rfl, hb0⟩
  have Dw0 : Below w.heap.size w w0 := Below.two (below_0 w) hb0
  replace P0 := Lib.hid (P0.out.later Dw0)
  replace P1 := Lib.hid (P1.out.later Dw0)
  replace P2 := Lib.hid (P2.out.later Dw0)
  have Tw0 := Dw0
  go_wp2_with fail
  refine (of_tot _ cap0 a0 x0 (by exact P0.out.later (below_0 w0)) (by omega)).mono ?_
  rintro e w1 ⟨hb1, v1, rfl, hh1⟩
  obtain ⟨A1, c1, rfl, hc1, hA1, hS1, hF1⟩ := hh1
  have Dw1 : Below w0.heap.size w0 w1 := Below.two (below_0 w0) hb1
  replace P0 := Lib.hid (P0.out.later Dw1)
  replace P1 := Lib.hid (P1.out.later Dw1)
  replace P2 := Lib.hid (P2.out.later Dw1)
  have Tw1 := Below.two Tw0 Dw1
  have S1 := Lib.hid hS1
  clear hA1 hF1 hS1
  have X1 := Lib.hid (Boxed.new w1 24 (.slice A1 ((ofF x0).1).length c1))
  have kX1 := True.intro
  have zX1 := True.intro
  go_wp2_with fail
  refine (of_tot _ cap1 a1 x1 (by exact P1.out.later (below_al (below_0 w1) _)) (by omega)).mono ?_
  rintro e w2 ⟨hb2, v2, rfl, hh2⟩
  obtain ⟨A2, c2, rfl, hc2, hA2, hS2, hF2⟩ := hh2
  clear kX1 zX1
  have Dw2 : Below w1.heap.size w1 w2 := Below.two (below_al (below_0 w1) _) hb2
  replace P0 := Lib.hid (P0.out.later Dw2)
  replace P1 := Lib.hid (P1.out.later Dw2)
  replace P2 := Lib.hid (P2.out.later Dw2)
  replace S1 := Lib.hid (S1.out.later Dw2)
  replace X1 := Lib.hid (boxed_below X1.out hb2)
  have Tw2 := Below.two Tw1 Dw2
  have S2 := Lib.hid hS2
  clear hA2 hF2 hS2
  have X2 := Lib.hid (Boxed.new w2 24 (.slice A2 ((ofF x1).1).length c2))
  have kX1 := X1.out.cell
  have zX1 := X1.out.lt
  have kX2 := True.intro
  have zX2 := True.intro
  go_wp2_with fail
  refine (of_tot _ cap2 a2 x2 (by exact P2.out.later (below_al (below_0 w2) _)) (by omega)).mono ?_
  rintro e w3 ⟨hb3, v3, rfl, hh3⟩
  obtain ⟨A3, c3, rfl, hc3, hA3, hS3, hF3⟩ := hh3
  clear kX1 zX1 kX2 zX2
  have Dw3 : Below w2.heap.size w2 w3 := Below.two (below_al (below_0 w2) _) hb3
  replace P0 := Lib.hid (P0.out.later Dw3)
  replace P1 := Lib.hid (P1.out.later Dw3)
  replace P2 := Lib.hid (P2.out.later Dw3)
  replace S1 := Lib.hid (S1.out.later Dw3)
  replace S2 := Lib.hid (S2.out.later Dw3)
  replace X1 := Lib.hid (boxed_below X1.out Dw3)
  replace X2 := Lib.hid (boxed_below X2.out hb3)
  have Tw3 := Below.two Tw2 Dw3
  have S3 := Lib.hid hS3
  clear hA3 hF3 hS3
  have X3 := Lib.hid (Boxed.new w3 24 (.slice A3 ((ofF x2).1).length c3))
  have kX1 := X1.out.cell
  have zX1 := X1.out.lt
  have kX2 := X2.out.cell
  have zX2 := X2.out.lt
  have kX3 := True.intro
  have zX3 := True.intro
  go_wp2_with fail
  refine (merge_tot _ c1 c2 A1 A2 ((ofF x0).1) ((ofF x1).1) (by exact S1.out.later (below_al (below_0 w3) _)) (by exact S2.out.later (below_al (below_0 w3) _)) (by have := right_len (l := (ofF x0).1) (ofF_right x0); omega) (by have := right_len (l := (ofF x1).1) (ofF_right x1); omega)).mono ?_
  rintro e w4 ⟨hb4, v4, rfl, hh4⟩
  obtain ⟨A4, c4, rfl, hc4, hA4, hS4, hF4⟩ := hh4
  clear kX1 zX1 kX2 zX2 kX3 zX3
  have Dw4 : Below w3.heap.size w3 w4 := Below.two (below_al (below_0 w3) _) hb4
  replace P0 := Lib.hid (P0.out.later Dw4)
  replace P1 := Lib.hid (P1.out.later Dw4)
  replace P2 := Lib.hid (P2.out.later Dw4)
  replace S1 := Lib.hid (S1.out.later Dw4)
  replace S2 := Lib.hid (S2.out.later Dw4)
  replace S3 := Lib.hid (S3.out.later Dw4)
  replace X1 := Lib.hid (boxed_below X1.out Dw4)
  replace X2 := Lib.hid (boxed_below X2.out Dw4)
  replace X3 := Lib.hid (boxed_below X3.out hb4)
  have Tw4 := Below.two Tw3 Dw4
  have S4 := Lib.hid hS4
  clear hA4 hF4 hS4
  have X4 := Lib.hid (Boxed.new w4 24 (.slice A4 ((mergeF ((ofF x0).1) ((ofF x1).1)).1).length c4))
  have kX1 := X1.out.cell
  have zX1 := X1.out.lt
  have kX2 := X2.out.cell
  have zX2 := X2.out.lt
  have kX3 := X3.out.cell
  have zX3 := X3.out.lt
  have kX4 := True.intro
  have zX4 := True.intro
  go_wp2_with fail
  refine (merge_tot _ c4 c3 A4 A3 ((mergeF ((ofF x0).1) ((ofF x1).1)).1) ((ofF x2).1) (by exact S4.out.later (below_al (below_0 w4) _)) (by exact S3.out.later (below_al (below_0 w4) _)) (by have := right_len (l := (mergeF ((ofF x0).1) ((ofF x1).1)).1) (mergeF_right _ _); omega) (by have := right_len (l := (ofF x2).1) (ofF_right x2); omega)).mono ?_
  rintro e w5 ⟨hb5, v5, rfl, hh5⟩
  obtain ⟨A5, c5, rfl, hc5, hA5, hS5, hF5⟩ := hh5
  clear kX1 zX1 kX2 zX2 kX3 zX3 kX4 zX4
  have Dw5 : Below w4.heap.size w4 w5 := Below.two (below_al (below_0 w4) _) hb5
  replace P0 := Lib.hid (P0.out.later Dw5)
  replace P1 := Lib.hid (P1.out.later Dw5)
  replace P2 := Lib.hid (P2.out.later Dw5)
  replace S1 := Lib.hid (S1.out.later Dw5)
  replace S2 := Lib.hid (S2.out.later Dw5)
  replace S3 := Lib.hid (S3.out.later Dw5)
  replace S4 := Lib.hid (S4.out.later Dw5)
  replace X1 := Lib.hid (boxed_below X1.out Dw5)
  replace X2 := Lib.hid (boxed_below X2.out Dw5)
  replace X3 := Lib.hid (boxed_below X3.out Dw5)
  replace X4 := Lib.hid (boxed_below X4.out hb5)
  have Tw5 := Below.two Tw4 Dw5
  have S5 := Lib.hid hS5
  clear hA5 hF5 hS5
  have X5 := Lib.hid (Boxed.new w5 24 (.slice A5 ((mergeF ((mergeF ((ofF x0).1) ((ofF x1).1)).1) ((ofF x2).1)).1).length c5))
  have kX1 := X1.out.cell
  have zX1 := X1.out.lt
  have kX2 := X2.out.cell
  have zX2 := X2.out.lt
  have kX3 := X3.out.cell
  have zX3 := X3.out.lt
  have kX4 := X4.out.cell
  have zX4 := X4.out.lt
  have kX5 := True.intro
  have zX5 := True.intro
  go_wp2_with fail
  refine (merge_tot _ c2 c3 A2 A3 ((ofF x1).1) ((ofF x2).1) (by exact S2.out.later (below_al (below_0 w5) _)) (by exact S3.out.later (below_al (below_0 w5) _)) (by have := right_len (l := (ofF x1).1) (ofF_right x1); omega) (by have := right_len (l := (ofF x2).1) (ofF_right x2); omega)).mono ?_
  rintro e w6 ⟨hb6, v6, rfl, hh6⟩
  obtain ⟨A6, c6, rfl, hc6, hA6, hS6, hF6⟩ := hh6
  clear kX1 zX1 kX2 zX2 kX3 zX3 kX4 zX4 kX5 zX5
  have Dw6 : Below w5.heap.size w5 w6 := Below.two (below_al (below_0 w5) _) hb6
  replace P0 := Lib.hid (P0.out.later Dw6)
  replace P1 := Lib.hid (P1.out.later Dw6)
  replace P2 := Lib.hid (P2.out.later Dw6)
  replace S1 := Lib.hid (S1.out.later Dw6)
  replace S2 := Lib.hid (S2.out.later Dw6)
  replace S3 := Lib.hid (S3.out.later Dw6)
  replace S4 := Lib.hid (S4.out.later Dw6)
  replace S5 := Lib.hid (S5.out.later Dw6)
  replace X1 := Lib.hid (boxed_below X1.out Dw6)
  replace X2 := Lib.hid (boxed_below X2.out Dw6)
  replace X3 := Lib.hid (boxed_below X3.out Dw6)
  replace X4 := Lib.hid (boxed_below X4.out Dw6)
  replace X5 := Lib.hid (boxed_below X5.out hb6)
  have Tw6 := Below.two Tw5 Dw6
  have S6 := Lib.hid hS6
  clear hA6 hF6 hS6
  have X6 := Lib.hid (Boxed.new w6 24 (.slice A6 ((mergeF ((ofF x1).1) ((ofF x2).1)).1).length c6))
  have kX1 := X1.out.cell
  have zX1 := X1.out.lt
  have kX2 := X2.out.cell
  have zX2 := X2.out.lt
  have kX3 := X3.out.cell
  have zX3 := X3.out.lt
  have kX4 := X4.out.cell
  have zX4 := X4.out.lt
  have kX5 := X5.out.cell
  have zX5 := X5.out.lt
  have kX6 := True.intro
  have zX6 := True.intro
  go_wp2_with fail
  refine (merge_tot _ c1 c6 A1 A6 ((ofF x0).1) ((mergeF ((ofF x1).1) ((ofF x2).1)).1) (by exact S1.out.later (below_al (below_0 w6) _)) (by exact S6.out.later (below_al (below_0 w6) _)) (by have := right_len (l := (ofF x0).1) (ofF_right x0); omega) (by have := right_len (l := (mergeF ((ofF x1).1) ((ofF x2).1)).1) (mergeF_right _ _); omega)).mono ?_
  rintro e w7 ⟨hb7, v7, rfl, hh7⟩
  obtain ⟨A7, c7, rfl, hc7, hA7, hS7, hF7⟩ := hh7
  clear kX1 zX1 kX2 zX2 kX3 zX3 kX4 zX4 kX5 zX5 kX6 zX6
  have Dw7 : Below w6.heap.size w6 w7 := Below.two (below_al (below_0 w6) _) hb7
  replace P0 := Lib.hid (P0.out.later Dw7)
  replace P1 := Lib.hid (P1.out.later Dw7)
  replace P2 := Lib.hid (P2.out.later Dw7)
  replace S1 := Lib.hid (S1.out.later Dw7)
  replace S2 := Lib.hid (S2.out.later Dw7)
  replace S3 := Lib.hid (S3.out.later Dw7)
  replace S4 := Lib.hid (S4.out.later Dw7)
  replace S5 := Lib.hid (S5.out.later Dw7)
  replace S6 := Lib.hid (S6.out.later Dw7)
  replace X1 := Lib.hid (boxed_below X1.out Dw7)
  replace X2 := Lib.hid (boxed_below X2.out Dw7)
  replace X3 := Lib.hid (boxed_below X3.out Dw7)
  replace X4 := Lib.hid (boxed_below X4.out Dw7)
  replace X5 := Lib.hid (boxed_below X5.out Dw7)
  replace X6 := Lib.hid (boxed_below X6.out hb7)
  have Tw7 := Below.two Tw6 Dw7
  have S7 := Lib.hid hS7
  clear hA7 hF7 hS7
  have X7 := Lib.hid (Boxed.new w7 24 (.slice A7 ((mergeF ((ofF x0).1) ((mergeF ((ofF x1).1) ((ofF x2).1)).1)).1).length c7))
  have kX1 := X1.out.cell
  have zX1 := X1.out.lt
  have kX2 := X2.out.cell
  have zX2 := X2.out.lt
  have kX3 := X3.out.cell
  have zX3 := X3.out.lt
  have kX4 := X4.out.cell
  have zX4 := X4.out.lt
  have kX5 := X5.out.cell
  have zX5 := X5.out.lt
  have kX6 := X6.out.cell
  have zX6 := X6.out.lt
  have kX7 := True.intro
  have zX7 := True.intro
  go_wp2_with fail
  refine (merge_tot _ c1 c1 A1 A1 ((ofF x0).1) ((ofF x0).1) (by exact S1.out.later (below_al (below_0 w7) _)) (by exact S1.out.later (below_al (below_0 w7) _)) (by have := right_len (l := (ofF x0).1) (ofF_right x0); omega) (by have := right_len (l := (ofF x0).1) (ofF_right x0); omega)).mono ?_
  rintro e w8 ⟨hb8, v8, rfl, hh8⟩
  obtain ⟨A8, c8, rfl, hc8, hA8, hS8, hF8⟩ := hh8
  clear kX1 zX1 kX2 zX2 kX3 zX3 kX4 zX4 kX5 zX5 kX6 zX6 kX7 zX7
  have Dw8 : Below w7.heap.size w7 w8 := Below.two (below_al (below_0 w7) _) hb8
  replace P0 := Lib.hid (P0.out.later Dw8)
  replace P1 := Lib.hid (P1.out.later Dw8)
  replace P2 := Lib.hid (P2.out.later Dw8)
  replace S1 := Lib.hid (S1.out.later Dw8)
  replace S2 := Lib.hid (S2.out.later Dw8)
  replace S3 := Lib.hid (S3.out.later Dw8)
  replace S4 := Lib.hid (S4.out.later Dw8)
  replace S5 := Lib.hid (S5.out.later Dw8)
  replace S6 := Lib.hid (S6.out.later Dw8)
  replace S7 := Lib.hid (S7.out.later Dw8)
  replace X1 := Lib.hid (boxed_below X1.out Dw8)
  replace X2 := Lib.hid (boxed_below X2.out Dw8)
  replace X3 := Lib.hid (boxed_below X3.out Dw8)
  replace X4 := Lib.hid (boxed_below X4.out Dw8)
  replace X5 := Lib.hid (boxed_below X5.out Dw8)
  replace X6 := Lib.hid (boxed_below X6.out Dw8)
  replace X7 := Lib.hid (boxed_below X7.out hb8)
  have Tw8 := Below.two Tw7 Dw8
  have S8 := Lib.hid hS8
  clear hA8 hF8 hS8
  have X8 := Lib.hid (Boxed.new w8 24 (.slice A8 ((mergeF ((ofF x0).1) ((ofF x0).1)).1).length c8))
  have kX1 := X1.out.cell
  have zX1 := X1.out.lt
  have kX2 := X2.out.cell
  have zX2 := X2.out.lt
  have kX3 := X3.out.cell
  have zX3 := X3.out.lt
  have kX4 := X4.out.cell
  have zX4 := X4.out.lt
  have kX5 := X5.out.cell
  have zX5 := X5.out.lt
  have kX6 := X6.out.cell
  have zX6 := X6.out.lt
  have kX7 := X7.out.cell
  have zX7 := X7.out.lt
  have kX8 := True.intro
  have zX8 := True.intro
  have tx : ((ofF x0).2 != 0) = false := by rw [ofF_short (by omega)]; rfl
  have ty : ((ofF x1).2 != 0) = false := by rw [ofF_short (by omega)]; rfl
  have tz : ((ofF x2).2 != 0) = false := by rw [ofF_short (by omega)]; rfl
  have tp : ((mergeF (ofF x0).1 (ofF x0).1).2 != 0) = false := by rw [mergeF_self (ofF_right x0)]; rfl
  have TO : Hid (eqB (mergeF (ofF x0).1 (ofF x0).1).1 (ofF x0).1 = true) := by show eqB _ _ = true; rw [mergeF_self (ofF_right x0)]; simp [eqB]
  go_wp2_with fail
  refine (same_any _ c8 c1 A8 A1 ((mergeF ((ofF x0).1) ((ofF x0).1)).1) ((ofF x0).1) (by exact S8.out.later (below_al (below_0 w8) _)) (by exact S1.out.later (below_al (below_0 w8) _)) (by have := right_len (l := (mergeF ((ofF x0).1) ((ofF x0).1)).1) (mergeF_right _ _); omega) (by have := right_len (l := (ofF x0).1) (ofF_right x0); omega)).mono ?_
  rintro e w9 ⟨rfl, hb9⟩
  clear kX1 zX1 kX2 zX2 kX3 zX3 kX4 zX4 kX5 zX5 kX6 zX6 kX7 zX7 kX8 zX8
  have Dw9 : Below w8.heap.size w8 w9 := Below.two (below_al (below_0 w8) _) hb9
  replace P0 := Lib.hid (P0.out.later Dw9)
  replace P1 := Lib.hid (P1.out.later Dw9)
  replace P2 := Lib.hid (P2.out.later Dw9)
  replace S1 := Lib.hid (S1.out.later Dw9)
  replace S2 := Lib.hid (S2.out.later Dw9)
  replace S3 := Lib.hid (S3.out.later Dw9)
  replace S4 := Lib.hid (S4.out.later Dw9)
  replace S5 := Lib.hid (S5.out.later Dw9)
  replace S6 := Lib.hid (S6.out.later Dw9)
  replace S7 := Lib.hid (S7.out.later Dw9)
  replace S8 := Lib.hid (S8.out.later Dw9)
  replace X1 := Lib.hid (boxed_below X1.out Dw9)
  replace X2 := Lib.hid (boxed_below X2.out Dw9)
  replace X3 := Lib.hid (boxed_below X3.out Dw9)
  replace X4 := Lib.hid (boxed_below X4.out Dw9)
  replace X5 := Lib.hid (boxed_below X5.out Dw9)
  replace X6 := Lib.hid (boxed_below X6.out Dw9)
  replace X7 := Lib.hid (boxed_below X7.out Dw9)
  replace X8 := Lib.hid (boxed_below X8.out hb9)
  have Tw9 := Below.two Tw8 Dw9
  have kX1 := X1.out.cell
  have zX1 := X1.out.lt
  have kX2 := X2.out.cell
  have zX2 := X2.out.lt
  have kX3 := X3.out.cell
  have zX3 := X3.out.lt
  have kX4 := X4.out.cell
  have zX4 := X4.out.lt
  have kX5 := X5.out.cell
  have zX5 := X5.out.lt
  have kX6 := X6.out.cell
  have zX6 := X6.out.lt
  have kX7 := X7.out.cell
  have zX7 := X7.out.lt
  have kX8 := X8.out.cell
  have zX8 := X8.out.lt
  rw [TO.out]
  clear tx ty tz tp
  by_cases e4 : (mergeF (ofF x0).1 (ofF x1).1).2 = 0
  · have t4 : ((mergeF (ofF x0).1 (ofF x1).1).2 != 0) = false := by simpa using e4
    by_cases e5 : (mergeF (mergeF (ofF x0).1 (ofF x1).1).1 (ofF x2).1).2 = 0
    · have t5 : ((mergeF (mergeF (ofF x0).1 (ofF x1).1).1 (ofF x2).1).2 != 0) = false := by simpa using e5
      by_cases e6 : (mergeF (ofF x1).1 (ofF x2).1).2 = 0
      · have t6 : ((mergeF (ofF x1).1 (ofF x2).1).2 != 0) = false := by simpa using e6
        have hass := mergeF_assoc (ofF_right x0) (ofF_right x1) (ofF_right x2) e4 e5 e6
        have t7 : ((mergeF (ofF x0).1 (mergeF (ofF x1).1 (ofF x2).1).1).2 == 0) = true := by simpa using hass.1
        have TS : Hid (eqB (mergeF (mergeF (ofF x0).1 (ofF x1).1).1 (ofF x2).1).1 (mergeF (ofF x0).1 (mergeF (ofF x1).1 (ofF x2).1).1).1 = true) := by show eqB _ _ = true; rw [hass.2]; simp [eqB]
        clear hass e4 e5 e6
        go_wp2_with fail
        refine (same_any _ c5 c7 A5 A7 ((mergeF ((mergeF ((ofF x0).1) ((ofF x1).1)).1) ((ofF x2).1)).1) ((mergeF ((ofF x0).1) ((mergeF ((ofF x1).1) ((ofF x2).1)).1)).1) (by exact S5.out.later (below_0 w9)) (by exact S7.out.later (below_0 w9)) (by have := right_len (l := (mergeF ((mergeF ((ofF x0).1) ((ofF x1).1)).1) ((ofF x2).1)).1) (mergeF_right _ _); omega) (by have := right_len (l := (mergeF ((ofF x0).1) ((mergeF ((ofF x1).1) ((ofF x2).1)).1)).1) (mergeF_right _ _); omega)).mono ?_
        rintro e w10 ⟨rfl, hb10⟩
        clear kX1 zX1 kX2 zX2 kX3 zX3 kX4 zX4 kX5 zX5 kX6 zX6 kX7 zX7 kX8 zX8
        have Dw10 : Below w9.heap.size w9 w10 := Below.two (below_0 w9) hb10
        replace P0 := Lib.hid (P0.out.later Dw10)
        replace P1 := Lib.hid (P1.out.later Dw10)
        replace P2 := Lib.hid (P2.out.later Dw10)
        replace S1 := Lib.hid (S1.out.later Dw10)
        replace S2 := Lib.hid (S2.out.later Dw10)
        replace S3 := Lib.hid (S3.out.later Dw10)
        replace S4 := Lib.hid (S4.out.later Dw10)
        replace S5 := Lib.hid (S5.out.later Dw10)
        replace S6 := Lib.hid (S6.out.later Dw10)
        replace S7 := Lib.hid (S7.out.later Dw10)
        replace S8 := Lib.hid (S8.out.later Dw10)
        replace X1 := Lib.hid (boxed_below X1.out Dw10)
        replace X2 := Lib.hid (boxed_below X2.out Dw10)
        replace X3 := Lib.hid (boxed_below X3.out Dw10)
        replace X4 := Lib.hid (boxed_below X4.out Dw10)
        replace X5 := Lib.hid (boxed_below X5.out Dw10)
        replace X6 := Lib.hid (boxed_below X6.out Dw10)
        replace X7 := Lib.hid (boxed_below X7.out Dw10)
        replace X8 := Lib.hid (boxed_below X8.out Dw10)
        have Tw10 := Below.two Tw9 Dw10
        have kX1 := X1.out.cell
        have zX1 := X1.out.lt
        have kX2 := X2.out.cell
        have zX2 := X2.out.lt
        have kX3 := X3.out.cell
        have zX3 := X3.out.lt
        have kX4 := X4.out.cell
        have zX4 := X4.out.lt
        have kX5 := X5.out.cell
        have zX5 := X5.out.lt
        have kX6 := X6.out.cell
        have zX6 := X6.out.lt
        have kX7 := X7.out.cell
        have zX7 := X7.out.lt
        have kX8 := X8.out.cell
        have zX8 := X8.out.lt
        rw [TS.out]
        go_wp2_with fail
        go_ret
        exact ⟨rfl, Tw10⟩
      · have t6 : ((mergeF (ofF x1).1 (ofF x2).1).2 != 0) = true := by simpa using e6
        clear e4 e5 e6
        go_wp2_with fail
        go_ret
        exact ⟨rfl, Tw9⟩
    · have t5 : ((mergeF (mergeF (ofF x0).1 (ofF x1).1).1 (ofF x2).1).2 != 0) = true := by simpa using e5
      clear e4 e5
      go_wp2_with fail
      go_ret
      exact ⟨rfl, Tw9⟩
  · have t4 : ((mergeF (ofF x0).1 (ofF x1).1).2 != 0) = true := by simpa using e4
    clear e4
    go_wp2_with fail
    go_ret
    exact ⟨rfl, Tw9⟩
end Go.Proofs.Ytdobgfadnenhaaa

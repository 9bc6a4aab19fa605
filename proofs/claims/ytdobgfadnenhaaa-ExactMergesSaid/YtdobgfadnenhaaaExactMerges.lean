/-
  The walk of the law aviarylaw06.ExactMerges: call by call, each callee by its contract; and the plain law behind it.
-/
import Derived.Test.YtdobgfadnenhaaaExactShown
import Derived.Test.YtdobgfadnenhaaaExactLaws
import Derived.Test.YtdobgfadnenhaaaExactMakes
import Derived.Test.YtdobgfadnenhaaaExactRef6
namespace Go.Proofs.Ytdobgfadnenhaaa
open Go.RowKit
set_option linter.unusedVariables false

set_option maxHeartbeats 4000000 in
theorem merges_walk (w : World) (nx capx ny capy : Nat) (ax ay : Option Addr) (x0 y0 : List Int) (n : Int) (hslx : Sl w w.heap.size ax x0) (hsly : Sl w w.heap.size ay y0)
    (hkx : (if (70 : Int) < (nx : Int) then (70 : Int) else (nx : Int)) = (x0.length : Int)) (hky : (if (70 : Int) < (ny : Int) then (70 : Int) else (ny : Int)) = (y0.length : Int))
    (hqx : x0.length ≤ capx) (hmx : capx ≤ 9223372036854775807) (hqy : y0.length ≤ capy) (hmy : capy ≤ 9223372036854775807) (hx70 : x0.length ≤ 70) (hy70 : y0.length ≤ 70) :
    Calls Try.prog 3 #[.agg #[.slice ax nx capx], .agg #[.slice ay ny capy], .int .u64 n] w fun e w' => e = .returned (.bool true) ∧ Below w.heap.size w w' := by
  have DA : Below w.heap.size w ((w.alloc (.cells #[.slice ax nx capx] 24)).alloc (.cells #[.slice ay ny capy] 24)) := below_al (below_al (below_0 _) _) _
  have PX := Lib.hid (hslx.later DA)
  have PY := Lib.hid (hsly.later DA)
  have HKX := Lib.hid hkx
  have HKY := Lib.hid hky
  have BX := Lib.hid (boxed_below (Boxed.new w 24 (.slice ax nx capx)) (below_al (below_0 _) (.cells #[.slice ay ny capy] 24)))
  have BY := Lib.hid (Boxed.new (w.alloc (.cells #[.slice ax nx capx] 24)) 24 (.slice ay ny capy))
  simp only [World.size_alloc] at BX BY
  clear hslx hsly hkx hky
  go_enter Try.func3, Try.ntmps3
  go_wp2_with fail
  refine (shown_any _).mono ?_
  rintro e w0 ⟨rfl, hb0⟩
  replace PX := Lib.hid (PX.out.later hb0)
  replace PY := Lib.hid (PY.out.later hb0)
  replace BX := Lib.hid (boxed_below BX.out hb0)
  replace BY := Lib.hid (boxed_below BY.out hb0)
  have T0 := Below.two DA hb0
  have k0 := BX.out.cell
  go_wp2_with fail
  refine (few2_any _ nx capx ax x0 HKX.out hqx hmx).mono ?_
  rintro e w1 ⟨rfl, hb1⟩
  replace PX := Lib.hid (PX.out.later hb1)
  replace PY := Lib.hid (PY.out.later hb1)
  replace BX := Lib.hid (boxed_below BX.out hb1)
  replace BY := Lib.hid (boxed_below BY.out hb1)
  have T1 := Below.two T0 hb1
  have k1 := BX.out.cell
  have f1 := BX.out.frozen
  have QX : Hid (Sl (w1.setCell ⟨w.heap.size, 0, none⟩ (.slice ax x0.length capx)) (w1.setCell ⟨w.heap.size, 0, none⟩ (.slice ax x0.length capx)).heap.size ax x0) := sl_set PX.out BX.out (fun n e => by cases e) _
  have QY : Hid (Sl (w1.setCell ⟨w.heap.size, 0, none⟩ (.slice ax x0.length capx)) (w1.setCell ⟨w.heap.size, 0, none⟩ (.slice ax x0.length capx)).heap.size ay y0) := sl_set PY.out BX.out (fun n e => by cases e) _
  have CX : Hid (Boxed (w1.setCell ⟨w.heap.size, 0, none⟩ (.slice ax x0.length capx)) w.heap.size 24 (.slice ax x0.length capx)) := BX.out.set _
  have CY : Hid (Boxed (w1.setCell ⟨w.heap.size, 0, none⟩ (.slice ax x0.length capx)) (w.heap.size + 1) 24 (.slice ay ny capy)) := boxed_far BY.out (by omega) _
  have T2 : Below w.heap.size w (w1.setCell ⟨w.heap.size, 0, none⟩ (.slice ax x0.length capx)) := T1.setCell (Nat.le_refl _) _
  have m0 := CY.out.cell
  clear PX PY BX BY k0
  go_wp2_with fail
  clear k1 f1 m0
  generalize w1.setCell ⟨w.heap.size, 0, none⟩ (.slice ax x0.length capx) = V1 at *
  refine (few2_any _ ny capy ay y0 HKY.out hqy hmy).mono ?_
  rintro e w2 ⟨rfl, hb2⟩
  replace QX := Lib.hid (QX.out.later hb2)
  replace QY := Lib.hid (QY.out.later hb2)
  replace CX := Lib.hid (boxed_below CX.out hb2)
  replace CY := Lib.hid (boxed_below CY.out hb2)
  replace T2 := Below.two T2 hb2
  have k2 := CY.out.cell
  have f2 := CY.out.frozen
  have HPX : Hid (Sl (w2.setCell ⟨w.heap.size + 1, 0, none⟩ (.slice ay y0.length capy)) (w2.setCell ⟨w.heap.size + 1, 0, none⟩ (.slice ay y0.length capy)).heap.size ax x0) := sl_set QX.out CY.out (fun n e => by cases e) _
  have HPY : Hid (Sl (w2.setCell ⟨w.heap.size + 1, 0, none⟩ (.slice ay y0.length capy)) (w2.setCell ⟨w.heap.size + 1, 0, none⟩ (.slice ay y0.length capy)).heap.size ay y0) := sl_set QY.out CY.out (fun n e => by cases e) _
  have HX : Hid (Boxed (w2.setCell ⟨w.heap.size + 1, 0, none⟩ (.slice ay y0.length capy)) w.heap.size 24 (.slice ax x0.length capx)) := boxed_far CX.out (by omega) _
  have HY : Hid (Boxed (w2.setCell ⟨w.heap.size + 1, 0, none⟩ (.slice ay y0.length capy)) (w.heap.size + 1) 24 (.slice ay y0.length capy)) := CY.out.set _
  have T3 : Below w.heap.size w (w2.setCell ⟨w.heap.size + 1, 0, none⟩ (.slice ay y0.length capy)) := T2.setCell (Nat.le_succ _) _
  have m1 := HX.out.cell
  clear QX QY CX CY
  go_wp2_with fail
  clear k2 f2 m1
  generalize w2.setCell ⟨w.heap.size + 1, 0, none⟩ (.slice ay y0.length capy) = V at *
  have kHX := HX.out.cell
  have zHX := HX.out.lt
  have kHY := HY.out.cell
  have zHY := HY.out.lt
  try (go_wp2_with fail)
  refine (add_tot _ capx ax x0 n (by exact HPX.out.later (below_0 V)) (by omega)).mono ?_
  rintro e w3 ⟨hb3, v3, rfl, hh3⟩
  obtain ⟨A3, c3, rfl, hc3, hA3, hS3, hF3⟩ := hh3
  clear kHX zHX kHY zHY
  have Dw3 : Below V.heap.size V w3 := Below.two (below_0 V) hb3
  replace HPX := Lib.hid (HPX.out.later Dw3)
  replace HPY := Lib.hid (HPY.out.later Dw3)
  replace HX := Lib.hid (boxed_below HX.out Dw3)
  replace HY := Lib.hid (boxed_below HY.out Dw3)
  have Tw3 := Below.two T3 Dw3
  have S3 := Lib.hid hS3
  clear hS3 hA3 hF3
  have X3 := Lib.hid (Boxed.new w3 24 (.slice A3 ((addF x0 n).1).length c3))
  have kHX := HX.out.cell
  have zHX := HX.out.lt
  have kHY := HY.out.cell
  have zHY := HY.out.lt
  have kX3 := True.intro
  have zX3 := True.intro
  go_wp2_with fail
  refine (radd_any _ capx ax x0 n (by exact HPX.out.later (below_al (below_0 w3) _)) hqx (by omega)).mono ?_
  rintro e w4 ⟨hb4, A4, c4, rfl, hS4⟩
  clear kHX zHX kHY zHY kX3 zX3
  have Dw4 : Below w3.heap.size w3 w4 := Below.two (below_al (below_0 w3) _) hb4
  replace HPX := Lib.hid (HPX.out.later Dw4)
  replace HPY := Lib.hid (HPY.out.later Dw4)
  replace S3 := Lib.hid (S3.out.later Dw4)
  replace HX := Lib.hid (boxed_below HX.out Dw4)
  replace HY := Lib.hid (boxed_below HY.out Dw4)
  replace X3 := Lib.hid (boxed_below X3.out hb4)
  have Tw4 := Below.two Tw3 Dw4
  have S4 := Lib.hid hS4
  clear hS4
  have X4 := Lib.hid (Boxed.new w4 24 (.slice A4 ((addF x0 n).1).length c4))
  have kHX := HX.out.cell
  have zHX := HX.out.lt
  have kHY := HY.out.cell
  have zHY := HY.out.lt
  have kX3 := X3.out.cell
  have zX3 := X3.out.lt
  have kX4 := True.intro
  have zX4 := True.intro
  go_wp2_with fail
  refine (merge_tot _ capx capy ax ay x0 y0 (by exact HPX.out.later (below_al (below_0 w4) _)) (by exact HPY.out.later (below_al (below_0 w4) _)) (by omega) (by omega)).mono ?_
  rintro e w5 ⟨hb5, v5, rfl, hh5⟩
  obtain ⟨A5, c5, rfl, hc5, hA5, hS5, hF5⟩ := hh5
  clear kHX zHX kHY zHY kX3 zX3 kX4 zX4
  have Dw5 : Below w4.heap.size w4 w5 := Below.two (below_al (below_0 w4) _) hb5
  replace HPX := Lib.hid (HPX.out.later Dw5)
  replace HPY := Lib.hid (HPY.out.later Dw5)
  replace S3 := Lib.hid (S3.out.later Dw5)
  replace S4 := Lib.hid (S4.out.later Dw5)
  replace HX := Lib.hid (boxed_below HX.out Dw5)
  replace HY := Lib.hid (boxed_below HY.out Dw5)
  replace X3 := Lib.hid (boxed_below X3.out Dw5)
  replace X4 := Lib.hid (boxed_below X4.out hb5)
  have Tw5 := Below.two Tw4 Dw5
  have S5 := Lib.hid hS5
  clear hS5 hA5 hF5
  have X5 := Lib.hid (Boxed.new w5 24 (.slice A5 ((mergeF x0 y0).1).length c5))
  have kHX := HX.out.cell
  have zHX := HX.out.lt
  have kHY := HY.out.cell
  have zHY := HY.out.lt
  have kX3 := X3.out.cell
  have zX3 := X3.out.lt
  have kX4 := X4.out.cell
  have zX4 := X4.out.lt
  have kX5 := True.intro
  have zX5 := True.intro
  go_wp2_with fail
  refine (rmerge_any _ capx capy ax ay x0 y0 (by exact HPX.out.later (below_al (below_0 w5) _)) (by exact HPY.out.later (below_al (below_0 w5) _)) (by omega) (by omega)).mono ?_
  rintro e w6 ⟨hb6, A6, c6, rfl, hS6⟩
  clear kHX zHX kHY zHY kX3 zX3 kX4 zX4 kX5 zX5
  have Dw6 : Below w5.heap.size w5 w6 := Below.two (below_al (below_0 w5) _) hb6
  replace HPX := Lib.hid (HPX.out.later Dw6)
  replace HPY := Lib.hid (HPY.out.later Dw6)
  replace S3 := Lib.hid (S3.out.later Dw6)
  replace S4 := Lib.hid (S4.out.later Dw6)
  replace S5 := Lib.hid (S5.out.later Dw6)
  replace HX := Lib.hid (boxed_below HX.out Dw6)
  replace HY := Lib.hid (boxed_below HY.out Dw6)
  replace X3 := Lib.hid (boxed_below X3.out Dw6)
  replace X4 := Lib.hid (boxed_below X4.out Dw6)
  replace X5 := Lib.hid (boxed_below X5.out hb6)
  have Tw6 := Below.two Tw5 Dw6
  have S6 := Lib.hid hS6
  clear hS6
  have X6 := Lib.hid (Boxed.new w6 24 (.slice A6 ((mergeF x0 y0).1).length c6))
  have kHX := HX.out.cell
  have zHX := HX.out.lt
  have kHY := HY.out.cell
  have zHY := HY.out.lt
  have kX3 := X3.out.cell
  have zX3 := X3.out.lt
  have kX4 := X4.out.cell
  have zX4 := X4.out.lt
  have kX5 := X5.out.cell
  have zX5 := X5.out.lt
  have kX6 := True.intro
  have zX6 := True.intro
  go_wp2_with fail
  obtain ⟨V2, hV2⟩ : ∃ V2, w6.alloc (.cells #[(.slice A6 (mergeF x0 y0).1.length c6)] 24) = V2 := ⟨_, rfl⟩
  have DV : Below w6.heap.size w6 V2 := by rw [← hV2]; exact below_al (below_0 _) _
  replace X6 : Hid (Boxed V2 w6.heap.size 24 (.slice A6 (mergeF x0 y0).1.length c6)) := by rw [← hV2]; exact X6.out
  replace X3 := Lib.hid (boxed_below X3.out DV)
  replace X4 := Lib.hid (boxed_below X4.out DV)
  replace X5 := Lib.hid (boxed_below X5.out DV)
  replace S3 := Lib.hid (S3.out.later DV)
  replace S4 := Lib.hid (S4.out.later DV)
  replace S5 := Lib.hid (S5.out.later DV)
  replace S6 := Lib.hid (S6.out.later DV)
  have TV := Below.two Tw6 DV
  rw [hV2]
  clear hV2 kHX zHX kHY zHY kX3 zX3 kX4 zX4 kX5 zX5 kX6 zX6
  have F0 := After.cell X3.out.cell X3.out.lt
  have F1 := After.cell X4.out.cell X4.out.lt
  have F2 := After.cell X5.out.cell X5.out.lt
  have F3 := After.cell X6.out.cell X6.out.lt
  haveI := After.some V2
  have C1 : Hid (∀ x : After V2, Calls Try.prog 16 #[.slice A3 (addF x0 n).1.length c3, .slice A4 (addF x0 n).1.length c4] x.at_ fun e w' => e = .returned (.bool (eqB (addF x0 n).1 (addF x0 n).1)) ∧ Below x.at_.heap.size x.at_ w') := fun x => numbers_b x.at_ c3 c4 A3 A4 _ _ (S3.out.later x.is) (S4.out.later x.is) (by have := right_len (addF_right x0 n); omega) (by have := right_len (addF_right x0 n); omega)
  have C2 : Hid (∀ x : After V2, Calls Try.prog 16 #[.slice A5 (mergeF x0 y0).1.length c5, .slice A6 (mergeF x0 y0).1.length c6] x.at_ fun e w' => e = .returned (.bool (eqB (mergeF x0 y0).1 (mergeF x0 y0).1)) ∧ Below x.at_.heap.size x.at_ w') := fun x => numbers_b x.at_ c5 c6 A5 A6 _ _ (S5.out.later x.is) (S6.out.later x.is) (by have := right_len (mergeF_right x0 y0); omega) (by have := right_len (mergeF_right x0 y0); omega)
  have hEq : ∀ l : List Int, eqB l l = true := fun l => by simp [eqB]
  rw [hEq] at C1 C2
  clear hEq
  refine (C1.out ⟨V2, below_0 _⟩).mono ?_
  rintro e w7 ⟨rfl, hb7⟩
  have g3 := (boxed_below X3.out hb7).cell
  have l3 := (boxed_below X3.out hb7).lt
  have g4 := (boxed_below X4.out hb7).cell
  have l4 := (boxed_below X4.out hb7).lt
  have g5 := (boxed_below X5.out hb7).cell
  have l5 := (boxed_below X5.out hb7).lt
  have g6 := (boxed_below X6.out hb7).cell
  have l6 := (boxed_below X6.out hb7).lt
  go_wp2_with fail
  refine (C2.out ⟨w7, hb7⟩).mono ?_
  rintro e w8 ⟨rfl, hb8⟩
  go_wp2_with fail
  go_ret
  exact ⟨rfl, Below.two TV (Below.two hb7 hb8)⟩
end Go.Proofs.Ytdobgfadnenhaaa

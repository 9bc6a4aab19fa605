/-
  The walk of the law aviarylaw06.ExactMakes: call by call, each callee by its contract; and the plain law behind it.
-/
import Derived.Test.YtdobgfadnenhaaaExactShown
import Derived.Test.YtdobgfadnenhaaaExactLaws
import Derived.Test.YtdobgfadnenhaaaExactFew
import Derived.Test.YtdobgfadnenhaaaGrow
import Derived.Test.YtdobgfadnenhaaaExactRef4
namespace Go.Proofs.Ytdobgfadnenhaaa
open Go.RowKit
set_option linter.unusedVariables false

theorem few2_any (w : World) (n cap : Nat) (a : Option Addr) (x : List Int) (hk : (if (70 : Int) < (n : Int) then (70 : Int) else (n : Int)) = (x.length : Int)) (hc : x.length ≤ cap) (hn : cap ≤ 9223372036854775807) :
    Calls Try.prog 11 #[.agg #[.slice a n cap]] w fun e w' => e = .returned (.agg #[.slice a x.length cap]) ∧ Below w.heap.size w w' := by
  go_enter Try.func11, Try.ntmps11
  go_wp2
  exact bodyPost_ret (v := .agg #[.slice a x.length cap]) (by simp [results, Try.results11, go_sem]) rfl ⟨rfl, by repeat (first | exact below_0 _ | refine below_al ?_ _)⟩
theorem right_b (w : World) (c : Nat) (A : Option Addr) (l : List Int) (hS : Sl w w.heap.size A l) (hl : l.length ≤ 1152921504606846976) :
    Calls Try.prog 22 #[.agg #[.slice A l.length c]] w fun e w' => e = .returned (.bool (rightB l)) ∧ Below w.heap.size w w' :=
  (right_any w w.heap.size A c l hS (Nat.le_refl _) (by omega)).mono fun _ _ ⟨he, hw⟩ => ⟨he, by rw [← hw]; exact below_al (below_0 _) _⟩
theorem numbers_b (w : World) (c c2 : Nat) (A A2 : Option Addr) (l m : List Int) (hS : Sl w w.heap.size A l) (hS2 : Sl w w.heap.size A2 m) (hl : l.length ≤ 1152921504606846976) (hm : m.length ≤ 1152921504606846976) :
    Calls Try.prog 16 #[.slice A l.length c, .slice A2 m.length c2] w fun e w' => e = .returned (.bool (eqB l m)) ∧ Below w.heap.size w w' :=
  (numbers_any w w.heap.size c c2 A A2 l m hS hS2 hl hm).mono fun _ _ ⟨he, k, hw⟩ => ⟨he, by rw [hw]; exact below_drewN (below_0 _) _⟩

set_option maxHeartbeats 4000000 in
theorem makes_walk (w : World) (nx capx n1 cap1 : Nat) (ax a1 : Option Addr) (x0 l1 : List Int) (n : Int) (hSX : Sl w w.heap.size ax x0) (hS1 : Sl w w.heap.size a1 l1)
    (hkx : (if (70 : Int) < (nx : Int) then (70 : Int) else (nx : Int)) = (x0.length : Int)) (hk1 : (if (100 : Int) < (n1 : Int) then (100 : Int) else (n1 : Int)) = (l1.length : Int))
    (hqx : x0.length ≤ capx) (hmx : capx ≤ 9223372036854775807) (hq1 : l1.length ≤ cap1) (hm1 : cap1 ≤ 9223372036854775807) (hx70 : x0.length ≤ 70) (h100 : l1.length ≤ 100) :
    Calls Try.prog 5 #[.agg #[.slice ax nx capx], .slice a1 n1 cap1, .int .u64 n] w fun e w' => e = .returned (.bool true) ∧ Below w.heap.size w w' := by
  have PX := Lib.hid (hSX.later (below_al (below_0 _) (.cells #[.slice ax nx capx] 24)))
  have P1 := Lib.hid (hS1.later (below_al (below_0 _) (.cells #[.slice ax nx capx] 24)))
  have HKX := Lib.hid hkx
  have HK1 := Lib.hid hk1
  have B0 := Lib.hid (Boxed.new w 24 (.slice ax nx capx))
  have DA : Below w.heap.size w (w.alloc (.cells #[.slice ax nx capx] 24)) := below_al (below_0 _) _
  clear hSX hS1 hkx hk1
  go_enter Try.func5, Try.ntmps5
  go_wp2_with fail
  refine (shown_any _).mono ?_
  rintro e w0 ⟨rfl, hb0⟩
  replace PX := Lib.hid (PX.out.later hb0)
  replace P1 := Lib.hid (P1.out.later hb0)
  replace B0 := Lib.hid (boxed_below B0.out hb0)
  have T0 := Below.two DA hb0
  have k0 := B0.out.cell
  go_wp2_with fail
  refine (few2_any _ nx capx ax x0 HKX.out hqx hmx).mono ?_
  rintro e w1 ⟨rfl, hb1⟩
  replace PX := Lib.hid (PX.out.later hb1)
  replace P1 := Lib.hid (P1.out.later hb1)
  replace B0 := Lib.hid (boxed_below B0.out hb1)
  have T1 := Below.two T0 hb1
  have k1 := B0.out.cell
  have f1 := B0.out.frozen
  have HP : Hid (Sl (w1.setCell ⟨w.heap.size, 0, none⟩ (.slice ax x0.length capx)) (w1.setCell ⟨w.heap.size, 0, none⟩ (.slice ax x0.length capx)).heap.size ax x0) := sl_set PX.out B0.out (fun n e => by cases e) _
  have HP1 : Hid (Sl (w1.setCell ⟨w.heap.size, 0, none⟩ (.slice ax x0.length capx)) (w1.setCell ⟨w.heap.size, 0, none⟩ (.slice ax x0.length capx)).heap.size a1 l1) := sl_set P1.out B0.out (fun n e => by cases e) _
  have HB : Hid (Boxed (w1.setCell ⟨w.heap.size, 0, none⟩ (.slice ax x0.length capx)) w.heap.size 24 (.slice ax x0.length capx)) := B0.out.set _
  have T2 : Below w.heap.size w (w1.setCell ⟨w.heap.size, 0, none⟩ (.slice ax x0.length capx)) := T1.setCell (Nat.le_refl _) _
  clear PX P1 B0 k0
  go_wp2_with fail
  refine (few_any _ n1 cap1 a1 l1 HK1.out hq1 hm1).mono ?_
  rintro e w' ⟨rfl, rfl⟩
  clear k1 f1
  generalize w1.setCell ⟨w.heap.size, 0, none⟩ (.slice ax x0.length capx) = V at *
  have kHB := HB.out.cell
  have zHB := HB.out.lt
  go_wp2_with fail
  refine (of_tot _ cap1 a1 l1 (by exact HP1.out.later (below_0 V)) (by omega)).mono ?_
  rintro e w2 ⟨hb2, v2, rfl, hh2⟩
  obtain ⟨A2, c2, rfl, hc2, hA2, hS2, hF2⟩ := hh2
  clear kHB zHB
  have Dw2 : Below V.heap.size V w2 := Below.two (below_0 V) hb2
  replace HP := Lib.hid (HP.out.later Dw2)
  replace HP1 := Lib.hid (HP1.out.later Dw2)
  replace HB := Lib.hid (boxed_below HB.out Dw2)
  have Tw2 := Below.two T2 Dw2
  have S2 := Lib.hid hS2
  clear hA2 hF2 hS2
  have X2 := Lib.hid (Boxed.new w2 24 (.slice A2 ((ofF l1).1).length c2))
  have kHB := HB.out.cell
  have zHB := HB.out.lt
  have kX2 := True.intro
  have zX2 := True.intro
  go_wp2_with fail
  refine (few_any _ n1 cap1 a1 l1 HK1.out hq1 hm1).mono ?_
  rintro e w' ⟨rfl, rfl⟩
  go_wp2_with fail
  refine (rof_any _ cap1 a1 l1 (by exact HP1.out.later (below_al (below_0 w2) _)) (by omega)).mono ?_
  rintro e w3 ⟨hb3, A3, c3, rfl, hS3⟩
  clear kHB zHB kX2 zX2
  have Dw3 : Below w2.heap.size w2 w3 := Below.two (below_al (below_0 w2) _) hb3
  replace HP := Lib.hid (HP.out.later Dw3)
  replace HP1 := Lib.hid (HP1.out.later Dw3)
  replace S2 := Lib.hid (S2.out.later Dw3)
  replace HB := Lib.hid (boxed_below HB.out Dw3)
  replace X2 := Lib.hid (boxed_below X2.out hb3)
  have Tw3 := Below.two Tw2 Dw3
  have S3 := Lib.hid hS3
  clear hS3
  have X3 := Lib.hid (Boxed.new w3 24 (.slice A3 (ofF l1).1.length c3))
  have kHB := HB.out.cell
  have zHB := HB.out.lt
  have kX2 := X2.out.cell
  have zX2 := X2.out.lt
  go_wp2_with fail
  obtain ⟨V2, hV2⟩ : ∃ V2, w3.alloc (.cells #[.slice A3 (ofF l1).1.length c3] 24) = V2 := ⟨_, rfl⟩
  have DV : Below w3.heap.size w3 V2 := by rw [← hV2]; exact below_al (below_0 _) _
  replace X3 : Hid (Boxed V2 w3.heap.size 24 (.slice A3 (ofF l1).1.length c3)) := by rw [← hV2]; exact X3.out
  replace HB := Lib.hid (boxed_below HB.out DV)
  replace X2 := Lib.hid (boxed_below X2.out DV)
  replace HP := Lib.hid (HP.out.later DV)
  replace S2 := Lib.hid (S2.out.later DV)
  replace S3 := Lib.hid (S3.out.later DV)
  have TV := Below.two Tw3 DV
  rw [hV2]
  clear hV2 kHB kX2 zHB zX2
  have F1 := After.cell HB.out.cell HB.out.lt
  have F2 := After.cell X2.out.cell X2.out.lt
  have F3 := After.cell X3.out.cell X3.out.lt
  haveI := After.some V2
  have C1 : Hid (∀ x : After V2, Calls Try.prog 16 #[.slice A2 (ofF l1).1.length c2, .slice A3 (ofF l1).1.length c3] x.at_ fun e w' => e = .returned (.bool (eqB (ofF l1).1 (ofF l1).1)) ∧ Below x.at_.heap.size x.at_ w') := fun x => numbers_b x.at_ c2 c3 A2 A3 _ _ (S2.out.later x.is) (S3.out.later x.is) (by have := right_len (ofF_right l1); omega) (by have := right_len (ofF_right l1); omega)
  have C2 : Hid (∀ x : After V2, Calls Try.prog 22 #[.agg #[.slice ax x0.length capx]] x.at_ fun e w' => e = .returned (.bool (rightB x0)) ∧ Below x.at_.heap.size x.at_ w') := fun x => right_b x.at_ capx ax x0 (HP.out.later x.is) (by omega)
  have C3 : Hid (∀ x : After V2, Calls Try.prog 23 #[.agg #[.slice ax x0.length capx]] x.at_ fun e w' => e = .returned (.bool (rightB x0)) ∧ Below x.at_.heap.size x.at_ w') := fun x => rright_b x.at_ capx ax x0 (HP.out.later x.is) (by omega)
  have C4 : Hid (∀ x : After V2, Calls Try.prog 19 #[.agg #[.slice ax x0.length capx], .int .u64 n] x.at_ fun e w' => e = .returned (.bool (hasB x0 n)) ∧ Below x.at_.heap.size x.at_ w') := fun x => has_any x.at_ capx ax x0 n (HP.out.later x.is) (by omega)
  have C5 : Hid (∀ x : After V2, Calls Try.prog 24 #[.agg #[.slice ax x0.length capx], .int .u64 n] x.at_ fun e w' => e = .returned (.bool (hasB x0 n)) ∧ Below x.at_.heap.size x.at_ w') := fun x => rhas_any x.at_ capx ax x0 n (HP.out.later x.is) (by omega)
  have C6 : Hid (∀ x : After V2, Calls Try.prog 20 #[.agg #[.slice ax x0.length capx]] x.at_ fun e w' => e = .returned (.int .u64 (cnt x0)) ∧ Below x.at_.heap.size x.at_ w') := fun x => count_any x.at_ capx ax x0 (HP.out.later x.is) (by omega)
  have C7 : Hid (∀ x : After V2, Calls Try.prog 25 #[.agg #[.slice ax x0.length capx]] x.at_ fun e w' => e = .returned (.int .u64 (cnt x0)) ∧ Below x.at_.heap.size x.at_ w') := fun x => rcount_any x.at_ capx ax x0 (HP.out.later x.is) (by omega)
  have C8 : Hid (∀ x : After V2, Calls Try.prog 26 #[.agg #[.slice A2 (ofF l1).1.length c2], .agg #[.slice ax x0.length capx]] x.at_ fun e w' => e = .returned (.bool (eqB (ofF l1).1 x0)) ∧ Below x.at_.heap.size x.at_ w') := fun x => same_any x.at_ c2 capx A2 ax _ _ (S2.out.later x.is) (HP.out.later x.is) (by have := right_len (ofF_right l1); omega) (by omega)
  have C9 : Hid (∀ x : After V2, Calls Try.prog 16 #[.slice A2 (ofF l1).1.length c2, .slice ax x0.length capx] x.at_ fun e w' => e = .returned (.bool (eqB (ofF l1).1 x0)) ∧ Below x.at_.heap.size x.at_ w') := fun x => numbers_b x.at_ c2 capx A2 ax _ _ (S2.out.later x.is) (HP.out.later x.is) (by have := right_len (ofF_right l1); omega) (by omega)
  have hEq : eqB (ofF l1).1 (ofF l1).1 = true := by simp [eqB]
  rw [hEq] at C1
  clear hEq
  refine wp_region_below (by kernel_rfl) (by kernel_rfl) ?_
  repeat (go_big_quiet_step (first | with_reducible exact after_calls (C1.out _) | with_reducible exact after_calls (C2.out _) | with_reducible exact after_calls (C3.out _) | with_reducible exact after_calls (C4.out _) | with_reducible exact after_calls (C5.out _) | with_reducible exact after_calls (C6.out _) | with_reducible exact after_calls (C7.out _) | with_reducible exact after_calls (C8.out _) | with_reducible exact after_calls (C9.out _)))
  refine wpQuiet_nil ?_
  rintro _ ⟨⟨w9, hb9⟩, rfl⟩
  go_wp2_with fail
  go_ret
  exact ⟨rfl, Below.two TV hb9⟩
end Go.Proofs.Ytdobgfadnenhaaa

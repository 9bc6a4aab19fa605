/-
  The walk of the law aviarylaw08.CmsMerges: call by call, each callee by its contract.
-/
import Derived.Test.YthjdonhabenmcaaCmsShown
import Derived.Test.YthjdonhabenmcaaCmsLaws
import Derived.Test.YthjdonhabenmcaaCmsRLower
import Derived.Test.YthjdonhabenmcaaQuiet
namespace Go.Proofs.Ythjdonhabenmcaa
open Go.RowKit
set_option linter.unusedVariables false
set_option maxHeartbeats 4000000 in
theorem merges_walk (w : World) (r c : Int) (nx capx : Nat) (ax : Option Addr) (x0 : List Int) (hU : Us x0) (hslx : Sl w w.heap.size ax x0)
    (hkx : (if (200 : Int) < (nx : Int) then (200 : Int) else (nx : Int)) = (x0.length : Int)) (hqx : x0.length ≤ capx) (hmx : capx ≤ 9223372036854775807) (hx200 : x0.length ≤ 200)
    (ry cy : Int) (ny capy : Nat) (ay : Option Addr) (y0 : List Int) (hV : Us y0) (hsly : Sl w w.heap.size ay y0)
    (hky : (if (200 : Int) < (ny : Int) then (200 : Int) else (ny : Int)) = (y0.length : Int)) (hqy : y0.length ≤ capy) (hmy : capy ≤ 9223372036854775807) (hy200 : y0.length ≤ 200) :
    Calls Try.prog 8 #[.agg #[.int .i64 r, .int .i64 c, .slice ax nx capx], .agg #[.int .i64 ry, .int .i64 cy, .slice ay ny capy]] w fun e w' => e = .returned (.bool true) ∧ Below w.heap.size w w' := by
  have T : Below w.heap.size w ((w.alloc (.cells #[.int .i64 r, .int .i64 c, .slice ax nx capx] 24)).alloc (.cells #[.int .i64 ry, .int .i64 cy, .slice ay ny capy] 24)) := below_al (below_al (below_0 _) _) _
  have SX := Lib.hid (hslx.later T)
  have SY := Lib.hid (hsly.later T)
  have X0 := Lib.hid ((Blk.new w 24 #[.int .i64 r, .int .i64 c, .slice ax nx capx]).alloc (.cells #[.int .i64 ry, .int .i64 cy, .slice ay ny capy] 24))
  have Y0 := Lib.hid (Blk.new (w.alloc (.cells #[.int .i64 r, .int .i64 c, .slice ax nx capx] 24)) 24 #[.int .i64 ry, .int .i64 cy, .slice ay ny capy])
  simp only [World.size_alloc] at Y0
  have HKX := Lib.hid hkx
  have HKY := Lib.hid hky
  clear hslx hkx hsly hky
  go_enter Try.func8, Try.ntmps8
  go_wp2_with fail
  refine (shown_any _).mono ?_
  rintro e w90 ⟨rfl, hb90⟩
  replace SX := Lib.hid (SX.out.later hb90)
  replace SY := Lib.hid (SY.out.later hb90)
  replace X0 := Lib.hid (X0.out.later hb90)
  replace Y0 := Lib.hid (Y0.out.later hb90)
  replace T := Below.two T hb90
  clear hb90
  have k0X0 := X0.out.c0
  have k1X0 := X0.out.c1
  have k2X0 := X0.out.c2
  have kzX0 := X0.out.lt
  have k0Y0 := Y0.out.c0
  have k1Y0 := Y0.out.c1
  have k2Y0 := Y0.out.c2
  have kzY0 := Y0.out.lt
  go_wp2_with fail
  refine (few_any _ r c nx capx ax x0 HKX.out hqx hmx).mono ?_
  rintro e w91 ⟨rfl, hb91⟩
  clear k0X0 k1X0 k2X0 kzX0 k0Y0 k1Y0 k2Y0 kzY0
  replace SX := Lib.hid (SX.out.later hb91)
  replace SY := Lib.hid (SY.out.later hb91)
  replace X0 := Lib.hid (X0.out.later hb91)
  replace Y0 := Lib.hid (Y0.out.later hb91)
  replace T := Below.two T hb91
  clear hb91
  have k0X0 := X0.out.c0
  have k1X0 := X0.out.c1
  have k2X0 := X0.out.c2
  have kzX0 := X0.out.lt
  have k0Y0 := Y0.out.c0
  have k1Y0 := Y0.out.c1
  have k2Y0 := Y0.out.c2
  have kzY0 := Y0.out.lt
  have f0 := X0.out.frozen 0
  have f1 := X0.out.frozen 1
  have f2 := X0.out.frozen 2
  go_wp2_with fail
  clear k0X0 k1X0 k2X0 kzX0 k0Y0 k1Y0 k2Y0 kzY0
  clear f0 f1 f2
  replace SX := Lib.hid (sl_turned SX.out X0.out (no_u64 _ _ _ _ _) (grow_set3 w91 (w.heap.size) (.int .i64 r) (.int .i64 c) (.slice ax x0.length capx)))
  replace SY := Lib.hid (sl_turned SY.out X0.out (no_u64 _ _ _ _ _) (grow_set3 w91 (w.heap.size) (.int .i64 r) (.int .i64 c) (.slice ax x0.length capx)))
  replace T := below_turned T (grow_set3 w91 (w.heap.size) (.int .i64 r) (.int .i64 c) (.slice ax x0.length capx)) (by omega)
  replace Y0 := Lib.hid (Y0.out.grown (grow_set3 w91 (w.heap.size) (.int .i64 r) (.int .i64 c) (.slice ax x0.length capx)) (fun e => by injection e with e; omega))
  replace X0 := Lib.hid (X0.out.set3 (x := .int .i64 r) (y := .int .i64 c) (z := .slice ax x0.length capx))
  generalize ((w91.setCell ⟨w.heap.size, 0, none⟩ (.int .i64 r)).setCell ⟨w.heap.size, 1, none⟩ (.int .i64 c)).setCell ⟨w.heap.size, 2, none⟩ (.slice ax x0.length capx) = V91 at *
  refine (few_any _ ry cy ny capy ay y0 HKY.out hqy hmy).mono ?_
  rintro e w92 ⟨rfl, hb92⟩
  replace SX := Lib.hid (SX.out.later hb92)
  replace SY := Lib.hid (SY.out.later hb92)
  replace X0 := Lib.hid (X0.out.later hb92)
  replace Y0 := Lib.hid (Y0.out.later hb92)
  replace T := Below.two T hb92
  clear hb92
  have k0X0 := X0.out.c0
  have k1X0 := X0.out.c1
  have k2X0 := X0.out.c2
  have kzX0 := X0.out.lt
  have k0Y0 := Y0.out.c0
  have k1Y0 := Y0.out.c1
  have k2Y0 := Y0.out.c2
  have kzY0 := Y0.out.lt
  have f0 := Y0.out.frozen 0
  have f1 := Y0.out.frozen 1
  have f2 := Y0.out.frozen 2
  go_wp2_with fail
  clear k0X0 k1X0 k2X0 kzX0 k0Y0 k1Y0 k2Y0 kzY0
  clear f0 f1 f2
  replace SX := Lib.hid (sl_turned SX.out Y0.out (no_u64 _ _ _ _ _) (grow_set3 w92 (w.heap.size + 1) (.int .i64 ry) (.int .i64 cy) (.slice ay y0.length capy)))
  replace SY := Lib.hid (sl_turned SY.out Y0.out (no_u64 _ _ _ _ _) (grow_set3 w92 (w.heap.size + 1) (.int .i64 ry) (.int .i64 cy) (.slice ay y0.length capy)))
  replace T := below_turned T (grow_set3 w92 (w.heap.size + 1) (.int .i64 ry) (.int .i64 cy) (.slice ay y0.length capy)) (by omega)
  replace X0 := Lib.hid (X0.out.grown (grow_set3 w92 (w.heap.size + 1) (.int .i64 ry) (.int .i64 cy) (.slice ay y0.length capy)) (fun e => by injection e with e; omega))
  replace Y0 := Lib.hid (Y0.out.set3 (x := .int .i64 ry) (y := .int .i64 cy) (z := .slice ay y0.length capy))
  generalize ((w92.setCell ⟨w.heap.size + 1, 0, none⟩ (.int .i64 ry)).setCell ⟨w.heap.size + 1, 1, none⟩ (.int .i64 cy)).setCell ⟨w.heap.size + 1, 2, none⟩ (.slice ay y0.length capy) = V92 at *
  refine (merge_any r c ry cy ax ay x0 y0 capx capy _ SX.out SY.out hU hV).mono ?_
  rintro e w1 ⟨hb1, v1, rfl, hh1⟩
  obtain ⟨A1, c1, rfl, hc1, hA1, hS1, hF1⟩ := hh1
  replace SX := Lib.hid (SX.out.later hb1)
  replace SY := Lib.hid (SY.out.later hb1)
  replace X0 := Lib.hid (X0.out.later hb1)
  replace Y0 := Lib.hid (Y0.out.later hb1)
  replace T := Below.two T hb1
  obtain ⟨x1, hx1⟩ : ∃ x, mergeC ⟨r, c, x0⟩ ⟨ry, cy, y0⟩ = x := ⟨_, rfl⟩
  rw [hx1] at hS1 hc1 ⊢
  have HX1 := Lib.hid hx1
  clear hx1
  have S1 := Lib.hid hS1
  have F1 := Lib.hid hF1
  clear hS1 hF1 hA1 hb1
  have k0X0 := X0.out.c0
  have k1X0 := X0.out.c1
  have k2X0 := X0.out.c2
  have kzX0 := X0.out.lt
  have k0Y0 := Y0.out.c0
  have k1Y0 := Y0.out.c1
  have k2Y0 := Y0.out.c2
  have kzY0 := Y0.out.lt
  go_wp2_with fail
  clear k0X0 k1X0 k2X0 kzX0 k0Y0 k1Y0 k2Y0 kzY0
  have X1 := Lib.hid (Blk.new w1 24 #[.int .i64 x1.1.r, .int .i64 x1.1.c, .slice A1 x1.1.l.length c1])
  replace SX := Lib.hid (SX.out.later (below_al (below_0 _) (.cells #[.int .i64 x1.1.r, .int .i64 x1.1.c, .slice A1 x1.1.l.length c1] 24)))
  replace SY := Lib.hid (SY.out.later (below_al (below_0 _) (.cells #[.int .i64 x1.1.r, .int .i64 x1.1.c, .slice A1 x1.1.l.length c1] 24)))
  replace S1 := Lib.hid (S1.out.later (below_al (below_0 _) (.cells #[.int .i64 x1.1.r, .int .i64 x1.1.c, .slice A1 x1.1.l.length c1] 24)))
  replace X0 := Lib.hid (X0.out.alloc (.cells #[.int .i64 x1.1.r, .int .i64 x1.1.c, .slice A1 x1.1.l.length c1] 24))
  replace Y0 := Lib.hid (Y0.out.alloc (.cells #[.int .i64 x1.1.r, .int .i64 x1.1.c, .slice A1 x1.1.l.length c1] 24))
  replace T := below_al T (.cells #[.int .i64 x1.1.r, .int .i64 x1.1.c, .slice A1 x1.1.l.length c1] 24)
  generalize w1.alloc (.cells #[.int .i64 x1.1.r, .int .i64 x1.1.c, .slice A1 x1.1.l.length c1] 24) = V1 at *
  refine (rmerge_any r c ry cy ax ay x0 y0 capx capy _ SX.out SY.out hU hV).mono ?_
  rintro e w2 ⟨hb2, v2, rfl, hh2⟩
  obtain ⟨A2, c2, rfl, hc2, hA2, hS2, hF2⟩ := hh2
  replace SX := Lib.hid (SX.out.later hb2)
  replace SY := Lib.hid (SY.out.later hb2)
  replace S1 := Lib.hid (S1.out.later hb2)
  replace X0 := Lib.hid (X0.out.later hb2)
  replace Y0 := Lib.hid (Y0.out.later hb2)
  replace X1 := Lib.hid (X1.out.later hb2)
  replace T := Below.two T hb2
  obtain ⟨x2, hx2⟩ : ∃ x, mergeC ⟨r, c, x0⟩ ⟨ry, cy, y0⟩ = x := ⟨_, rfl⟩
  rw [hx2] at hS2 hc2 ⊢
  have HX2 := Lib.hid hx2
  clear hx2
  have S2 := Lib.hid hS2
  have F2 := Lib.hid hF2
  clear hS2 hF2 hA2 hb2
  have k0X0 := X0.out.c0
  have k1X0 := X0.out.c1
  have k2X0 := X0.out.c2
  have kzX0 := X0.out.lt
  have k0Y0 := Y0.out.c0
  have k1Y0 := Y0.out.c1
  have k2Y0 := Y0.out.c2
  have kzY0 := Y0.out.lt
  have k0X1 := X1.out.c0
  have k1X1 := X1.out.c1
  have k2X1 := X1.out.c2
  have kzX1 := X1.out.lt
  go_wp2_with fail
  clear k0X0 k1X0 k2X0 kzX0 k0Y0 k1Y0 k2Y0 kzY0 k0X1 k1X1 k2X1 kzX1
  have X2 := Lib.hid (Blk.new w2 24 #[.int .i64 x2.1.r, .int .i64 x2.1.c, .slice A2 x2.1.l.length c2])
  replace SX := Lib.hid (SX.out.later (below_al (below_0 _) (.cells #[.int .i64 x2.1.r, .int .i64 x2.1.c, .slice A2 x2.1.l.length c2] 24)))
  replace SY := Lib.hid (SY.out.later (below_al (below_0 _) (.cells #[.int .i64 x2.1.r, .int .i64 x2.1.c, .slice A2 x2.1.l.length c2] 24)))
  replace S1 := Lib.hid (S1.out.later (below_al (below_0 _) (.cells #[.int .i64 x2.1.r, .int .i64 x2.1.c, .slice A2 x2.1.l.length c2] 24)))
  replace S2 := Lib.hid (S2.out.later (below_al (below_0 _) (.cells #[.int .i64 x2.1.r, .int .i64 x2.1.c, .slice A2 x2.1.l.length c2] 24)))
  replace X0 := Lib.hid (X0.out.alloc (.cells #[.int .i64 x2.1.r, .int .i64 x2.1.c, .slice A2 x2.1.l.length c2] 24))
  replace Y0 := Lib.hid (Y0.out.alloc (.cells #[.int .i64 x2.1.r, .int .i64 x2.1.c, .slice A2 x2.1.l.length c2] 24))
  replace X1 := Lib.hid (X1.out.alloc (.cells #[.int .i64 x2.1.r, .int .i64 x2.1.c, .slice A2 x2.1.l.length c2] 24))
  replace T := below_al T (.cells #[.int .i64 x2.1.r, .int .i64 x2.1.c, .slice A2 x2.1.l.length c2] 24)
  generalize w2.alloc (.cells #[.int .i64 x2.1.r, .int .i64 x2.1.c, .slice A2 x2.1.l.length c2] 24) = V2 at *
  refine (lower_any r c ax x0 capx hU _ SX.out).mono ?_
  rintro e w3 ⟨hb3, v3, rfl, hh3⟩
  obtain ⟨A3, c3, rfl, hc3, hA3, hS3, hF3⟩ := hh3
  replace SX := Lib.hid (SX.out.later hb3)
  replace SY := Lib.hid (SY.out.later hb3)
  replace S1 := Lib.hid (S1.out.later hb3)
  replace S2 := Lib.hid (S2.out.later hb3)
  replace X0 := Lib.hid (X0.out.later hb3)
  replace Y0 := Lib.hid (Y0.out.later hb3)
  replace X1 := Lib.hid (X1.out.later hb3)
  replace X2 := Lib.hid (X2.out.later hb3)
  replace T := Below.two T hb3
  obtain ⟨x3, hx3⟩ : ∃ x, lowerC ⟨r, c, x0⟩ = x := ⟨_, rfl⟩
  rw [hx3] at hS3 hc3 ⊢
  have HX3 := Lib.hid hx3
  clear hx3
  have S3 := Lib.hid hS3
  have F3 := Lib.hid hF3
  clear hS3 hF3 hA3 hb3
  have k0X0 := X0.out.c0
  have k1X0 := X0.out.c1
  have k2X0 := X0.out.c2
  have kzX0 := X0.out.lt
  have k0Y0 := Y0.out.c0
  have k1Y0 := Y0.out.c1
  have k2Y0 := Y0.out.c2
  have kzY0 := Y0.out.lt
  have k0X1 := X1.out.c0
  have k1X1 := X1.out.c1
  have k2X1 := X1.out.c2
  have kzX1 := X1.out.lt
  have k0X2 := X2.out.c0
  have k1X2 := X2.out.c1
  have k2X2 := X2.out.c2
  have kzX2 := X2.out.lt
  go_wp2_with fail
  clear k0X0 k1X0 k2X0 kzX0 k0Y0 k1Y0 k2Y0 kzY0 k0X1 k1X1 k2X1 kzX1 k0X2 k1X2 k2X2 kzX2
  have X3 := Lib.hid (Blk.new w3 24 #[.int .i64 x3.1.r, .int .i64 x3.1.c, .slice A3 x3.1.l.length c3])
  replace SX := Lib.hid (SX.out.later (below_al (below_0 _) (.cells #[.int .i64 x3.1.r, .int .i64 x3.1.c, .slice A3 x3.1.l.length c3] 24)))
  replace SY := Lib.hid (SY.out.later (below_al (below_0 _) (.cells #[.int .i64 x3.1.r, .int .i64 x3.1.c, .slice A3 x3.1.l.length c3] 24)))
  replace S1 := Lib.hid (S1.out.later (below_al (below_0 _) (.cells #[.int .i64 x3.1.r, .int .i64 x3.1.c, .slice A3 x3.1.l.length c3] 24)))
  replace S2 := Lib.hid (S2.out.later (below_al (below_0 _) (.cells #[.int .i64 x3.1.r, .int .i64 x3.1.c, .slice A3 x3.1.l.length c3] 24)))
  replace S3 := Lib.hid (S3.out.later (below_al (below_0 _) (.cells #[.int .i64 x3.1.r, .int .i64 x3.1.c, .slice A3 x3.1.l.length c3] 24)))
  replace X0 := Lib.hid (X0.out.alloc (.cells #[.int .i64 x3.1.r, .int .i64 x3.1.c, .slice A3 x3.1.l.length c3] 24))
  replace Y0 := Lib.hid (Y0.out.alloc (.cells #[.int .i64 x3.1.r, .int .i64 x3.1.c, .slice A3 x3.1.l.length c3] 24))
  replace X1 := Lib.hid (X1.out.alloc (.cells #[.int .i64 x3.1.r, .int .i64 x3.1.c, .slice A3 x3.1.l.length c3] 24))
  replace X2 := Lib.hid (X2.out.alloc (.cells #[.int .i64 x3.1.r, .int .i64 x3.1.c, .slice A3 x3.1.l.length c3] 24))
  replace T := below_al T (.cells #[.int .i64 x3.1.r, .int .i64 x3.1.c, .slice A3 x3.1.l.length c3] 24)
  generalize w3.alloc (.cells #[.int .i64 x3.1.r, .int .i64 x3.1.c, .slice A3 x3.1.l.length c3] 24) = V3 at *
  refine (rlower_any r c ax x0 capx hU _ SX.out).mono ?_
  rintro e w4 ⟨hb4, v4, rfl, hh4⟩
  obtain ⟨A4, c4, rfl, hc4, hA4, hS4, hF4⟩ := hh4
  replace SX := Lib.hid (SX.out.later hb4)
  replace SY := Lib.hid (SY.out.later hb4)
  replace S1 := Lib.hid (S1.out.later hb4)
  replace S2 := Lib.hid (S2.out.later hb4)
  replace S3 := Lib.hid (S3.out.later hb4)
  replace X0 := Lib.hid (X0.out.later hb4)
  replace Y0 := Lib.hid (Y0.out.later hb4)
  replace X1 := Lib.hid (X1.out.later hb4)
  replace X2 := Lib.hid (X2.out.later hb4)
  replace X3 := Lib.hid (X3.out.later hb4)
  replace T := Below.two T hb4
  obtain ⟨x4, hx4⟩ : ∃ x, lowerC ⟨r, c, x0⟩ = x := ⟨_, rfl⟩
  rw [hx4] at hS4 hc4 ⊢
  have HX4 := Lib.hid hx4
  clear hx4
  have S4 := Lib.hid hS4
  have F4 := Lib.hid hF4
  clear hS4 hF4 hA4 hb4
  have k0X0 := X0.out.c0
  have k1X0 := X0.out.c1
  have k2X0 := X0.out.c2
  have kzX0 := X0.out.lt
  have k0Y0 := Y0.out.c0
  have k1Y0 := Y0.out.c1
  have k2Y0 := Y0.out.c2
  have kzY0 := Y0.out.lt
  have k0X1 := X1.out.c0
  have k1X1 := X1.out.c1
  have k2X1 := X1.out.c2
  have kzX1 := X1.out.lt
  have k0X2 := X2.out.c0
  have k1X2 := X2.out.c1
  have k2X2 := X2.out.c2
  have kzX2 := X2.out.lt
  have k0X3 := X3.out.c0
  have k1X3 := X3.out.c1
  have k2X3 := X3.out.c2
  have kzX3 := X3.out.lt
  go_wp2_with fail
  clear k0X0 k1X0 k2X0 kzX0 k0Y0 k1Y0 k2Y0 kzY0 k0X1 k1X1 k2X1 kzX1 k0X2 k1X2 k2X2 kzX2 k0X3 k1X3 k2X3 kzX3
  have X4 := Lib.hid (Blk.new w4 24 #[.int .i64 x4.1.r, .int .i64 x4.1.c, .slice A4 x4.1.l.length c4])
  replace SX := Lib.hid (SX.out.later (below_al (below_0 _) (.cells #[.int .i64 x4.1.r, .int .i64 x4.1.c, .slice A4 x4.1.l.length c4] 24)))
  replace SY := Lib.hid (SY.out.later (below_al (below_0 _) (.cells #[.int .i64 x4.1.r, .int .i64 x4.1.c, .slice A4 x4.1.l.length c4] 24)))
  replace S1 := Lib.hid (S1.out.later (below_al (below_0 _) (.cells #[.int .i64 x4.1.r, .int .i64 x4.1.c, .slice A4 x4.1.l.length c4] 24)))
  replace S2 := Lib.hid (S2.out.later (below_al (below_0 _) (.cells #[.int .i64 x4.1.r, .int .i64 x4.1.c, .slice A4 x4.1.l.length c4] 24)))
  replace S3 := Lib.hid (S3.out.later (below_al (below_0 _) (.cells #[.int .i64 x4.1.r, .int .i64 x4.1.c, .slice A4 x4.1.l.length c4] 24)))
  replace S4 := Lib.hid (S4.out.later (below_al (below_0 _) (.cells #[.int .i64 x4.1.r, .int .i64 x4.1.c, .slice A4 x4.1.l.length c4] 24)))
  replace X0 := Lib.hid (X0.out.alloc (.cells #[.int .i64 x4.1.r, .int .i64 x4.1.c, .slice A4 x4.1.l.length c4] 24))
  replace Y0 := Lib.hid (Y0.out.alloc (.cells #[.int .i64 x4.1.r, .int .i64 x4.1.c, .slice A4 x4.1.l.length c4] 24))
  replace X1 := Lib.hid (X1.out.alloc (.cells #[.int .i64 x4.1.r, .int .i64 x4.1.c, .slice A4 x4.1.l.length c4] 24))
  replace X2 := Lib.hid (X2.out.alloc (.cells #[.int .i64 x4.1.r, .int .i64 x4.1.c, .slice A4 x4.1.l.length c4] 24))
  replace X3 := Lib.hid (X3.out.alloc (.cells #[.int .i64 x4.1.r, .int .i64 x4.1.c, .slice A4 x4.1.l.length c4] 24))
  replace T := below_al T (.cells #[.int .i64 x4.1.r, .int .i64 x4.1.c, .slice A4 x4.1.l.length c4] 24)
  generalize w4.alloc (.cells #[.int .i64 x4.1.r, .int .i64 x4.1.c, .slice A4 x4.1.l.length c4] 24) = V4 at *
  have e12 : x2 = x1 := HX2.out.symm.trans HX1.out
  have e34 : x4 = x3 := HX4.out.symm.trans HX3.out
  subst e12 e34
  have L1 : x2.1.l.length ≤ 200 := by rw [← HX1.out]; exact Nat.le_trans (mergeC_len _ _) hx200
  have L3 : x4.1.l.length ≤ 128 := by rw [← HX3.out]; exact lowerC_len _
  have F0X0 := After.cell X0.out.c0 X0.out.lt
  have F1X0 := After.cell X0.out.c1 X0.out.lt
  have F2X0 := After.cell X0.out.c2 X0.out.lt
  have F0Y0 := After.cell Y0.out.c0 Y0.out.lt
  have F1Y0 := After.cell Y0.out.c1 Y0.out.lt
  have F2Y0 := After.cell Y0.out.c2 Y0.out.lt
  have F0X1 := After.cell X1.out.c0 X1.out.lt
  have F1X1 := After.cell X1.out.c1 X1.out.lt
  have F2X1 := After.cell X1.out.c2 X1.out.lt
  have F0X2 := After.cell X2.out.c0 X2.out.lt
  have F1X2 := After.cell X2.out.c1 X2.out.lt
  have F2X2 := After.cell X2.out.c2 X2.out.lt
  have F0X3 := After.cell X3.out.c0 X3.out.lt
  have F1X3 := After.cell X3.out.c1 X3.out.lt
  have F2X3 := After.cell X3.out.c2 X3.out.lt
  have F0X4 := After.cell X4.out.c0 X4.out.lt
  have F1X4 := After.cell X4.out.c1 X4.out.lt
  have F2X4 := After.cell X4.out.c2 X4.out.lt
  haveI := After.some V4
  have C1 : Hid (∀ x : After V4, Calls Try.prog 18 #[.agg #[.int .i64 x2.1.r, .int .i64 x2.1.c, .slice A1 x2.1.l.length c1], .agg #[.int .i64 x2.1.r, .int .i64 x2.1.c, .slice A2 x2.1.l.length c2]] x.at_ fun e w' => e = .returned (.bool true) ∧ Below x.at_.heap.size x.at_ w') := fun x => by have h := rsame_any x2.1.r x2.1.c x2.1.r x2.1.c A1 A2 x2.1.l x2.1.l c1 c2 x.at_ (S1.out.later x.is) (S2.out.later x.is) (by omega) (by omega); rw [sameB_self] at h; exact h
  have C2 : Hid (∀ x : After V4, Calls Try.prog 18 #[.agg #[.int .i64 x4.1.r, .int .i64 x4.1.c, .slice A3 x4.1.l.length c3], .agg #[.int .i64 x4.1.r, .int .i64 x4.1.c, .slice A4 x4.1.l.length c4]] x.at_ fun e w' => e = .returned (.bool true) ∧ Below x.at_.heap.size x.at_ w') := fun x => by have h := rsame_any x4.1.r x4.1.c x4.1.r x4.1.c A3 A4 x4.1.l x4.1.l c3 c4 x.at_ (S3.out.later x.is) (S4.out.later x.is) (by omega) (by omega); rw [sameB_self] at h; exact h
  have C3 : Hid (∀ x : After V4, Calls Try.prog 27 #[.agg #[.int .i64 r, .int .i64 c, .slice ax x0.length capx], .agg #[.int .i64 ry, .int .i64 cy, .slice ay y0.length capy]] x.at_ fun e w' => e = .returned (.bool (sameB ⟨r, c, x0⟩ ⟨ry, cy, y0⟩)) ∧ Below x.at_.heap.size x.at_ w') := fun x => same_any r c ry cy ax ay x0 y0 capx capy x.at_ (SX.out.later x.is) (SY.out.later x.is) (by omega) (by omega)
  have C4 : Hid (∀ x : After V4, Calls Try.prog 18 #[.agg #[.int .i64 r, .int .i64 c, .slice ax x0.length capx], .agg #[.int .i64 ry, .int .i64 cy, .slice ay y0.length capy]] x.at_ fun e w' => e = .returned (.bool (sameB ⟨r, c, x0⟩ ⟨ry, cy, y0⟩)) ∧ Below x.at_.heap.size x.at_ w') := fun x => rsame_any r c ry cy ax ay x0 y0 capx capy x.at_ (SX.out.later x.is) (SY.out.later x.is) (by omega) (by omega)
  have C5 : Hid (∀ x : After V4, Calls Try.prog 27 #[.agg #[.int .i64 r, .int .i64 c, .slice ax x0.length capx], .agg #[.int .i64 r, .int .i64 c, .slice ax x0.length capx]] x.at_ fun e w' => e = .returned (.bool true) ∧ Below x.at_.heap.size x.at_ w') := fun x => by have h := same_any r c r c ax ax x0 x0 capx capx x.at_ (SX.out.later x.is) (SX.out.later x.is) (by omega) (by omega); rw [sameB_self] at h; exact h
  refine wp_region_below (by kernel_rfl) (by kernel_rfl) ?_
  repeat (go_big_quiet_step (first | with_reducible exact after_calls (C1.out _) | with_reducible exact after_calls (C2.out _) | with_reducible exact after_calls (C3.out _) | with_reducible exact after_calls (C4.out _) | with_reducible exact after_calls (C5.out _)))
  refine wpQuiet_nil ?_
  rintro _ ⟨⟨w9, hb9⟩, rfl⟩
  go_wp2_with fail
  go_ret
  exact ⟨rfl, Below.two T hb9⟩
end Go.Proofs.Ythjdonhabenmcaa

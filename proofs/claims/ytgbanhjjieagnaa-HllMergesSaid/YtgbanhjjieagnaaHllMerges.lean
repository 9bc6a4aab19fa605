/-
  The walk of the law aviarylaw07.HllMerges: call by call, each callee by its contract.
-/
import Derived.Test.YtgbanhjjieagnaaHllShown
import Derived.Test.YtgbanhjjieagnaaHllRef5
import Derived.Test.YtgbanhjjieagnaaQuiet
import Derived.Test.YtgbanhjjieagnaaHllLaws
namespace Go.Proofs.Ytgbanhjjieagnaa
open Go.RowKit
set_option linter.unusedVariables false
set_option maxRecDepth 100000 in
set_option maxHeartbeats 4000000 in
theorem merges_walk (w : World) (b : Int) (l : List Nat) (hL : Bytes l) (hl : l.length ≤ 9223372036854775807) (c : Int) (m : List Nat) (hM : Bytes m) (hm : m.length ≤ 9223372036854775807) :
    Calls Try.prog 9 #[hV b l, hV c m] w fun e w' => e = .returned (.bool true) ∧ Below w.heap.size w w' := by
  have T : Below w.heap.size w ((w.alloc (.cells #[.int .i64 b, .string (bs l)] 23)).alloc (.cells #[.int .i64 c, .string (bs m)] 23)) := below_al (below_al (below_0 _) _) _
  have X0 := Lib.hid ((Blk.new w 23 #[.int .i64 b, .string (bs l)]).alloc (.cells #[.int .i64 c, .string (bs m)] 23))
  have Y0 := Lib.hid (Blk.new (w.alloc (.cells #[.int .i64 b, .string (bs l)] 23)) 23 #[.int .i64 c, .string (bs m)])
  rw [World.size_alloc] at Y0
  obtain ⟨y, hy⟩ : ∃ y, l.take 260 = y := ⟨_, rfl⟩
  obtain ⟨z, hz⟩ : ∃ z, m.take 260 = z := ⟨_, rfl⟩
  have HY : Hid (Bytes y) := by rw [← hy]; exact fun z hz => hL z (List.mem_of_mem_take hz)
  have HZ : Hid (Bytes z) := by rw [← hz]; exact fun z hz => hM z (List.mem_of_mem_take hz)
  have hy260 : y.length ≤ 65536 := by rw [← hy, List.length_take]; omega
  go_enter Try.func9, Try.ntmps9
  go_wp2_with fail
  refine (shown_any _).mono ?_
  rintro e w90 ⟨rfl, hb90⟩
  replace X0 := Lib.hid (X0.out.later hb90)
  replace Y0 := Lib.hid (Y0.out.later hb90)
  replace T := Below.two T hb90
  clear hb90
  obtain ⟨k0X0, k1X0, f0X0, f1X0⟩ := X0.out.two
  have kzX0 := X0.out.lt
  obtain ⟨k0Y0, k1Y0, f0Y0, f1Y0⟩ := Y0.out.two
  have kzY0 := Y0.out.lt
  go_wp2_with fail
  refine (Few_any _ b l hl).mono ?_
  rintro e w91 ⟨rfl, hb91⟩
  rw [hy]
  clear k0X0 k1X0 f0X0 f1X0 kzX0 k0Y0 k1Y0 f0Y0 f1Y0 kzY0
  replace X0 := Lib.hid (X0.out.later hb91)
  replace Y0 := Lib.hid (Y0.out.later hb91)
  replace T := Below.two T hb91
  clear hb91
  obtain ⟨k0X0, k1X0, f0X0, f1X0⟩ := X0.out.two
  have kzX0 := X0.out.lt
  obtain ⟨k0Y0, k1Y0, f0Y0, f1Y0⟩ := Y0.out.two
  have kzY0 := Y0.out.lt
  go_wp2_with fail
  clear k0X0 k1X0 f0X0 f1X0 kzX0 k0Y0 k1Y0 f0Y0 f1Y0 kzY0
  replace X0 := Lib.hid ((X0.out.set_ 0 (.int .i64 b)).set_ 1 (.string (bs y)))
  replace Y0 := Lib.hid ((Y0.out.far (p := ⟨w.heap.size, 0, none⟩) (by show w.heap.size + 1 ≠ w.heap.size; omega) (.int .i64 b)).far (p := ⟨w.heap.size, 1, none⟩) (by show w.heap.size + 1 ≠ w.heap.size; omega) (.string (bs y)))
  replace T := (T.setCell (p := ⟨w.heap.size, 0, none⟩) (by show w.heap.size ≤ w.heap.size; omega) (.int .i64 b)).setCell (p := ⟨w.heap.size, 1, none⟩) (by show w.heap.size ≤ w.heap.size; omega) (.string (bs y))
  generalize ((w91.setCell ⟨w.heap.size, 0, none⟩ (.int .i64 b)).setCell ⟨w.heap.size, 1, none⟩ (.string (bs y))) = V0 at *
  refine (Few_any _ c m hm).mono ?_
  rintro e w92 ⟨rfl, hb92⟩
  rw [hz]
  replace X0 := Lib.hid (X0.out.later hb92)
  replace Y0 := Lib.hid (Y0.out.later hb92)
  replace T := Below.two T hb92
  clear hb92
  obtain ⟨k0X0, k1X0, f0X0, f1X0⟩ := X0.out.two
  have kzX0 := X0.out.lt
  obtain ⟨k0Y0, k1Y0, f0Y0, f1Y0⟩ := Y0.out.two
  have kzY0 := Y0.out.lt
  go_wp2_with fail
  clear k0X0 k1X0 f0X0 f1X0 kzX0 k0Y0 k1Y0 f0Y0 f1Y0 kzY0
  replace X0 := Lib.hid ((X0.out.far (p := ⟨w.heap.size + 1, 0, none⟩) (by show w.heap.size ≠ w.heap.size + 1; omega) (.int .i64 c)).far (p := ⟨w.heap.size + 1, 1, none⟩) (by show w.heap.size ≠ w.heap.size + 1; omega) (.string (bs z)))
  replace Y0 := Lib.hid ((Y0.out.set_ 0 (.int .i64 c)).set_ 1 (.string (bs z)))
  replace T := (T.setCell (p := ⟨w.heap.size + 1, 0, none⟩) (by show w.heap.size ≤ w.heap.size + 1; omega) (.int .i64 c)).setCell (p := ⟨w.heap.size + 1, 1, none⟩) (by show w.heap.size ≤ w.heap.size + 1; omega) (.string (bs z))
  generalize ((w92.setCell ⟨w.heap.size + 1, 0, none⟩ (.int .i64 c)).setCell ⟨w.heap.size + 1, 1, none⟩ (.string (bs z))) = V9 at *
  obtain ⟨k0X0, k1X0, f0X0, f1X0⟩ := X0.out.two
  have kzX0 := X0.out.lt
  obtain ⟨k0Y0, k1Y0, f0Y0, f1Y0⟩ := Y0.out.two
  have kzY0 := Y0.out.lt
  go_wp2_with fail
  refine (merge_any b c y z HY.out HZ.out _).mono ?_
  rintro e w1 ⟨rfl, hb1⟩
  clear k0X0 k1X0 f0X0 f1X0 kzX0 k0Y0 k1Y0 f0Y0 f1Y0 kzY0
  replace X0 := Lib.hid (X0.out.later hb1)
  replace Y0 := Lib.hid (Y0.out.later hb1)
  replace T := Below.two T hb1
  obtain ⟨r1, hr1⟩ : ∃ r, mergeH b y c z = r := ⟨_, rfl⟩
  rw [hr1]
  have HR1 := Lib.hid hr1
  clear hr1 hb1
  obtain ⟨k0X0, k1X0, f0X0, f1X0⟩ := X0.out.two
  have kzX0 := X0.out.lt
  obtain ⟨k0Y0, k1Y0, f0Y0, f1Y0⟩ := Y0.out.two
  have kzY0 := Y0.out.lt
  go_wp2_with fail
  clear k0X0 k1X0 f0X0 f1X0 kzX0 k0Y0 k1Y0 f0Y0 f1Y0 kzY0
  replace X0 := Lib.hid (X0.out.alloc (.cells #[.int .i64 r1.b, .string (bs r1.l)] 23))
  replace Y0 := Lib.hid (Y0.out.alloc (.cells #[.int .i64 r1.b, .string (bs r1.l)] 23))
  replace T := below_al T (.cells #[.int .i64 r1.b, .string (bs r1.l)] 23)
  have X1 := Lib.hid (Blk.new w1 23 #[.int .i64 r1.b, .string (bs r1.l)])
  generalize w1.alloc (.cells #[.int .i64 r1.b, .string (bs r1.l)] 23) = V1 at *
  refine (rmerge_any b c y z HY.out HZ.out _).mono ?_
  rintro e w2 ⟨rfl, hb2⟩
  replace X0 := Lib.hid (X0.out.later hb2)
  replace Y0 := Lib.hid (Y0.out.later hb2)
  replace X1 := Lib.hid (X1.out.later hb2)
  replace T := Below.two T hb2
  obtain ⟨r2, hr2⟩ : ∃ r, mergeH b y c z = r := ⟨_, rfl⟩
  rw [hr2]
  have HR2 := Lib.hid hr2
  clear hr2 hb2
  obtain ⟨k0X0, k1X0, f0X0, f1X0⟩ := X0.out.two
  have kzX0 := X0.out.lt
  obtain ⟨k0Y0, k1Y0, f0Y0, f1Y0⟩ := Y0.out.two
  have kzY0 := Y0.out.lt
  obtain ⟨k0X1, k1X1, f0X1, f1X1⟩ := X1.out.two
  have kzX1 := X1.out.lt
  go_wp2_with fail
  clear k0X0 k1X0 f0X0 f1X0 kzX0 k0Y0 k1Y0 f0Y0 f1Y0 kzY0 k0X1 k1X1 f0X1 f1X1 kzX1
  replace X0 := Lib.hid (X0.out.alloc (.cells #[.int .i64 r2.b, .string (bs r2.l)] 23))
  replace Y0 := Lib.hid (Y0.out.alloc (.cells #[.int .i64 r2.b, .string (bs r2.l)] 23))
  replace X1 := Lib.hid (X1.out.alloc (.cells #[.int .i64 r2.b, .string (bs r2.l)] 23))
  replace T := below_al T (.cells #[.int .i64 r2.b, .string (bs r2.l)] 23)
  have X2 := Lib.hid (Blk.new w2 23 #[.int .i64 r2.b, .string (bs r2.l)])
  generalize w2.alloc (.cells #[.int .i64 r2.b, .string (bs r2.l)] 23) = V2 at *
  refine (lower_any b y HY.out _).mono ?_
  rintro e w3 ⟨rfl, hb3⟩
  replace X0 := Lib.hid (X0.out.later hb3)
  replace Y0 := Lib.hid (Y0.out.later hb3)
  replace X1 := Lib.hid (X1.out.later hb3)
  replace X2 := Lib.hid (X2.out.later hb3)
  replace T := Below.two T hb3
  obtain ⟨r3, hr3⟩ : ∃ r, lowerH b y = r := ⟨_, rfl⟩
  rw [hr3]
  have HR3 := Lib.hid hr3
  clear hr3 hb3
  obtain ⟨k0X0, k1X0, f0X0, f1X0⟩ := X0.out.two
  have kzX0 := X0.out.lt
  obtain ⟨k0Y0, k1Y0, f0Y0, f1Y0⟩ := Y0.out.two
  have kzY0 := Y0.out.lt
  obtain ⟨k0X1, k1X1, f0X1, f1X1⟩ := X1.out.two
  have kzX1 := X1.out.lt
  obtain ⟨k0X2, k1X2, f0X2, f1X2⟩ := X2.out.two
  have kzX2 := X2.out.lt
  go_wp2_with fail
  clear k0X0 k1X0 f0X0 f1X0 kzX0 k0Y0 k1Y0 f0Y0 f1Y0 kzY0 k0X1 k1X1 f0X1 f1X1 kzX1 k0X2 k1X2 f0X2 f1X2 kzX2
  replace X0 := Lib.hid (X0.out.alloc (.cells #[.int .i64 r3.b, .string (bs r3.l)] 23))
  replace Y0 := Lib.hid (Y0.out.alloc (.cells #[.int .i64 r3.b, .string (bs r3.l)] 23))
  replace X1 := Lib.hid (X1.out.alloc (.cells #[.int .i64 r3.b, .string (bs r3.l)] 23))
  replace X2 := Lib.hid (X2.out.alloc (.cells #[.int .i64 r3.b, .string (bs r3.l)] 23))
  replace T := below_al T (.cells #[.int .i64 r3.b, .string (bs r3.l)] 23)
  have X3 := Lib.hid (Blk.new w3 23 #[.int .i64 r3.b, .string (bs r3.l)])
  generalize w3.alloc (.cells #[.int .i64 r3.b, .string (bs r3.l)] 23) = V3 at *
  refine (rlower_any b y HY.out _).mono ?_
  rintro e w4 ⟨rfl, hb4⟩
  replace X0 := Lib.hid (X0.out.later hb4)
  replace Y0 := Lib.hid (Y0.out.later hb4)
  replace X1 := Lib.hid (X1.out.later hb4)
  replace X2 := Lib.hid (X2.out.later hb4)
  replace X3 := Lib.hid (X3.out.later hb4)
  replace T := Below.two T hb4
  obtain ⟨r4, hr4⟩ : ∃ r, lowerH b y = r := ⟨_, rfl⟩
  rw [hr4]
  have HR4 := Lib.hid hr4
  clear hr4 hb4
  obtain ⟨k0X0, k1X0, f0X0, f1X0⟩ := X0.out.two
  have kzX0 := X0.out.lt
  obtain ⟨k0Y0, k1Y0, f0Y0, f1Y0⟩ := Y0.out.two
  have kzY0 := Y0.out.lt
  obtain ⟨k0X1, k1X1, f0X1, f1X1⟩ := X1.out.two
  have kzX1 := X1.out.lt
  obtain ⟨k0X2, k1X2, f0X2, f1X2⟩ := X2.out.two
  have kzX2 := X2.out.lt
  obtain ⟨k0X3, k1X3, f0X3, f1X3⟩ := X3.out.two
  have kzX3 := X3.out.lt
  go_wp2_with fail
  clear k0X0 k1X0 f0X0 f1X0 kzX0 k0Y0 k1Y0 f0Y0 f1Y0 kzY0 k0X1 k1X1 f0X1 f1X1 kzX1 k0X2 k1X2 f0X2 f1X2 kzX2 k0X3 k1X3 f0X3 f1X3 kzX3
  replace X0 := Lib.hid (X0.out.alloc (.cells #[.int .i64 r4.b, .string (bs r4.l)] 23))
  replace Y0 := Lib.hid (Y0.out.alloc (.cells #[.int .i64 r4.b, .string (bs r4.l)] 23))
  replace X1 := Lib.hid (X1.out.alloc (.cells #[.int .i64 r4.b, .string (bs r4.l)] 23))
  replace X2 := Lib.hid (X2.out.alloc (.cells #[.int .i64 r4.b, .string (bs r4.l)] 23))
  replace X3 := Lib.hid (X3.out.alloc (.cells #[.int .i64 r4.b, .string (bs r4.l)] 23))
  replace T := below_al T (.cells #[.int .i64 r4.b, .string (bs r4.l)] 23)
  have X4 := Lib.hid (Blk.new w4 23 #[.int .i64 r4.b, .string (bs r4.l)])
  generalize w4.alloc (.cells #[.int .i64 r4.b, .string (bs r4.l)] 23) = V4 at *
  have e12 : r2 = r1 := HR2.out.symm.trans HR1.out
  have e34 : r4 = r3 := HR4.out.symm.trans HR3.out
  subst e12 e34
  have F0X0 := After.cell (X0.out.cell 0) X0.out.lt
  have F1X0 := After.cell (X0.out.cell 1) X0.out.lt
  have F0Y0 := After.cell (Y0.out.cell 0) Y0.out.lt
  have F1Y0 := After.cell (Y0.out.cell 1) Y0.out.lt
  have F0X1 := After.cell (X1.out.cell 0) X1.out.lt
  have F1X1 := After.cell (X1.out.cell 1) X1.out.lt
  have F0X2 := After.cell (X2.out.cell 0) X2.out.lt
  have F1X2 := After.cell (X2.out.cell 1) X2.out.lt
  have F0X3 := After.cell (X3.out.cell 0) X3.out.lt
  have F1X3 := After.cell (X3.out.cell 1) X3.out.lt
  have F0X4 := After.cell (X4.out.cell 0) X4.out.lt
  have F1X4 := After.cell (X4.out.cell 1) X4.out.lt
  haveI := After.some V4
  have C1 : Hid (∀ x : After V4, Calls Try.prog 24 #[hV b y] x.at_ fun e w' => e = .returned (.int .u64 ((countF b y : Nat) : Int)) ∧ Below x.at_.heap.size x.at_ w') := fun x => count_any b y HY.out x.at_
  have C2 : Hid (∀ x : After V4, Calls Try.prog 28 #[hV b y] x.at_ fun e w' => e = .returned (.int .u64 ((countF b y : Nat) : Int)) ∧ Below x.at_.heap.size x.at_ w') := fun x => rcount_any b y HY.out hy260 x.at_
  refine wp_region_below (by kernel_rfl) (by kernel_rfl) ?_
  repeat (go_big_quiet_step (first | with_reducible exact after_calls (C1.out _) | with_reducible exact after_calls (C2.out _)))
  refine wpQuiet_nil ?_
  rintro _ ⟨⟨w9, hb9⟩, rfl⟩
  go_wp2_with fail
  go_ret
  exact ⟨rfl, Below.two T hb9⟩
end Go.Proofs.Ytgbanhjjieagnaa

/-
  The walk of the law aviarylaw07.HllMakes: call by call, each callee by its contract.
-/
import Derived.Test.YtgbanhjjieagnaaHllShown
import Derived.Test.YtgbanhjjieagnaaHllRef5
import Derived.Test.YtgbanhjjieagnaaQuiet
import Derived.Test.YtgbanhjjieagnaaHllLaws
namespace Go.Proofs.Ytgbanhjjieagnaa
open Go.RowKit
set_option linter.unusedVariables false
set_option maxRecDepth 100000 in
set_option maxHeartbeats 4000000 in
theorem makes_walk (w : World) (b : Int) (l : List Nat) (hL : Bytes l) (hl : l.length ≤ 9223372036854775807) (bits : Int) (a : Option Addr) (nx cap : Nat) (x : List Int) (hU : Us x) (hsl : Sl w w.heap.size a x) (hk : (min (nx : Int) 100).toNat = x.length) (hq : x.length ≤ cap) (hm : cap ≤ 9223372036854775807) (hx : x.length ≤ 100) (n : Nat) (hn : n < 18446744073709551616) :
    Calls Try.prog 3 #[hV b l, .int .i64 bits, .slice a nx cap, .int .u64 n] w fun e w' => e = .returned (.bool true) ∧ Below w.heap.size w w' := by
  have T : Below w.heap.size w (w.alloc (.cells #[.int .i64 b, .string (bs l)] 23)) := below_al (below_0 _) _
  have SX := Lib.hid (hsl.later T)
  have X0 := Lib.hid (Blk.new w 23 #[.int .i64 b, .string (bs l)])
  have HK := Lib.hid hk
  obtain ⟨y, hy⟩ : ∃ y, l.take 260 = y := ⟨_, rfl⟩
  have HY : Hid (Bytes y) := by rw [← hy]; exact fun z hz => hL z (List.mem_of_mem_take hz)
  clear hsl hk
  go_enter Try.func3, Try.ntmps3
  go_wp2_with fail
  refine (shown_any _).mono ?_
  rintro e w90 ⟨rfl, hb90⟩
  replace SX := Lib.hid (SX.out.later hb90)
  replace X0 := Lib.hid (X0.out.later hb90)
  replace T := Below.two T hb90
  clear hb90
  obtain ⟨k0X0, k1X0, f0X0, f1X0⟩ := X0.out.two
  have kzX0 := X0.out.lt
  go_wp2_with fail
  refine (Few_any _ b l hl).mono ?_
  rintro e w91 ⟨rfl, hb91⟩
  rw [hy]
  clear k0X0 k1X0 f0X0 f1X0 kzX0
  replace SX := Lib.hid (SX.out.later hb91)
  replace X0 := Lib.hid (X0.out.later hb91)
  replace T := Below.two T hb91
  clear hb91
  obtain ⟨k0X0, k1X0, f0X0, f1X0⟩ := X0.out.two
  have kzX0 := X0.out.lt
  go_wp2_with fail
  clear k0X0 k1X0 f0X0 f1X0 kzX0
  replace SX := Lib.hid (sl_set2 SX.out X0.out (.int .i64 b) (.string (bs y)))
  replace X0 := Lib.hid ((X0.out.set_ 0 (.int .i64 b)).set_ 1 (.string (bs y)))
  replace T := (T.setCell (p := ⟨w.heap.size, 0, none⟩) (by show w.heap.size ≤ w.heap.size; omega) (.int .i64 b)).setCell (p := ⟨w.heap.size, 1, none⟩) (by show w.heap.size ≤ w.heap.size; omega) (.string (bs y))
  generalize ((w91.setCell ⟨w.heap.size, 0, none⟩ (.int .i64 b)).setCell ⟨w.heap.size, 1, none⟩ (.string (bs y))) = V0 at *
  refine (few_any _ nx cap a x HK.out hq hm).mono ?_
  rintro e w' ⟨rfl, rfl⟩
  go_wp2_with fail
  refine (of_any bits a x cap hU (by omega) _ SX.out).mono ?_
  rintro e w1 ⟨rfl, hb1⟩
  replace SX := Lib.hid (SX.out.later hb1)
  replace X0 := Lib.hid (X0.out.later hb1)
  replace T := Below.two T hb1
  obtain ⟨r1, hr1⟩ : ∃ r, ofH bits x = r := ⟨_, rfl⟩
  rw [hr1]
  have HR1 := Lib.hid hr1
  clear hr1 hb1
  obtain ⟨k0X0, k1X0, f0X0, f1X0⟩ := X0.out.two
  have kzX0 := X0.out.lt
  go_wp2_with fail
  clear k0X0 k1X0 f0X0 f1X0 kzX0
  replace SX := Lib.hid (SX.out.later (below_al (below_0 _) (.cells #[.int .i64 r1.b, .string (bs r1.l)] 23)))
  replace X0 := Lib.hid (X0.out.alloc (.cells #[.int .i64 r1.b, .string (bs r1.l)] 23))
  replace T := below_al T (.cells #[.int .i64 r1.b, .string (bs r1.l)] 23)
  have X1 := Lib.hid (Blk.new w1 23 #[.int .i64 r1.b, .string (bs r1.l)])
  generalize w1.alloc (.cells #[.int .i64 r1.b, .string (bs r1.l)] 23) = V1 at *
  refine (few_any _ nx cap a x HK.out hq hm).mono ?_
  rintro e w' ⟨rfl, rfl⟩
  go_wp2_with fail
  refine (rof_any bits a x cap hU (by omega) _ SX.out).mono ?_
  rintro e w2 ⟨rfl, hb2⟩
  replace SX := Lib.hid (SX.out.later hb2)
  replace X0 := Lib.hid (X0.out.later hb2)
  replace X1 := Lib.hid (X1.out.later hb2)
  replace T := Below.two T hb2
  obtain ⟨r2, hr2⟩ : ∃ r, ofH bits x = r := ⟨_, rfl⟩
  rw [hr2]
  have HR2 := Lib.hid hr2
  clear hr2 hb2
  obtain ⟨k0X0, k1X0, f0X0, f1X0⟩ := X0.out.two
  have kzX0 := X0.out.lt
  obtain ⟨k0X1, k1X1, f0X1, f1X1⟩ := X1.out.two
  have kzX1 := X1.out.lt
  go_wp2_with fail
  clear k0X0 k1X0 f0X0 f1X0 kzX0 k0X1 k1X1 f0X1 f1X1 kzX1
  replace SX := Lib.hid (SX.out.later (below_al (below_0 _) (.cells #[.int .i64 r2.b, .string (bs r2.l)] 23)))
  replace X0 := Lib.hid (X0.out.alloc (.cells #[.int .i64 r2.b, .string (bs r2.l)] 23))
  replace X1 := Lib.hid (X1.out.alloc (.cells #[.int .i64 r2.b, .string (bs r2.l)] 23))
  replace T := below_al T (.cells #[.int .i64 r2.b, .string (bs r2.l)] 23)
  have X2 := Lib.hid (Blk.new w2 23 #[.int .i64 r2.b, .string (bs r2.l)])
  generalize w2.alloc (.cells #[.int .i64 r2.b, .string (bs r2.l)] 23) = V2 at *
  refine (add_any b y HY.out n hn _).mono ?_
  rintro e w3 ⟨rfl, hb3⟩
  replace SX := Lib.hid (SX.out.later hb3)
  replace X0 := Lib.hid (X0.out.later hb3)
  replace X1 := Lib.hid (X1.out.later hb3)
  replace X2 := Lib.hid (X2.out.later hb3)
  replace T := Below.two T hb3
  obtain ⟨r3, hr3⟩ : ∃ r, addH b y n = r := ⟨_, rfl⟩
  rw [hr3]
  have HR3 := Lib.hid hr3
  clear hr3 hb3
  obtain ⟨k0X0, k1X0, f0X0, f1X0⟩ := X0.out.two
  have kzX0 := X0.out.lt
  obtain ⟨k0X1, k1X1, f0X1, f1X1⟩ := X1.out.two
  have kzX1 := X1.out.lt
  obtain ⟨k0X2, k1X2, f0X2, f1X2⟩ := X2.out.two
  have kzX2 := X2.out.lt
  go_wp2_with fail
  clear k0X0 k1X0 f0X0 f1X0 kzX0 k0X1 k1X1 f0X1 f1X1 kzX1 k0X2 k1X2 f0X2 f1X2 kzX2
  replace SX := Lib.hid (SX.out.later (below_al (below_0 _) (.cells #[.int .i64 r3.b, .string (bs r3.l)] 23)))
  replace X0 := Lib.hid (X0.out.alloc (.cells #[.int .i64 r3.b, .string (bs r3.l)] 23))
  replace X1 := Lib.hid (X1.out.alloc (.cells #[.int .i64 r3.b, .string (bs r3.l)] 23))
  replace X2 := Lib.hid (X2.out.alloc (.cells #[.int .i64 r3.b, .string (bs r3.l)] 23))
  replace T := below_al T (.cells #[.int .i64 r3.b, .string (bs r3.l)] 23)
  have X3 := Lib.hid (Blk.new w3 23 #[.int .i64 r3.b, .string (bs r3.l)])
  generalize w3.alloc (.cells #[.int .i64 r3.b, .string (bs r3.l)] 23) = V3 at *
  refine (radd_any b y HY.out n hn _).mono ?_
  rintro e w4 ⟨rfl, hb4⟩
  replace SX := Lib.hid (SX.out.later hb4)
  replace X0 := Lib.hid (X0.out.later hb4)
  replace X1 := Lib.hid (X1.out.later hb4)
  replace X2 := Lib.hid (X2.out.later hb4)
  replace X3 := Lib.hid (X3.out.later hb4)
  replace T := Below.two T hb4
  obtain ⟨r4, hr4⟩ : ∃ r, addH b y n = r := ⟨_, rfl⟩
  rw [hr4]
  have HR4 := Lib.hid hr4
  clear hr4 hb4
  obtain ⟨k0X0, k1X0, f0X0, f1X0⟩ := X0.out.two
  have kzX0 := X0.out.lt
  obtain ⟨k0X1, k1X1, f0X1, f1X1⟩ := X1.out.two
  have kzX1 := X1.out.lt
  obtain ⟨k0X2, k1X2, f0X2, f1X2⟩ := X2.out.two
  have kzX2 := X2.out.lt
  obtain ⟨k0X3, k1X3, f0X3, f1X3⟩ := X3.out.two
  have kzX3 := X3.out.lt
  go_wp2_with fail
  clear k0X0 k1X0 f0X0 f1X0 kzX0 k0X1 k1X1 f0X1 f1X1 kzX1 k0X2 k1X2 f0X2 f1X2 kzX2 k0X3 k1X3 f0X3 f1X3 kzX3
  replace SX := Lib.hid (SX.out.later (below_al (below_0 _) (.cells #[.int .i64 r4.b, .string (bs r4.l)] 23)))
  replace X0 := Lib.hid (X0.out.alloc (.cells #[.int .i64 r4.b, .string (bs r4.l)] 23))
  replace X1 := Lib.hid (X1.out.alloc (.cells #[.int .i64 r4.b, .string (bs r4.l)] 23))
  replace X2 := Lib.hid (X2.out.alloc (.cells #[.int .i64 r4.b, .string (bs r4.l)] 23))
  replace X3 := Lib.hid (X3.out.alloc (.cells #[.int .i64 r4.b, .string (bs r4.l)] 23))
  replace T := below_al T (.cells #[.int .i64 r4.b, .string (bs r4.l)] 23)
  have X4 := Lib.hid (Blk.new w4 23 #[.int .i64 r4.b, .string (bs r4.l)])
  generalize w4.alloc (.cells #[.int .i64 r4.b, .string (bs r4.l)] 23) = V4 at *
  refine (place_any bits n hn _).mono ?_
  rintro e w' ⟨rfl, rfl⟩
  go_wp2_with fail
  refine (rplace_any bits n hn _).mono ?_
  rintro e w' ⟨rfl, rfl⟩
  go_wp2_with fail
  refine (new_any bits _).mono ?_
  rintro e w5 ⟨rfl, hb5⟩
  replace SX := Lib.hid (SX.out.later hb5)
  replace X0 := Lib.hid (X0.out.later hb5)
  replace X1 := Lib.hid (X1.out.later hb5)
  replace X2 := Lib.hid (X2.out.later hb5)
  replace X3 := Lib.hid (X3.out.later hb5)
  replace X4 := Lib.hid (X4.out.later hb5)
  replace T := Below.two T hb5
  obtain ⟨r5, hr5⟩ : ∃ r, ofH bits [] = r := ⟨_, rfl⟩
  rw [hr5]
  have HR5 := Lib.hid hr5
  clear hr5 hb5
  obtain ⟨k0X0, k1X0, f0X0, f1X0⟩ := X0.out.two
  have kzX0 := X0.out.lt
  obtain ⟨k0X1, k1X1, f0X1, f1X1⟩ := X1.out.two
  have kzX1 := X1.out.lt
  obtain ⟨k0X2, k1X2, f0X2, f1X2⟩ := X2.out.two
  have kzX2 := X2.out.lt
  obtain ⟨k0X3, k1X3, f0X3, f1X3⟩ := X3.out.two
  have kzX3 := X3.out.lt
  obtain ⟨k0X4, k1X4, f0X4, f1X4⟩ := X4.out.two
  have kzX4 := X4.out.lt
  go_wp2_with fail
  clear k0X0 k1X0 f0X0 f1X0 kzX0 k0X1 k1X1 f0X1 f1X1 kzX1 k0X2 k1X2 f0X2 f1X2 kzX2 k0X3 k1X3 f0X3 f1X3 kzX3 k0X4 k1X4 f0X4 f1X4 kzX4
  replace SX := Lib.hid (SX.out.later (below_al (below_0 _) (.cells #[.int .i64 r5.b, .string (bs r5.l)] 23)))
  replace X0 := Lib.hid (X0.out.alloc (.cells #[.int .i64 r5.b, .string (bs r5.l)] 23))
  replace X1 := Lib.hid (X1.out.alloc (.cells #[.int .i64 r5.b, .string (bs r5.l)] 23))
  replace X2 := Lib.hid (X2.out.alloc (.cells #[.int .i64 r5.b, .string (bs r5.l)] 23))
  replace X3 := Lib.hid (X3.out.alloc (.cells #[.int .i64 r5.b, .string (bs r5.l)] 23))
  replace X4 := Lib.hid (X4.out.alloc (.cells #[.int .i64 r5.b, .string (bs r5.l)] 23))
  replace T := below_al T (.cells #[.int .i64 r5.b, .string (bs r5.l)] 23)
  have X5 := Lib.hid (Blk.new w5 23 #[.int .i64 r5.b, .string (bs r5.l)])
  generalize w5.alloc (.cells #[.int .i64 r5.b, .string (bs r5.l)] 23) = V5 at *
  refine (rnew_any bits _).mono ?_
  rintro e w6 ⟨rfl, hb6⟩
  replace SX := Lib.hid (SX.out.later hb6)
  replace X0 := Lib.hid (X0.out.later hb6)
  replace X1 := Lib.hid (X1.out.later hb6)
  replace X2 := Lib.hid (X2.out.later hb6)
  replace X3 := Lib.hid (X3.out.later hb6)
  replace X4 := Lib.hid (X4.out.later hb6)
  replace X5 := Lib.hid (X5.out.later hb6)
  replace T := Below.two T hb6
  obtain ⟨r6, hr6⟩ : ∃ r, ofH bits [] = r := ⟨_, rfl⟩
  rw [hr6]
  have HR6 := Lib.hid hr6
  clear hr6 hb6
  obtain ⟨k0X0, k1X0, f0X0, f1X0⟩ := X0.out.two
  have kzX0 := X0.out.lt
  obtain ⟨k0X1, k1X1, f0X1, f1X1⟩ := X1.out.two
  have kzX1 := X1.out.lt
  obtain ⟨k0X2, k1X2, f0X2, f1X2⟩ := X2.out.two
  have kzX2 := X2.out.lt
  obtain ⟨k0X3, k1X3, f0X3, f1X3⟩ := X3.out.two
  have kzX3 := X3.out.lt
  obtain ⟨k0X4, k1X4, f0X4, f1X4⟩ := X4.out.two
  have kzX4 := X4.out.lt
  obtain ⟨k0X5, k1X5, f0X5, f1X5⟩ := X5.out.two
  have kzX5 := X5.out.lt
  go_wp2_with fail
  clear k0X0 k1X0 f0X0 f1X0 kzX0 k0X1 k1X1 f0X1 f1X1 kzX1 k0X2 k1X2 f0X2 f1X2 kzX2 k0X3 k1X3 f0X3 f1X3 kzX3 k0X4 k1X4 f0X4 f1X4 kzX4 k0X5 k1X5 f0X5 f1X5 kzX5
  replace SX := Lib.hid (SX.out.later (below_al (below_0 _) (.cells #[.int .i64 r6.b, .string (bs r6.l)] 23)))
  replace X0 := Lib.hid (X0.out.alloc (.cells #[.int .i64 r6.b, .string (bs r6.l)] 23))
  replace X1 := Lib.hid (X1.out.alloc (.cells #[.int .i64 r6.b, .string (bs r6.l)] 23))
  replace X2 := Lib.hid (X2.out.alloc (.cells #[.int .i64 r6.b, .string (bs r6.l)] 23))
  replace X3 := Lib.hid (X3.out.alloc (.cells #[.int .i64 r6.b, .string (bs r6.l)] 23))
  replace X4 := Lib.hid (X4.out.alloc (.cells #[.int .i64 r6.b, .string (bs r6.l)] 23))
  replace X5 := Lib.hid (X5.out.alloc (.cells #[.int .i64 r6.b, .string (bs r6.l)] 23))
  replace T := below_al T (.cells #[.int .i64 r6.b, .string (bs r6.l)] 23)
  have X6 := Lib.hid (Blk.new w6 23 #[.int .i64 r6.b, .string (bs r6.l)])
  generalize w6.alloc (.cells #[.int .i64 r6.b, .string (bs r6.l)] 23) = V6 at *
  have e12 : r2 = r1 := HR2.out.symm.trans HR1.out
  have e34 : r4 = r3 := HR4.out.symm.trans HR3.out
  have e56 : r6 = r5 := HR6.out.symm.trans HR5.out
  subst e12 e34 e56
  have F0X0 := After.cell (X0.out.cell 0) X0.out.lt
  have F1X0 := After.cell (X0.out.cell 1) X0.out.lt
  have F0X1 := After.cell (X1.out.cell 0) X1.out.lt
  have F1X1 := After.cell (X1.out.cell 1) X1.out.lt
  have F0X2 := After.cell (X2.out.cell 0) X2.out.lt
  have F1X2 := After.cell (X2.out.cell 1) X2.out.lt
  have F0X3 := After.cell (X3.out.cell 0) X3.out.lt
  have F1X3 := After.cell (X3.out.cell 1) X3.out.lt
  have F0X4 := After.cell (X4.out.cell 0) X4.out.lt
  have F1X4 := After.cell (X4.out.cell 1) X4.out.lt
  have F0X5 := After.cell (X5.out.cell 0) X5.out.lt
  have F1X5 := After.cell (X5.out.cell 1) X5.out.lt
  have F0X6 := After.cell (X6.out.cell 0) X6.out.lt
  have F1X6 := After.cell (X6.out.cell 1) X6.out.lt
  haveI := After.some V6
  have C1 : Hid (∀ x : After V6, Calls Try.prog 21 #[hV b y] x.at_ fun e w' => e = .returned (.bool (rightF b y)) ∧ Below x.at_.heap.size x.at_ w') := fun x => right_any b y HY.out x.at_
  have C2 : Hid (∀ x : After V6, Calls Try.prog 22 #[hV b y] x.at_ fun e w' => e = .returned (.bool (rightF b y)) ∧ Below x.at_.heap.size x.at_ w') := fun x => rright_any b y HY.out x.at_
  refine wp_region_below (by kernel_rfl) (by kernel_rfl) ?_
  repeat (go_big_quiet_step (first | with_reducible exact after_calls (C1.out _) | with_reducible exact after_calls (C2.out _)))
  refine wpQuiet_nil ?_
  rintro _ ⟨⟨w9, hb9⟩, rfl⟩
  go_wp2_with fail
  go_ret
  exact ⟨rfl, Below.two T hb9⟩
end Go.Proofs.Ytgbanhjjieagnaa

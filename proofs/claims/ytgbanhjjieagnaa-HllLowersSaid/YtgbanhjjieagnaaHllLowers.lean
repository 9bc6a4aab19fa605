/-
  The walk of the law aviarylaw07.HllLowers: call by call, each callee by its contract.
-/
import Derived.Test.YtgbanhjjieagnaaHllShown
import Derived.Test.YtgbanhjjieagnaaHllFacts
import Derived.Test.YtgbanhjjieagnaaQuiet
import Derived.Test.YtgbanhjjieagnaaHllLaws
namespace Go.Proofs.Ytgbanhjjieagnaa
open Go.RowKit
set_option linter.unusedVariables false
set_option linter.unusedSimpArgs false
theorem of_n (b : Int) (A : Option Addr) (ns : List Int) (n capn : Nat) (hl : ns.length = n) (hU : Us ns) (hn : n ≤ 65536) (w : World) (hS : Sl w w.heap.size A ns) :
    Calls Try.prog 12 #[.int .i64 b, .slice A n capn] w (HRes w (ofH b ns)) := by
  subst hl
  exact of_any b A ns capn hU hn w hS
set_option maxRecDepth 100000 in
set_option maxHeartbeats 4000000 in
theorem lowers_bad (w : World) (bits : Int) (ax : Option Addr) (nx capx : Nat) (x : List Int) (hUx : Us x) (hslx : Sl w w.heap.size ax x) (hkx : (min (nx : Int) 100).toNat = x.length) (hqx : x.length ≤ capx) (hmx : capx ≤ 9223372036854775807) (hxx : x.length ≤ 100) (ay : Option Addr) (ny capy : Nat) (y : List Int) (hUy : Us y) (hsly : Sl w w.heap.size ay y) (hky : (min (ny : Int) 100).toNat = y.length) (hqy : y.length ≤ capy) (hmy : capy ≤ 9223372036854775807) (hxy : y.length ≤ 100) (hb : bits < 4 ∨ 8 < bits) :
    Calls Try.prog 7 #[.int .i64 bits, .slice ax nx capx, .slice ay ny capy] w fun e w' => e = .returned (.bool true) ∧ Below w.heap.size w w' := by
  have T := below_0 w
  have Sx := Lib.hid hslx
  have HKx := Lib.hid hkx
  clear hslx hkx
  have Sy := Lib.hid hsly
  have HKy := Lib.hid hky
  clear hsly hky
  rcases hb with hb | hb
  · have d1 : decide (bits < 4) = true := by simpa using hb
    clear hb
    go_enter Try.func7, Try.ntmps7
    go_wp2_with fail
    refine (shown_any _).mono ?_
    rintro e w90 ⟨rfl, hb90⟩
    replace Sx := Lib.hid (Sx.out.later hb90)
    replace Sy := Lib.hid (Sy.out.later hb90)
    replace T := Below.two T hb90
    clear hb90
    go_wp2_with fail
    go_ret
    exact ⟨rfl, T⟩
  · have d1 : decide (bits < 4) = false := by simp; omega
    have d2 : decide (8 < bits) = true := by simpa using hb
    clear hb
    go_enter Try.func7, Try.ntmps7
    go_wp2_with fail
    refine (shown_any _).mono ?_
    rintro e w90 ⟨rfl, hb90⟩
    replace Sx := Lib.hid (Sx.out.later hb90)
    replace Sy := Lib.hid (Sy.out.later hb90)
    replace T := Below.two T hb90
    clear hb90
    go_wp2_with fail
    go_ret
    exact ⟨rfl, T⟩
set_option maxRecDepth 100000 in
set_option maxHeartbeats 4000000 in
theorem lowers_good (w : World) (B C : Nat) (h3 : 3 ≤ C) (h8 : B ≤ 8) (hC : B = C + 1) (ax : Option Addr) (nx capx : Nat) (x : List Int) (hUx : Us x) (hslx : Sl w w.heap.size ax x) (hkx : (min (nx : Int) 100).toNat = x.length) (hqx : x.length ≤ capx) (hmx : capx ≤ 9223372036854775807) (hxx : x.length ≤ 100) (ay : Option Addr) (ny capy : Nat) (y : List Int) (hUy : Us y) (hsly : Sl w w.heap.size ay y) (hky : (min (ny : Int) 100).toNat = y.length) (hqy : y.length ≤ capy) (hmy : capy ≤ 9223372036854775807) (hxy : y.length ≤ 100) :
    Calls Try.prog 7 #[.int .i64 B, .slice ax nx capx, .slice ay ny capy] w fun e w' => e = .returned (.bool true) ∧ Below w.heap.size w w' := by
  have T := below_0 w
  have Sx := Lib.hid hslx
  have HKx := Lib.hid hkx
  clear hslx hkx
  have Sy := Lib.hid hsly
  have HKy := Lib.hid hky
  clear hsly hky
  have hcb : (B : Int) - 1 = (C : Int) := by omega
  have d1 : decide ((B : Int) < 4) = false := by simp; omega
  have d2 : decide (8 < (B : Int)) = false := by simp; omega
  have HC := Lib.hid hC
  have b3 : 3 ≤ B := by omega
  have c8 : C ≤ 8 := by omega
  clear hC
  go_enter Try.func7, Try.ntmps7
  go_wp2_with fail
  refine (shown_any _).mono ?_
  rintro e w90 ⟨rfl, hb90⟩
  replace Sx := Lib.hid (Sx.out.later hb90)
  replace Sy := Lib.hid (Sy.out.later hb90)
  replace T := Below.two T hb90
  clear hb90
  go_wp2_with fail
  refine (few_any _ nx capx ax x HKx.out hqx hmx).mono ?_
  rintro e w' ⟨rfl, rfl⟩
  go_wp2_with fail
  refine (of_any B ax x capx hUx (by omega) _ Sx.out).mono ?_
  rintro e w1 ⟨rfl, hb1⟩
  replace Sx := Lib.hid (Sx.out.later hb1)
  replace Sy := Lib.hid (Sy.out.later hb1)
  replace T := Below.two T hb1
  rw [of_regs b3 h8 x]
  clear hb1
  go_wp2_with fail
  replace Sx := Lib.hid (Sx.out.later (below_al (below_0 _) (.cells #[.int .i64 B, .string (bs (regs B x))] 23)))
  replace Sy := Lib.hid (Sy.out.later (below_al (below_0 _) (.cells #[.int .i64 B, .string (bs (regs B x))] 23)))
  replace T := below_al T (.cells #[.int .i64 B, .string (bs (regs B x))] 23)
  have X1 := Lib.hid (Blk.new w1 23 #[.int .i64 B, .string (bs (regs B x))])
  generalize w1.alloc (.cells #[.int .i64 B, .string (bs (regs B x))] 23) = V1 at *
  refine (few_any _ ny capy ay y HKy.out hqy hmy).mono ?_
  rintro e w' ⟨rfl, rfl⟩
  go_wp2_with fail
  refine (of_any B ay y capy hUy (by omega) _ Sy.out).mono ?_
  rintro e w2 ⟨rfl, hb2⟩
  replace Sx := Lib.hid (Sx.out.later hb2)
  replace Sy := Lib.hid (Sy.out.later hb2)
  replace X1 := Lib.hid (X1.out.later hb2)
  replace T := Below.two T hb2
  rw [of_regs b3 h8 y]
  clear hb2
  obtain ⟨k0X1, k1X1, f0X1, f1X1⟩ := X1.out.two
  have kzX1 := X1.out.lt
  go_wp2_with fail
  clear k0X1 k1X1 f0X1 f1X1 kzX1
  replace Sx := Lib.hid (Sx.out.later (below_al (below_0 _) (.cells #[.int .i64 B, .string (bs (regs B y))] 23)))
  replace Sy := Lib.hid (Sy.out.later (below_al (below_0 _) (.cells #[.int .i64 B, .string (bs (regs B y))] 23)))
  replace X1 := Lib.hid (X1.out.alloc (.cells #[.int .i64 B, .string (bs (regs B y))] 23))
  replace T := below_al T (.cells #[.int .i64 B, .string (bs (regs B y))] 23)
  have X2 := Lib.hid (Blk.new w2 23 #[.int .i64 B, .string (bs (regs B y))])
  generalize w2.alloc (.cells #[.int .i64 B, .string (bs (regs B y))] 23) = V2 at *
  refine (lower_any B (regs B x) (bytes_regs b3 h8 _) _).mono ?_
  rintro e w3 ⟨rfl, hb3⟩
  replace Sx := Lib.hid (Sx.out.later hb3)
  replace Sy := Lib.hid (Sy.out.later hb3)
  replace X1 := Lib.hid (X1.out.later hb3)
  replace X2 := Lib.hid (X2.out.later hb3)
  replace T := Below.two T hb3
  rw [lowerH_regs2 h3 h8 HC.out x]
  clear hb3
  obtain ⟨k0X1, k1X1, f0X1, f1X1⟩ := X1.out.two
  have kzX1 := X1.out.lt
  obtain ⟨k0X2, k1X2, f0X2, f1X2⟩ := X2.out.two
  have kzX2 := X2.out.lt
  go_wp2_with fail
  clear k0X1 k1X1 f0X1 f1X1 kzX1 k0X2 k1X2 f0X2 f1X2 kzX2
  replace Sx := Lib.hid (Sx.out.later (below_al (below_0 _) (.cells #[.int .i64 C, .string (bs (regs C x))] 23)))
  replace Sy := Lib.hid (Sy.out.later (below_al (below_0 _) (.cells #[.int .i64 C, .string (bs (regs C x))] 23)))
  replace X1 := Lib.hid (X1.out.alloc (.cells #[.int .i64 C, .string (bs (regs C x))] 23))
  replace X2 := Lib.hid (X2.out.alloc (.cells #[.int .i64 C, .string (bs (regs C x))] 23))
  replace T := below_al T (.cells #[.int .i64 C, .string (bs (regs C x))] 23)
  have X3 := Lib.hid (Blk.new w3 23 #[.int .i64 C, .string (bs (regs C x))])
  generalize w3.alloc (.cells #[.int .i64 C, .string (bs (regs C x))] 23) = V3 at *
  refine (few_any _ nx capx ax x HKx.out hqx hmx).mono ?_
  rintro e w' ⟨rfl, rfl⟩
  go_wp2_with fail
  refine (of_any C ax x capx hUx (by omega) _ Sx.out).mono ?_
  rintro e w4 ⟨rfl, hb4⟩
  replace Sx := Lib.hid (Sx.out.later hb4)
  replace Sy := Lib.hid (Sy.out.later hb4)
  replace X1 := Lib.hid (X1.out.later hb4)
  replace X2 := Lib.hid (X2.out.later hb4)
  replace X3 := Lib.hid (X3.out.later hb4)
  replace T := Below.two T hb4
  rw [of_regs h3 c8 x]
  clear hb4
  obtain ⟨k0X1, k1X1, f0X1, f1X1⟩ := X1.out.two
  have kzX1 := X1.out.lt
  obtain ⟨k0X2, k1X2, f0X2, f1X2⟩ := X2.out.two
  have kzX2 := X2.out.lt
  obtain ⟨k0X3, k1X3, f0X3, f1X3⟩ := X3.out.two
  have kzX3 := X3.out.lt
  go_wp2_with fail
  clear k0X1 k1X1 f0X1 f1X1 kzX1 k0X2 k1X2 f0X2 f1X2 kzX2 k0X3 k1X3 f0X3 f1X3 kzX3
  replace Sx := Lib.hid (Sx.out.later (below_al (below_0 _) (.cells #[.int .i64 C, .string (bs (regs C x))] 23)))
  replace Sy := Lib.hid (Sy.out.later (below_al (below_0 _) (.cells #[.int .i64 C, .string (bs (regs C x))] 23)))
  replace X1 := Lib.hid (X1.out.alloc (.cells #[.int .i64 C, .string (bs (regs C x))] 23))
  replace X2 := Lib.hid (X2.out.alloc (.cells #[.int .i64 C, .string (bs (regs C x))] 23))
  replace X3 := Lib.hid (X3.out.alloc (.cells #[.int .i64 C, .string (bs (regs C x))] 23))
  replace T := below_al T (.cells #[.int .i64 C, .string (bs (regs C x))] 23)
  have X4 := Lib.hid (Blk.new w4 23 #[.int .i64 C, .string (bs (regs C x))])
  generalize w4.alloc (.cells #[.int .i64 C, .string (bs (regs C x))] 23) = V4 at *
  refine (lower_any B (regs B y) (bytes_regs b3 h8 _) _).mono ?_
  rintro e w5 ⟨rfl, hb5⟩
  replace Sx := Lib.hid (Sx.out.later hb5)
  replace Sy := Lib.hid (Sy.out.later hb5)
  replace X1 := Lib.hid (X1.out.later hb5)
  replace X2 := Lib.hid (X2.out.later hb5)
  replace X3 := Lib.hid (X3.out.later hb5)
  replace X4 := Lib.hid (X4.out.later hb5)
  replace T := Below.two T hb5
  rw [lowerH_regs2 h3 h8 HC.out y]
  clear hb5
  obtain ⟨k0X1, k1X1, f0X1, f1X1⟩ := X1.out.two
  have kzX1 := X1.out.lt
  obtain ⟨k0X2, k1X2, f0X2, f1X2⟩ := X2.out.two
  have kzX2 := X2.out.lt
  obtain ⟨k0X3, k1X3, f0X3, f1X3⟩ := X3.out.two
  have kzX3 := X3.out.lt
  obtain ⟨k0X4, k1X4, f0X4, f1X4⟩ := X4.out.two
  have kzX4 := X4.out.lt
  go_wp2_with fail
  clear k0X1 k1X1 f0X1 f1X1 kzX1 k0X2 k1X2 f0X2 f1X2 kzX2 k0X3 k1X3 f0X3 f1X3 kzX3 k0X4 k1X4 f0X4 f1X4 kzX4
  replace Sx := Lib.hid (Sx.out.later (below_al (below_0 _) (.cells #[.int .i64 C, .string (bs (regs C y))] 23)))
  replace Sy := Lib.hid (Sy.out.later (below_al (below_0 _) (.cells #[.int .i64 C, .string (bs (regs C y))] 23)))
  replace X1 := Lib.hid (X1.out.alloc (.cells #[.int .i64 C, .string (bs (regs C y))] 23))
  replace X2 := Lib.hid (X2.out.alloc (.cells #[.int .i64 C, .string (bs (regs C y))] 23))
  replace X3 := Lib.hid (X3.out.alloc (.cells #[.int .i64 C, .string (bs (regs C y))] 23))
  replace X4 := Lib.hid (X4.out.alloc (.cells #[.int .i64 C, .string (bs (regs C y))] 23))
  replace T := below_al T (.cells #[.int .i64 C, .string (bs (regs C y))] 23)
  have X5 := Lib.hid (Blk.new w5 23 #[.int .i64 C, .string (bs (regs C y))])
  generalize w5.alloc (.cells #[.int .i64 C, .string (bs (regs C y))] 23) = V5 at *
  refine (merge_any B B (regs B x) (regs B y) (bytes_regs b3 h8 _) (bytes_regs b3 h8 _) _).mono ?_
  rintro e w6 ⟨rfl, hb6⟩
  replace Sx := Lib.hid (Sx.out.later hb6)
  replace Sy := Lib.hid (Sy.out.later hb6)
  replace X1 := Lib.hid (X1.out.later hb6)
  replace X2 := Lib.hid (X2.out.later hb6)
  replace X3 := Lib.hid (X3.out.later hb6)
  replace X4 := Lib.hid (X4.out.later hb6)
  replace X5 := Lib.hid (X5.out.later hb6)
  replace T := Below.two T hb6
  rw [mergeH_regs b3 h8 x y]
  clear hb6
  obtain ⟨k0X1, k1X1, f0X1, f1X1⟩ := X1.out.two
  have kzX1 := X1.out.lt
  obtain ⟨k0X2, k1X2, f0X2, f1X2⟩ := X2.out.two
  have kzX2 := X2.out.lt
  obtain ⟨k0X3, k1X3, f0X3, f1X3⟩ := X3.out.two
  have kzX3 := X3.out.lt
  obtain ⟨k0X4, k1X4, f0X4, f1X4⟩ := X4.out.two
  have kzX4 := X4.out.lt
  obtain ⟨k0X5, k1X5, f0X5, f1X5⟩ := X5.out.two
  have kzX5 := X5.out.lt
  go_wp2_with fail
  clear k0X1 k1X1 f0X1 f1X1 kzX1 k0X2 k1X2 f0X2 f1X2 kzX2 k0X3 k1X3 f0X3 f1X3 kzX3 k0X4 k1X4 f0X4 f1X4 kzX4 k0X5 k1X5 f0X5 f1X5 kzX5
  replace Sx := Lib.hid (Sx.out.later (below_al (below_0 _) (.cells #[.int .i64 B, .string (bs (regs B (x ++ y)))] 23)))
  replace Sy := Lib.hid (Sy.out.later (below_al (below_0 _) (.cells #[.int .i64 B, .string (bs (regs B (x ++ y)))] 23)))
  replace X1 := Lib.hid (X1.out.alloc (.cells #[.int .i64 B, .string (bs (regs B (x ++ y)))] 23))
  replace X2 := Lib.hid (X2.out.alloc (.cells #[.int .i64 B, .string (bs (regs B (x ++ y)))] 23))
  replace X3 := Lib.hid (X3.out.alloc (.cells #[.int .i64 B, .string (bs (regs B (x ++ y)))] 23))
  replace X4 := Lib.hid (X4.out.alloc (.cells #[.int .i64 B, .string (bs (regs B (x ++ y)))] 23))
  replace X5 := Lib.hid (X5.out.alloc (.cells #[.int .i64 B, .string (bs (regs B (x ++ y)))] 23))
  replace T := below_al T (.cells #[.int .i64 B, .string (bs (regs B (x ++ y)))] 23)
  have X6 := Lib.hid (Blk.new w6 23 #[.int .i64 B, .string (bs (regs B (x ++ y)))])
  generalize w6.alloc (.cells #[.int .i64 B, .string (bs (regs B (x ++ y)))] 23) = V6 at *
  refine (lower_any B (regs B (x ++ y)) (bytes_regs b3 h8 _) _).mono ?_
  rintro e w7 ⟨rfl, hb7⟩
  replace Sx := Lib.hid (Sx.out.later hb7)
  replace Sy := Lib.hid (Sy.out.later hb7)
  replace X1 := Lib.hid (X1.out.later hb7)
  replace X2 := Lib.hid (X2.out.later hb7)
  replace X3 := Lib.hid (X3.out.later hb7)
  replace X4 := Lib.hid (X4.out.later hb7)
  replace X5 := Lib.hid (X5.out.later hb7)
  replace X6 := Lib.hid (X6.out.later hb7)
  replace T := Below.two T hb7
  rw [lowerH_regs2 h3 h8 HC.out (x ++ y)]
  clear hb7
  obtain ⟨k0X1, k1X1, f0X1, f1X1⟩ := X1.out.two
  have kzX1 := X1.out.lt
  obtain ⟨k0X2, k1X2, f0X2, f1X2⟩ := X2.out.two
  have kzX2 := X2.out.lt
  obtain ⟨k0X3, k1X3, f0X3, f1X3⟩ := X3.out.two
  have kzX3 := X3.out.lt
  obtain ⟨k0X4, k1X4, f0X4, f1X4⟩ := X4.out.two
  have kzX4 := X4.out.lt
  obtain ⟨k0X5, k1X5, f0X5, f1X5⟩ := X5.out.two
  have kzX5 := X5.out.lt
  obtain ⟨k0X6, k1X6, f0X6, f1X6⟩ := X6.out.two
  have kzX6 := X6.out.lt
  go_wp2_with fail
  clear k0X1 k1X1 f0X1 f1X1 kzX1 k0X2 k1X2 f0X2 f1X2 kzX2 k0X3 k1X3 f0X3 f1X3 kzX3 k0X4 k1X4 f0X4 f1X4 kzX4 k0X5 k1X5 f0X5 f1X5 kzX5 k0X6 k1X6 f0X6 f1X6 kzX6
  replace Sx := Lib.hid (Sx.out.later (below_al (below_0 _) (.cells #[.int .i64 C, .string (bs (regs C (x ++ y)))] 23)))
  replace Sy := Lib.hid (Sy.out.later (below_al (below_0 _) (.cells #[.int .i64 C, .string (bs (regs C (x ++ y)))] 23)))
  replace X1 := Lib.hid (X1.out.alloc (.cells #[.int .i64 C, .string (bs (regs C (x ++ y)))] 23))
  replace X2 := Lib.hid (X2.out.alloc (.cells #[.int .i64 C, .string (bs (regs C (x ++ y)))] 23))
  replace X3 := Lib.hid (X3.out.alloc (.cells #[.int .i64 C, .string (bs (regs C (x ++ y)))] 23))
  replace X4 := Lib.hid (X4.out.alloc (.cells #[.int .i64 C, .string (bs (regs C (x ++ y)))] 23))
  replace X5 := Lib.hid (X5.out.alloc (.cells #[.int .i64 C, .string (bs (regs C (x ++ y)))] 23))
  replace X6 := Lib.hid (X6.out.alloc (.cells #[.int .i64 C, .string (bs (regs C (x ++ y)))] 23))
  replace T := below_al T (.cells #[.int .i64 C, .string (bs (regs C (x ++ y)))] 23)
  have X7 := Lib.hid (Blk.new w7 23 #[.int .i64 C, .string (bs (regs C (x ++ y)))])
  generalize w7.alloc (.cells #[.int .i64 C, .string (bs (regs C (x ++ y)))] 23) = V7 at *
  refine (merge_any C C (regs C x) (regs C y) (bytes_regs h3 c8 _) (bytes_regs h3 c8 _) _).mono ?_
  rintro e w8 ⟨rfl, hb8⟩
  replace Sx := Lib.hid (Sx.out.later hb8)
  replace Sy := Lib.hid (Sy.out.later hb8)
  replace X1 := Lib.hid (X1.out.later hb8)
  replace X2 := Lib.hid (X2.out.later hb8)
  replace X3 := Lib.hid (X3.out.later hb8)
  replace X4 := Lib.hid (X4.out.later hb8)
  replace X5 := Lib.hid (X5.out.later hb8)
  replace X6 := Lib.hid (X6.out.later hb8)
  replace X7 := Lib.hid (X7.out.later hb8)
  replace T := Below.two T hb8
  rw [mergeH_regs h3 c8 x y]
  clear hb8
  obtain ⟨k0X1, k1X1, f0X1, f1X1⟩ := X1.out.two
  have kzX1 := X1.out.lt
  obtain ⟨k0X2, k1X2, f0X2, f1X2⟩ := X2.out.two
  have kzX2 := X2.out.lt
  obtain ⟨k0X3, k1X3, f0X3, f1X3⟩ := X3.out.two
  have kzX3 := X3.out.lt
  obtain ⟨k0X4, k1X4, f0X4, f1X4⟩ := X4.out.two
  have kzX4 := X4.out.lt
  obtain ⟨k0X5, k1X5, f0X5, f1X5⟩ := X5.out.two
  have kzX5 := X5.out.lt
  obtain ⟨k0X6, k1X6, f0X6, f1X6⟩ := X6.out.two
  have kzX6 := X6.out.lt
  obtain ⟨k0X7, k1X7, f0X7, f1X7⟩ := X7.out.two
  have kzX7 := X7.out.lt
  go_wp2_with fail
  clear k0X1 k1X1 f0X1 f1X1 kzX1 k0X2 k1X2 f0X2 f1X2 kzX2 k0X3 k1X3 f0X3 f1X3 kzX3 k0X4 k1X4 f0X4 f1X4 kzX4 k0X5 k1X5 f0X5 f1X5 kzX5 k0X6 k1X6 f0X6 f1X6 kzX6 k0X7 k1X7 f0X7 f1X7 kzX7
  replace Sx := Lib.hid (Sx.out.later (below_al (below_0 _) (.cells #[.int .i64 C, .string (bs (regs C (x ++ y)))] 23)))
  replace Sy := Lib.hid (Sy.out.later (below_al (below_0 _) (.cells #[.int .i64 C, .string (bs (regs C (x ++ y)))] 23)))
  replace X1 := Lib.hid (X1.out.alloc (.cells #[.int .i64 C, .string (bs (regs C (x ++ y)))] 23))
  replace X2 := Lib.hid (X2.out.alloc (.cells #[.int .i64 C, .string (bs (regs C (x ++ y)))] 23))
  replace X3 := Lib.hid (X3.out.alloc (.cells #[.int .i64 C, .string (bs (regs C (x ++ y)))] 23))
  replace X4 := Lib.hid (X4.out.alloc (.cells #[.int .i64 C, .string (bs (regs C (x ++ y)))] 23))
  replace X5 := Lib.hid (X5.out.alloc (.cells #[.int .i64 C, .string (bs (regs C (x ++ y)))] 23))
  replace X6 := Lib.hid (X6.out.alloc (.cells #[.int .i64 C, .string (bs (regs C (x ++ y)))] 23))
  replace X7 := Lib.hid (X7.out.alloc (.cells #[.int .i64 C, .string (bs (regs C (x ++ y)))] 23))
  replace T := below_al T (.cells #[.int .i64 C, .string (bs (regs C (x ++ y)))] 23)
  have X8 := Lib.hid (Blk.new w8 23 #[.int .i64 C, .string (bs (regs C (x ++ y)))])
  generalize w8.alloc (.cells #[.int .i64 C, .string (bs (regs C (x ++ y)))] 23) = V8 at *
  go_ret
  exact ⟨rfl, T⟩
end Go.Proofs.Ytgbanhjjieagnaa

/-
  The walk of the law aviarylaw07.HllRules: call by call, each callee by its contract.
-/
import Derived.Test.YtgbanhjjieagnaaHllShown
import Derived.Test.YtgbanhjjieagnaaHllFacts
import Derived.Test.YtgbanhjjieagnaaQuiet
import Derived.Test.YtgbanhjjieagnaaHllLaws
namespace Go.Proofs.Ytgbanhjjieagnaa
open Go.RowKit
set_option linter.unusedVariables false
set_option linter.unusedSimpArgs false
theorem of_n (b : Int) (A : Option Addr) (ns : List Int) (n capn : Nat) (hl : ns.length = n) (hU : Us ns) (hn : n ≤ 65536) (w : World) (hS : Sl w w.heap.size A ns) :
    Calls Try.prog 12 #[.int .i64 b, .slice A n capn] w (HRes w (ofH b ns)) := by
  subst hl
  exact of_any b A ns capn hU hn w hS
set_option maxRecDepth 100000 in
set_option maxHeartbeats 4000000 in
theorem rules_bad (w : World) (bits : Int) (ax : Option Addr) (nx capx : Nat) (x : List Int) (hUx : Us x) (hslx : Sl w w.heap.size ax x) (hkx : (min (nx : Int) 100).toNat = x.length) (hqx : x.length ≤ capx) (hmx : capx ≤ 9223372036854775807) (hxx : x.length ≤ 100) (ay : Option Addr) (ny capy : Nat) (y : List Int) (hUy : Us y) (hsly : Sl w w.heap.size ay y) (hky : (min (ny : Int) 100).toNat = y.length) (hqy : y.length ≤ capy) (hmy : capy ≤ 9223372036854775807) (hxy : y.length ≤ 100) (az : Option Addr) (nz capz : Nat) (z : List Int) (hUz : Us z) (hslz : Sl w w.heap.size az z) (hkz : (min (nz : Int) 100).toNat = z.length) (hqz : z.length ≤ capz) (hmz : capz ≤ 9223372036854775807) (hxz : z.length ≤ 100) (hb : bitsB bits = false) :
    Calls Try.prog 8 #[.int .i64 bits, .slice ax nx capx, .slice ay ny capy, .slice az nz capz] w fun e w' => e = .returned (.bool true) ∧ Below w.heap.size w w' := by
  have T := below_0 w
  have Sx := Lib.hid hslx
  have HKx := Lib.hid hkx
  clear hslx hkx
  have Sy := Lib.hid hsly
  have HKy := Lib.hid hky
  clear hsly hky
  have Sz := Lib.hid hslz
  have HKz := Lib.hid hkz
  clear hslz hkz
  have HB := Lib.hid hb
  have d9 : (decide (bits < 3) || decide (8 < bits)) = true := bits_no hb
  clear hb
  go_enter Try.func8, Try.ntmps8
  go_wp2_with fail
  refine (shown_any _).mono ?_
  rintro e w90 ⟨rfl, hb90⟩
  replace Sx := Lib.hid (Sx.out.later hb90)
  replace Sy := Lib.hid (Sy.out.later hb90)
  replace Sz := Lib.hid (Sz.out.later hb90)
  replace T := Below.two T hb90
  clear hb90
  go_wp2_with fail
  refine (few_any _ nx capx ax x HKx.out hqx hmx).mono ?_
  rintro e w' ⟨rfl, rfl⟩
  go_wp2_with fail
  refine (of_any bits ax x capx hUx (by omega) _ Sx.out).mono ?_
  rintro e w1 ⟨rfl, hb1⟩
  replace Sx := Lib.hid (Sx.out.later hb1)
  replace Sy := Lib.hid (Sy.out.later hb1)
  replace Sz := Lib.hid (Sz.out.later hb1)
  replace T := Below.two T hb1
  rw [of_bad HB.out x]
  clear hb1
  go_wp2_with fail
  replace Sx := Lib.hid (Sx.out.later (below_al (below_0 _) (.cells #[.int .i64 0, .string (bs [])] 23)))
  replace Sy := Lib.hid (Sy.out.later (below_al (below_0 _) (.cells #[.int .i64 0, .string (bs [])] 23)))
  replace Sz := Lib.hid (Sz.out.later (below_al (below_0 _) (.cells #[.int .i64 0, .string (bs [])] 23)))
  replace T := below_al T (.cells #[.int .i64 0, .string (bs [])] 23)
  have X1 := Lib.hid (Blk.new w1 23 #[.int .i64 0, .string (bs [])])
  generalize w1.alloc (.cells #[.int .i64 0, .string (bs [])] 23) = V1 at *
  refine (few_any _ ny capy ay y HKy.out hqy hmy).mono ?_
  rintro e w' ⟨rfl, rfl⟩
  go_wp2_with fail
  refine (of_any bits ay y capy hUy (by omega) _ Sy.out).mono ?_
  rintro e w2 ⟨rfl, hb2⟩
  replace Sx := Lib.hid (Sx.out.later hb2)
  replace Sy := Lib.hid (Sy.out.later hb2)
  replace Sz := Lib.hid (Sz.out.later hb2)
  replace X1 := Lib.hid (X1.out.later hb2)
  replace T := Below.two T hb2
  rw [of_bad HB.out y]
  clear hb2
  obtain ⟨k0X1, k1X1, f0X1, f1X1⟩ := X1.out.two
  have kzX1 := X1.out.lt
  go_wp2_with fail
  clear k0X1 k1X1 f0X1 f1X1 kzX1
  replace Sx := Lib.hid (Sx.out.later (below_al (below_0 _) (.cells #[.int .i64 0, .string (bs [])] 23)))
  replace Sy := Lib.hid (Sy.out.later (below_al (below_0 _) (.cells #[.int .i64 0, .string (bs [])] 23)))
  replace Sz := Lib.hid (Sz.out.later (below_al (below_0 _) (.cells #[.int .i64 0, .string (bs [])] 23)))
  replace X1 := Lib.hid (X1.out.alloc (.cells #[.int .i64 0, .string (bs [])] 23))
  replace T := below_al T (.cells #[.int .i64 0, .string (bs [])] 23)
  have X2 := Lib.hid (Blk.new w2 23 #[.int .i64 0, .string (bs [])])
  generalize w2.alloc (.cells #[.int .i64 0, .string (bs [])] 23) = V2 at *
  refine (few_any _ nz capz az z HKz.out hqz hmz).mono ?_
  rintro e w' ⟨rfl, rfl⟩
  go_wp2_with fail
  refine (of_any bits az z capz hUz (by omega) _ Sz.out).mono ?_
  rintro e w3 ⟨rfl, hb3⟩
  replace Sx := Lib.hid (Sx.out.later hb3)
  replace Sy := Lib.hid (Sy.out.later hb3)
  replace Sz := Lib.hid (Sz.out.later hb3)
  replace X1 := Lib.hid (X1.out.later hb3)
  replace X2 := Lib.hid (X2.out.later hb3)
  replace T := Below.two T hb3
  rw [of_bad HB.out z]
  clear hb3
  obtain ⟨k0X1, k1X1, f0X1, f1X1⟩ := X1.out.two
  have kzX1 := X1.out.lt
  obtain ⟨k0X2, k1X2, f0X2, f1X2⟩ := X2.out.two
  have kzX2 := X2.out.lt
  go_wp2_with fail
  all_goals (go_ret; exact ⟨rfl, below_al T _⟩)
/-- Between two rounds of the law's loop. -/
def RuI (w : World) (b1 b5 b7 B k : Nat) (ax : Option Addr) (x l : List Int) (wr : World) : Prop :=
  Blk wr b1 23 #[.int .i64 (k : Int), .string (bs (regs k x))] ∧ Blk wr b5 23 #[.int .i64 (B : Int), .string (bs (regs B l))] ∧ Blk wr b7 23 #[.int .i64 (B : Int), .string (bs (regs B l))] ∧ Sl wr wr.heap.size ax x ∧ Below w.heap.size w wr
set_option maxRecDepth 100000 in
set_option maxHeartbeats 4000000 in
theorem rules_good (w : World) (B : Nat) (h3 : 3 ≤ B) (h8 : B ≤ 8) (ax : Option Addr) (nx capx : Nat) (x : List Int) (hUx : Us x) (hslx : Sl w w.heap.size ax x) (hkx : (min (nx : Int) 100).toNat = x.length) (hqx : x.length ≤ capx) (hmx : capx ≤ 9223372036854775807) (hxx : x.length ≤ 100) (ay : Option Addr) (ny capy : Nat) (y : List Int) (hUy : Us y) (hsly : Sl w w.heap.size ay y) (hky : (min (ny : Int) 100).toNat = y.length) (hqy : y.length ≤ capy) (hmy : capy ≤ 9223372036854775807) (hxy : y.length ≤ 100) (az : Option Addr) (nz capz : Nat) (z : List Int) (hUz : Us z) (hslz : Sl w w.heap.size az z) (hkz : (min (nz : Int) 100).toNat = z.length) (hqz : z.length ≤ capz) (hmz : capz ≤ 9223372036854775807) (hxz : z.length ≤ 100) :
    Calls Try.prog 8 #[.int .i64 B, .slice ax nx capx, .slice ay ny capy, .slice az nz capz] w fun e w' => e = .returned (.bool true) ∧ Below w.heap.size w w' := by
  have T := below_0 w
  have Sx := Lib.hid hslx
  have HKx := Lib.hid hkx
  clear hslx hkx
  have Sy := Lib.hid hsly
  have HKy := Lib.hid hky
  clear hsly hky
  have Sz := Lib.hid hslz
  have HKz := Lib.hid hkz
  clear hslz hkz
  go_enter Try.func8, Try.ntmps8
  go_wp2_with fail
  refine (shown_any _).mono ?_
  rintro e w90 ⟨rfl, hb90⟩
  have sz90 : w.heap.size ≤ w90.heap.size := hb90.size
  replace Sx := Lib.hid (Sx.out.later hb90)
  replace Sy := Lib.hid (Sy.out.later hb90)
  replace Sz := Lib.hid (Sz.out.later hb90)
  replace T := Below.two T hb90
  clear hb90
  go_wp2_with fail
  refine (few_any _ nx capx ax x HKx.out hqx hmx).mono ?_
  rintro e w' ⟨rfl, rfl⟩
  go_wp2_with fail
  refine (of_any B ax x capx hUx (by omega) _ Sx.out).mono ?_
  rintro e w1 ⟨rfl, hb1⟩
  have sz1 : w90.heap.size ≤ w1.heap.size := hb1.size
  replace Sx := Lib.hid (Sx.out.later hb1)
  replace Sy := Lib.hid (Sy.out.later hb1)
  replace Sz := Lib.hid (Sz.out.later hb1)
  replace T := Below.two T hb1
  rw [of_regs h3 h8 x]
  clear hb1
  go_wp2_with fail
  replace Sx := Lib.hid (Sx.out.later (below_al (below_0 _) (.cells #[.int .i64 B, .string (bs (regs B x))] 23)))
  replace Sy := Lib.hid (Sy.out.later (below_al (below_0 _) (.cells #[.int .i64 B, .string (bs (regs B x))] 23)))
  replace Sz := Lib.hid (Sz.out.later (below_al (below_0 _) (.cells #[.int .i64 B, .string (bs (regs B x))] 23)))
  replace T := below_al T (.cells #[.int .i64 B, .string (bs (regs B x))] 23)
  have X1 := Lib.hid (Blk.new w1 23 #[.int .i64 B, .string (bs (regs B x))])
  generalize w1.alloc (.cells #[.int .i64 B, .string (bs (regs B x))] 23) = V1 at *
  have sy1 : w1.heap.size < V1.heap.size := X1.out.lt
  refine (few_any _ ny capy ay y HKy.out hqy hmy).mono ?_
  rintro e w' ⟨rfl, rfl⟩
  go_wp2_with fail
  refine (of_any B ay y capy hUy (by omega) _ Sy.out).mono ?_
  rintro e w2 ⟨rfl, hb2⟩
  have sz2 : V1.heap.size ≤ w2.heap.size := hb2.size
  replace Sx := Lib.hid (Sx.out.later hb2)
  replace Sy := Lib.hid (Sy.out.later hb2)
  replace Sz := Lib.hid (Sz.out.later hb2)
  replace X1 := Lib.hid (X1.out.later hb2)
  replace T := Below.two T hb2
  rw [of_regs h3 h8 y]
  clear hb2
  obtain ⟨k0X1, k1X1, f0X1, f1X1⟩ := X1.out.two
  have kzX1 := X1.out.lt
  go_wp2_with fail
  clear k0X1 k1X1 f0X1 f1X1 kzX1
  replace Sx := Lib.hid (Sx.out.later (below_al (below_0 _) (.cells #[.int .i64 B, .string (bs (regs B y))] 23)))
  replace Sy := Lib.hid (Sy.out.later (below_al (below_0 _) (.cells #[.int .i64 B, .string (bs (regs B y))] 23)))
  replace Sz := Lib.hid (Sz.out.later (below_al (below_0 _) (.cells #[.int .i64 B, .string (bs (regs B y))] 23)))
  replace X1 := Lib.hid (X1.out.alloc (.cells #[.int .i64 B, .string (bs (regs B y))] 23))
  replace T := below_al T (.cells #[.int .i64 B, .string (bs (regs B y))] 23)
  have X2 := Lib.hid (Blk.new w2 23 #[.int .i64 B, .string (bs (regs B y))])
  generalize w2.alloc (.cells #[.int .i64 B, .string (bs (regs B y))] 23) = V2 at *
  have sy2 : w2.heap.size < V2.heap.size := X2.out.lt
  refine (few_any _ nz capz az z HKz.out hqz hmz).mono ?_
  rintro e w' ⟨rfl, rfl⟩
  go_wp2_with fail
  refine (of_any B az z capz hUz (by omega) _ Sz.out).mono ?_
  rintro e w3 ⟨rfl, hb3⟩
  have sz3 : V2.heap.size ≤ w3.heap.size := hb3.size
  replace Sx := Lib.hid (Sx.out.later hb3)
  replace Sy := Lib.hid (Sy.out.later hb3)
  replace Sz := Lib.hid (Sz.out.later hb3)
  replace X1 := Lib.hid (X1.out.later hb3)
  replace X2 := Lib.hid (X2.out.later hb3)
  replace T := Below.two T hb3
  rw [of_regs h3 h8 z]
  clear hb3
  obtain ⟨k0X1, k1X1, f0X1, f1X1⟩ := X1.out.two
  have kzX1 := X1.out.lt
  obtain ⟨k0X2, k1X2, f0X2, f1X2⟩ := X2.out.two
  have kzX2 := X2.out.lt
  go_wp2_with fail
  clear k0X1 k1X1 f0X1 f1X1 kzX1 k0X2 k1X2 f0X2 f1X2 kzX2
  replace Sx := Lib.hid (Sx.out.later (below_al (below_0 _) (.cells #[.int .i64 B, .string (bs (regs B z))] 23)))
  replace Sy := Lib.hid (Sy.out.later (below_al (below_0 _) (.cells #[.int .i64 B, .string (bs (regs B z))] 23)))
  replace Sz := Lib.hid (Sz.out.later (below_al (below_0 _) (.cells #[.int .i64 B, .string (bs (regs B z))] 23)))
  replace X1 := Lib.hid (X1.out.alloc (.cells #[.int .i64 B, .string (bs (regs B z))] 23))
  replace X2 := Lib.hid (X2.out.alloc (.cells #[.int .i64 B, .string (bs (regs B z))] 23))
  replace T := below_al T (.cells #[.int .i64 B, .string (bs (regs B z))] 23)
  have X3 := Lib.hid (Blk.new w3 23 #[.int .i64 B, .string (bs (regs B z))])
  generalize w3.alloc (.cells #[.int .i64 B, .string (bs (regs B z))] 23) = V3 at *
  have sy3 : w3.heap.size < V3.heap.size := X3.out.lt
  refine (merge_any B B (regs B (x)) (regs B (y)) (bytes_regs h3 h8 _) (bytes_regs h3 h8 _) _).mono ?_
  rintro e w4 ⟨rfl, hb4⟩
  have sz4 : V3.heap.size ≤ w4.heap.size := hb4.size
  replace Sx := Lib.hid (Sx.out.later hb4)
  replace Sy := Lib.hid (Sy.out.later hb4)
  replace Sz := Lib.hid (Sz.out.later hb4)
  replace X1 := Lib.hid (X1.out.later hb4)
  replace X2 := Lib.hid (X2.out.later hb4)
  replace X3 := Lib.hid (X3.out.later hb4)
  replace T := Below.two T hb4
  rw [mergeH_regs h3 h8 (x) (y)]
  clear hb4
  obtain ⟨k0X1, k1X1, f0X1, f1X1⟩ := X1.out.two
  have kzX1 := X1.out.lt
  obtain ⟨k0X2, k1X2, f0X2, f1X2⟩ := X2.out.two
  have kzX2 := X2.out.lt
  obtain ⟨k0X3, k1X3, f0X3, f1X3⟩ := X3.out.two
  have kzX3 := X3.out.lt
  go_wp2_with fail
  clear k0X1 k1X1 f0X1 f1X1 kzX1 k0X2 k1X2 f0X2 f1X2 kzX2 k0X3 k1X3 f0X3 f1X3 kzX3
  replace Sx := Lib.hid (Sx.out.later (below_al (below_0 _) (.cells #[.int .i64 B, .string (bs (regs B (x ++ y)))] 23)))
  replace Sy := Lib.hid (Sy.out.later (below_al (below_0 _) (.cells #[.int .i64 B, .string (bs (regs B (x ++ y)))] 23)))
  replace Sz := Lib.hid (Sz.out.later (below_al (below_0 _) (.cells #[.int .i64 B, .string (bs (regs B (x ++ y)))] 23)))
  replace X1 := Lib.hid (X1.out.alloc (.cells #[.int .i64 B, .string (bs (regs B (x ++ y)))] 23))
  replace X2 := Lib.hid (X2.out.alloc (.cells #[.int .i64 B, .string (bs (regs B (x ++ y)))] 23))
  replace X3 := Lib.hid (X3.out.alloc (.cells #[.int .i64 B, .string (bs (regs B (x ++ y)))] 23))
  replace T := below_al T (.cells #[.int .i64 B, .string (bs (regs B (x ++ y)))] 23)
  have X4 := Lib.hid (Blk.new w4 23 #[.int .i64 B, .string (bs (regs B (x ++ y)))])
  generalize w4.alloc (.cells #[.int .i64 B, .string (bs (regs B (x ++ y)))] 23) = V4 at *
  have sy4 : w4.heap.size < V4.heap.size := X4.out.lt
  refine (merge_any B B (regs B (x ++ y)) (regs B (z)) (bytes_regs h3 h8 _) (bytes_regs h3 h8 _) _).mono ?_
  rintro e w5 ⟨rfl, hb5⟩
  have sz5 : V4.heap.size ≤ w5.heap.size := hb5.size
  replace Sx := Lib.hid (Sx.out.later hb5)
  replace Sy := Lib.hid (Sy.out.later hb5)
  replace Sz := Lib.hid (Sz.out.later hb5)
  replace X1 := Lib.hid (X1.out.later hb5)
  replace X2 := Lib.hid (X2.out.later hb5)
  replace X3 := Lib.hid (X3.out.later hb5)
  replace X4 := Lib.hid (X4.out.later hb5)
  replace T := Below.two T hb5
  rw [mergeH_regs h3 h8 (x ++ y) (z), List.append_assoc]
  clear hb5
  obtain ⟨k0X1, k1X1, f0X1, f1X1⟩ := X1.out.two
  have kzX1 := X1.out.lt
  obtain ⟨k0X2, k1X2, f0X2, f1X2⟩ := X2.out.two
  have kzX2 := X2.out.lt
  obtain ⟨k0X3, k1X3, f0X3, f1X3⟩ := X3.out.two
  have kzX3 := X3.out.lt
  obtain ⟨k0X4, k1X4, f0X4, f1X4⟩ := X4.out.two
  have kzX4 := X4.out.lt
  go_wp2_with fail
  clear k0X1 k1X1 f0X1 f1X1 kzX1 k0X2 k1X2 f0X2 f1X2 kzX2 k0X3 k1X3 f0X3 f1X3 kzX3 k0X4 k1X4 f0X4 f1X4 kzX4
  replace Sx := Lib.hid (Sx.out.later (below_al (below_0 _) (.cells #[.int .i64 B, .string (bs (regs B (x ++ (y ++ z))))] 23)))
  replace Sy := Lib.hid (Sy.out.later (below_al (below_0 _) (.cells #[.int .i64 B, .string (bs (regs B (x ++ (y ++ z))))] 23)))
  replace Sz := Lib.hid (Sz.out.later (below_al (below_0 _) (.cells #[.int .i64 B, .string (bs (regs B (x ++ (y ++ z))))] 23)))
  replace X1 := Lib.hid (X1.out.alloc (.cells #[.int .i64 B, .string (bs (regs B (x ++ (y ++ z))))] 23))
  replace X2 := Lib.hid (X2.out.alloc (.cells #[.int .i64 B, .string (bs (regs B (x ++ (y ++ z))))] 23))
  replace X3 := Lib.hid (X3.out.alloc (.cells #[.int .i64 B, .string (bs (regs B (x ++ (y ++ z))))] 23))
  replace X4 := Lib.hid (X4.out.alloc (.cells #[.int .i64 B, .string (bs (regs B (x ++ (y ++ z))))] 23))
  replace T := below_al T (.cells #[.int .i64 B, .string (bs (regs B (x ++ (y ++ z))))] 23)
  have X5 := Lib.hid (Blk.new w5 23 #[.int .i64 B, .string (bs (regs B (x ++ (y ++ z))))])
  generalize w5.alloc (.cells #[.int .i64 B, .string (bs (regs B (x ++ (y ++ z))))] 23) = V5 at *
  have sy5 : w5.heap.size < V5.heap.size := X5.out.lt
  refine (merge_any B B (regs B (y)) (regs B (z)) (bytes_regs h3 h8 _) (bytes_regs h3 h8 _) _).mono ?_
  rintro e w6 ⟨rfl, hb6⟩
  have sz6 : V5.heap.size ≤ w6.heap.size := hb6.size
  replace Sx := Lib.hid (Sx.out.later hb6)
  replace Sy := Lib.hid (Sy.out.later hb6)
  replace Sz := Lib.hid (Sz.out.later hb6)
  replace X1 := Lib.hid (X1.out.later hb6)
  replace X2 := Lib.hid (X2.out.later hb6)
  replace X3 := Lib.hid (X3.out.later hb6)
  replace X4 := Lib.hid (X4.out.later hb6)
  replace X5 := Lib.hid (X5.out.later hb6)
  replace T := Below.two T hb6
  rw [mergeH_regs h3 h8 (y) (z)]
  clear hb6
  obtain ⟨k0X1, k1X1, f0X1, f1X1⟩ := X1.out.two
  have kzX1 := X1.out.lt
  obtain ⟨k0X2, k1X2, f0X2, f1X2⟩ := X2.out.two
  have kzX2 := X2.out.lt
  obtain ⟨k0X3, k1X3, f0X3, f1X3⟩ := X3.out.two
  have kzX3 := X3.out.lt
  obtain ⟨k0X4, k1X4, f0X4, f1X4⟩ := X4.out.two
  have kzX4 := X4.out.lt
  obtain ⟨k0X5, k1X5, f0X5, f1X5⟩ := X5.out.two
  have kzX5 := X5.out.lt
  go_wp2_with fail
  clear k0X1 k1X1 f0X1 f1X1 kzX1 k0X2 k1X2 f0X2 f1X2 kzX2 k0X3 k1X3 f0X3 f1X3 kzX3 k0X4 k1X4 f0X4 f1X4 kzX4 k0X5 k1X5 f0X5 f1X5 kzX5
  replace Sx := Lib.hid (Sx.out.later (below_al (below_0 _) (.cells #[.int .i64 B, .string (bs (regs B (y ++ z)))] 23)))
  replace Sy := Lib.hid (Sy.out.later (below_al (below_0 _) (.cells #[.int .i64 B, .string (bs (regs B (y ++ z)))] 23)))
  replace Sz := Lib.hid (Sz.out.later (below_al (below_0 _) (.cells #[.int .i64 B, .string (bs (regs B (y ++ z)))] 23)))
  replace X1 := Lib.hid (X1.out.alloc (.cells #[.int .i64 B, .string (bs (regs B (y ++ z)))] 23))
  replace X2 := Lib.hid (X2.out.alloc (.cells #[.int .i64 B, .string (bs (regs B (y ++ z)))] 23))
  replace X3 := Lib.hid (X3.out.alloc (.cells #[.int .i64 B, .string (bs (regs B (y ++ z)))] 23))
  replace X4 := Lib.hid (X4.out.alloc (.cells #[.int .i64 B, .string (bs (regs B (y ++ z)))] 23))
  replace X5 := Lib.hid (X5.out.alloc (.cells #[.int .i64 B, .string (bs (regs B (y ++ z)))] 23))
  replace T := below_al T (.cells #[.int .i64 B, .string (bs (regs B (y ++ z)))] 23)
  have X6 := Lib.hid (Blk.new w6 23 #[.int .i64 B, .string (bs (regs B (y ++ z)))])
  generalize w6.alloc (.cells #[.int .i64 B, .string (bs (regs B (y ++ z)))] 23) = V6 at *
  have sy6 : w6.heap.size < V6.heap.size := X6.out.lt
  refine (merge_any B B (regs B (x)) (regs B (y ++ z)) (bytes_regs h3 h8 _) (bytes_regs h3 h8 _) _).mono ?_
  rintro e w7 ⟨rfl, hb7⟩
  have sz7 : V6.heap.size ≤ w7.heap.size := hb7.size
  replace Sx := Lib.hid (Sx.out.later hb7)
  replace Sy := Lib.hid (Sy.out.later hb7)
  replace Sz := Lib.hid (Sz.out.later hb7)
  replace X1 := Lib.hid (X1.out.later hb7)
  replace X2 := Lib.hid (X2.out.later hb7)
  replace X3 := Lib.hid (X3.out.later hb7)
  replace X4 := Lib.hid (X4.out.later hb7)
  replace X5 := Lib.hid (X5.out.later hb7)
  replace X6 := Lib.hid (X6.out.later hb7)
  replace T := Below.two T hb7
  rw [mergeH_regs h3 h8 (x) (y ++ z)]
  clear hb7
  obtain ⟨k0X1, k1X1, f0X1, f1X1⟩ := X1.out.two
  have kzX1 := X1.out.lt
  obtain ⟨k0X2, k1X2, f0X2, f1X2⟩ := X2.out.two
  have kzX2 := X2.out.lt
  obtain ⟨k0X3, k1X3, f0X3, f1X3⟩ := X3.out.two
  have kzX3 := X3.out.lt
  obtain ⟨k0X4, k1X4, f0X4, f1X4⟩ := X4.out.two
  have kzX4 := X4.out.lt
  obtain ⟨k0X5, k1X5, f0X5, f1X5⟩ := X5.out.two
  have kzX5 := X5.out.lt
  obtain ⟨k0X6, k1X6, f0X6, f1X6⟩ := X6.out.two
  have kzX6 := X6.out.lt
  go_wp2_with fail
  clear k0X1 k1X1 f0X1 f1X1 kzX1 k0X2 k1X2 f0X2 f1X2 kzX2 k0X3 k1X3 f0X3 f1X3 kzX3 k0X4 k1X4 f0X4 f1X4 kzX4 k0X5 k1X5 f0X5 f1X5 kzX5 k0X6 k1X6 f0X6 f1X6 kzX6
  replace Sx := Lib.hid (Sx.out.later (below_al (below_0 _) (.cells #[.int .i64 B, .string (bs (regs B (x ++ (y ++ z))))] 23)))
  replace Sy := Lib.hid (Sy.out.later (below_al (below_0 _) (.cells #[.int .i64 B, .string (bs (regs B (x ++ (y ++ z))))] 23)))
  replace Sz := Lib.hid (Sz.out.later (below_al (below_0 _) (.cells #[.int .i64 B, .string (bs (regs B (x ++ (y ++ z))))] 23)))
  replace X1 := Lib.hid (X1.out.alloc (.cells #[.int .i64 B, .string (bs (regs B (x ++ (y ++ z))))] 23))
  replace X2 := Lib.hid (X2.out.alloc (.cells #[.int .i64 B, .string (bs (regs B (x ++ (y ++ z))))] 23))
  replace X3 := Lib.hid (X3.out.alloc (.cells #[.int .i64 B, .string (bs (regs B (x ++ (y ++ z))))] 23))
  replace X4 := Lib.hid (X4.out.alloc (.cells #[.int .i64 B, .string (bs (regs B (x ++ (y ++ z))))] 23))
  replace X5 := Lib.hid (X5.out.alloc (.cells #[.int .i64 B, .string (bs (regs B (x ++ (y ++ z))))] 23))
  replace X6 := Lib.hid (X6.out.alloc (.cells #[.int .i64 B, .string (bs (regs B (x ++ (y ++ z))))] 23))
  replace T := below_al T (.cells #[.int .i64 B, .string (bs (regs B (x ++ (y ++ z))))] 23)
  have X7 := Lib.hid (Blk.new w7 23 #[.int .i64 B, .string (bs (regs B (x ++ (y ++ z))))])
  generalize w7.alloc (.cells #[.int .i64 B, .string (bs (regs B (x ++ (y ++ z))))] 23) = V7 at *
  have sy7 : w7.heap.size < V7.heap.size := X7.out.lt
  have HI : Hid (RuI w w1.heap.size w5.heap.size w7.heap.size B B ax x (x ++ (y ++ z)) V7) := ⟨X1.out, X5.out, X7.out, Sx.out, T⟩
  have n5 : w1.heap.size ≠ w5.heap.size := by omega
  have n7 : w1.heap.size ≠ w7.heap.size := by omega
  have nw : w.heap.size ≤ w1.heap.size := by omega
  go_loopw [24] (fun i wr => ∃ k : Nat, 3 ≤ k ∧ k ≤ B ∧ i = .int .i64 k ∧ RuI w w1.heap.size w5.heap.size w7.heap.size B k ax x (x ++ (y ++ z)) wr) (fun i _ => (intOf i).toNat)
  case atStart => exact ⟨B, h3, Nat.le_refl _, rfl, HI.out⟩
  case round =>
    obtain ⟨k, hk3, hkB, rfl, hX1, hX5, hX7, hSx, hT⟩ := hrel
    clear X1 X2 X3 X4 X5 X6 X7 Sx Sy Sz T
    have X1 := Lib.hid hX1
    have X5 := Lib.hid hX5
    have X7 := Lib.hid hX7
    have Sx := Lib.hid hSx
    have T := hT
    clear hX1 hX5 hX7 hSx hT HI
    have kz1 := X1.out.lt
    have kz5 := X5.out.lt
    have kz7 := X7.out.lt
    obtain ⟨k0X1, k1X1, f0X1, f1X1⟩ := X1.out.two
    by_cases hlt : 3 < k
    · have d3 : decide ((3 : Int) < (k : Int)) = true := by simp; omega
      obtain ⟨c, hc⟩ : ∃ c : Nat, k = c + 1 := ⟨k - 1, by omega⟩
      have hkc : (k : Int) - 1 = (c : Int) := by omega
      have HC := Lib.hid hc
      clear hc
      go_wp2_with fail
      refine (lower_any k (regs k x) (bytes_regs (by omega) (by omega) _) _).mono ?_
      rintro e w8 ⟨rfl, hb8⟩
      rw [lowerH_regs2 (C := c) (by have := HC.out; omega) (by omega) HC.out x]
      clear k0X1 k1X1 f0X1 f1X1
      replace X1 := Lib.hid (X1.out.later hb8)
      replace X5 := Lib.hid (X5.out.later hb8)
      replace X7 := Lib.hid (X7.out.later hb8)
      replace Sx := Lib.hid (Sx.out.later hb8)
      replace T := Below.two T hb8
      have kz8 := hb8.size
      clear hb8
      obtain ⟨k0X1, k1X1, f0X1, f1X1⟩ := X1.out.two
      have kz9 : w1.heap.size < w8.heap.size := by omega
      go_wp2_with fail
      have HJ : Hid (RuI w w1.heap.size w5.heap.size w7.heap.size B c ax x (x ++ (y ++ z)) (((w8.setCell ⟨w1.heap.size, 0, none⟩ (.int .i64 (c : Int))).setCell ⟨w1.heap.size, 1, none⟩ (.string (bs (regs c x)))).alloc (.cells #[.int .i64 (c : Int), .string (bs (regs c x))] 23))) :=
        ⟨((X1.out.set_ 0 _).set_ 1 _).alloc _, ((X5.out.far (by show w5.heap.size ≠ w1.heap.size; omega) _).far (by show w5.heap.size ≠ w1.heap.size; omega) _).alloc _, ((X7.out.far (by show w7.heap.size ≠ w1.heap.size; omega) _).far (by show w7.heap.size ≠ w1.heap.size; omega) _).alloc _, (sl_set2 Sx.out X1.out _ _).later (below_al (below_0 _) _), below_al ((T.setCell nw _).setCell nw _) _⟩
      go_roundw
      case rel => exact ⟨c, by have := HC.out; omega, by have := HC.out; omega, rfl, HJ.out⟩
      case measure => simp [intOf]; have := HC.out; omega
    · obtain rfl : k = 3 := by omega
      have d3 : decide ((3 : Int) < ((3 : Nat) : Int)) = false := by simp
      clear k0X1 k1X1 f0X1 f1X1
      go_wp2_with fail
      refine (few_any _ nx capx ax x HKx.out hqx hmx).mono ?_
      rintro e w' ⟨rfl, rfl⟩
      go_wp2_with fail
      refine (of_any 3 ax x capx hUx (by omega) _ Sx.out).mono ?_
      rintro e w8 ⟨rfl, hb8⟩
      replace Sx := Lib.hid (Sx.out.later hb8)
      replace X1 := Lib.hid (X1.out.later hb8)
      replace X5 := Lib.hid (X5.out.later hb8)
      replace X7 := Lib.hid (X7.out.later hb8)
      replace T := Below.two T hb8
      rw [show ofH 3 x = ⟨3, regs 3 x, 0⟩ from of_regs (B := 3) (by omega) (by omega) x]
      clear hb8
      obtain ⟨k0X1, k1X1, f0X1, f1X1⟩ := X1.out.two
      have kzX1 := X1.out.lt
      obtain ⟨k0X5, k1X5, f0X5, f1X5⟩ := X5.out.two
      have kzX5 := X5.out.lt
      obtain ⟨k0X7, k1X7, f0X7, f1X7⟩ := X7.out.two
      have kzX7 := X7.out.lt
      go_wp2_with fail
      all_goals (go_ret; exact ⟨rfl, below_al T _⟩)
end Go.Proofs.Ytgbanhjjieagnaa

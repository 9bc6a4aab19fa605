/-
  The walk of the law aviarylaw07.HllGrows: call by call, each callee by its contract.
-/
import Derived.Test.YtgbanhjjieagnaaHllShown
import Derived.Test.YtgbanhjjieagnaaHllFacts
import Derived.Test.YtgbanhjjieagnaaQuiet
import Derived.Test.YtgbanhjjieagnaaHllLaws
namespace Go.Proofs.Ytgbanhjjieagnaa
open Go.RowKit
set_option linter.unusedVariables false
set_option linter.unusedSimpArgs false
theorem of_n (b : Int) (A : Option Addr) (ns : List Int) (n capn : Nat) (hl : ns.length = n) (hU : Us ns) (hn : n ≤ 65536) (w : World) (hS : Sl w w.heap.size A ns) :
    Calls Try.prog 12 #[.int .i64 b, .slice A n capn] w (HRes w (ofH b ns)) := by
  subst hl
  exact of_any b A ns capn hU hn w hS
set_option maxRecDepth 100000 in
set_option maxHeartbeats 4000000 in
theorem grows_bad (w : World) (bits : Int) (ax : Option Addr) (nx capx : Nat) (x : List Int) (hUx : Us x) (hslx : Sl w w.heap.size ax x) (hkx : (min (nx : Int) 100).toNat = x.length) (hqx : x.length ≤ capx) (hmx : capx ≤ 9223372036854775807) (hxx : x.length ≤ 100) (n : Nat) (hn : n < 18446744073709551616) (hb : bitsB bits = false) :
    Calls Try.prog 6 #[.int .i64 bits, .slice ax nx capx, .int .u64 n] w fun e w' => e = .returned (.bool true) ∧ Below w.heap.size w w' := by
  have T := below_0 w
  have Sx := Lib.hid hslx
  have HKx := Lib.hid hkx
  clear hslx hkx
  have HB := Lib.hid hb
  clear hb
  go_enter Try.func6, Try.ntmps6
  go_wp2_with fail
  refine (shown_any _).mono ?_
  rintro e w90 ⟨rfl, hb90⟩
  replace Sx := Lib.hid (Sx.out.later hb90)
  replace T := Below.two T hb90
  clear hb90
  go_wp2_with fail
  refine (few_any _ nx capx ax x HKx.out hqx hmx).mono ?_
  rintro e w' ⟨rfl, rfl⟩
  go_wp2_with fail
  refine (of_any bits ax x capx hUx (by omega) _ Sx.out).mono ?_
  rintro e w1 ⟨rfl, hb1⟩
  replace Sx := Lib.hid (Sx.out.later hb1)
  replace T := Below.two T hb1
  rw [of_bad HB.out x]
  clear hb1
  go_wp2_with fail
  replace Sx := Lib.hid (Sx.out.later (below_al (below_0 _) (.cells #[.int .i64 0, .string (bs [])] 23)))
  replace T := below_al T (.cells #[.int .i64 0, .string (bs [])] 23)
  have X1 := Lib.hid (Blk.new w1 23 #[.int .i64 0, .string (bs [])])
  generalize w1.alloc (.cells #[.int .i64 0, .string (bs [])] 23) = V1 at *
  go_ret
  exact ⟨rfl, T⟩
set_option maxRecDepth 100000 in
set_option maxHeartbeats 4000000 in
theorem grows_good (w : World) (B : Nat) (h3 : 3 ≤ B) (h8 : B ≤ 8) (ax : Option Addr) (nx capx : Nat) (x : List Int) (hUx : Us x) (hslx : Sl w w.heap.size ax x) (hkx : (min (nx : Int) 100).toNat = x.length) (hqx : x.length ≤ capx) (hmx : capx ≤ 9223372036854775807) (hxx : x.length ≤ 100) (n : Nat) (hn : n < 18446744073709551616) :
    Calls Try.prog 6 #[.int .i64 B, .slice ax nx capx, .int .u64 n] w fun e w' => e = .returned (.bool true) ∧ Below w.heap.size w w' := by
  have T := below_0 w
  have Sx := Lib.hid hslx
  have HKx := Lib.hid hkx
  clear hslx hkx
  obtain ⟨g1, g2, g3⟩ := grows_facts h3 h8 x (n : Int) (by omega)
  go_enter Try.func6, Try.ntmps6
  go_wp2_with fail
  refine (shown_any _).mono ?_
  rintro e w90 ⟨rfl, hb90⟩
  replace Sx := Lib.hid (Sx.out.later hb90)
  replace T := Below.two T hb90
  clear hb90
  go_wp2_with fail
  refine (few_any _ nx capx ax x HKx.out hqx hmx).mono ?_
  rintro e w' ⟨rfl, rfl⟩
  go_wp2_with fail
  refine (of_any B ax x capx hUx (by omega) _ Sx.out).mono ?_
  rintro e w1 ⟨rfl, hb1⟩
  replace Sx := Lib.hid (Sx.out.later hb1)
  replace T := Below.two T hb1
  rw [of_regs h3 h8 x]
  clear hb1
  go_wp2_with fail
  replace Sx := Lib.hid (Sx.out.later (below_al (below_0 _) (.cells #[.int .i64 B, .string (bs (regs B x))] 23)))
  replace T := below_al T (.cells #[.int .i64 B, .string (bs (regs B x))] 23)
  have X1 := Lib.hid (Blk.new w1 23 #[.int .i64 B, .string (bs (regs B x))])
  generalize w1.alloc (.cells #[.int .i64 B, .string (bs (regs B x))] 23) = V1 at *
  refine (add_any B (regs B x) (bytes_regs h3 h8 _) n hn _).mono ?_
  rintro e w2 ⟨rfl, hb2⟩
  replace Sx := Lib.hid (Sx.out.later hb2)
  replace X1 := Lib.hid (X1.out.later hb2)
  replace T := Below.two T hb2
  rw [addH_regs2 h3 h8 x n]
  clear hb2
  obtain ⟨k0X1, k1X1, f0X1, f1X1⟩ := X1.out.two
  have kzX1 := X1.out.lt
  go_wp2_with fail
  clear k0X1 k1X1 f0X1 f1X1 kzX1
  replace Sx := Lib.hid (Sx.out.later (below_al (below_0 _) (.cells #[.int .i64 B, .string (bs (regs B (x ++ [(n : Int)])))] 23)))
  replace X1 := Lib.hid (X1.out.alloc (.cells #[.int .i64 B, .string (bs (regs B (x ++ [(n : Int)])))] 23))
  replace T := below_al T (.cells #[.int .i64 B, .string (bs (regs B (x ++ [(n : Int)])))] 23)
  have X2 := Lib.hid (Blk.new w2 23 #[.int .i64 B, .string (bs (regs B (x ++ [(n : Int)])))])
  generalize w2.alloc (.cells #[.int .i64 B, .string (bs (regs B (x ++ [(n : Int)])))] 23) = V2 at *
  refine (new_any B _).mono ?_
  rintro e w3 ⟨rfl, hb3⟩
  replace Sx := Lib.hid (Sx.out.later hb3)
  replace X1 := Lib.hid (X1.out.later hb3)
  replace X2 := Lib.hid (X2.out.later hb3)
  replace T := Below.two T hb3
  rw [of_regs h3 h8 []]
  clear hb3
  obtain ⟨k0X1, k1X1, f0X1, f1X1⟩ := X1.out.two
  have kzX1 := X1.out.lt
  obtain ⟨k0X2, k1X2, f0X2, f1X2⟩ := X2.out.two
  have kzX2 := X2.out.lt
  go_wp2_with fail
  clear k0X1 k1X1 f0X1 f1X1 kzX1 k0X2 k1X2 f0X2 f1X2 kzX2
  replace Sx := Lib.hid (Sx.out.later (below_al (below_0 _) (.cells #[.int .i64 B, .string (bs (regs B []))] 23)))
  replace X1 := Lib.hid (X1.out.alloc (.cells #[.int .i64 B, .string (bs (regs B []))] 23))
  replace X2 := Lib.hid (X2.out.alloc (.cells #[.int .i64 B, .string (bs (regs B []))] 23))
  replace T := below_al T (.cells #[.int .i64 B, .string (bs (regs B []))] 23)
  have X3 := Lib.hid (Blk.new w3 23 #[.int .i64 B, .string (bs (regs B []))])
  generalize w3.alloc (.cells #[.int .i64 B, .string (bs (regs B []))] 23) = V3 at *
  have F0X1 := After.cell (X1.out.cell 0) X1.out.lt
  have F1X1 := After.cell (X1.out.cell 1) X1.out.lt
  have F0X2 := After.cell (X2.out.cell 0) X2.out.lt
  have F1X2 := After.cell (X2.out.cell 1) X2.out.lt
  have F0X3 := After.cell (X3.out.cell 0) X3.out.lt
  have F1X3 := After.cell (X3.out.cell 1) X3.out.lt
  haveI := After.some V3
  obtain ⟨c1, hc1⟩ : ∃ c, countF B (regs B x) = c := ⟨_, rfl⟩
  obtain ⟨c2, hc2⟩ : ∃ c, countF B (regs B (x ++ [(n : Int)])) = c := ⟨_, rfl⟩
  rw [hc1, hc2] at g1
  rw [hc2] at g3
  have C1 : Hid (∀ y : After V3, Calls Try.prog 24 #[hV B (regs B x)] y.at_ fun e w' => e = .returned (.int .u64 (c1 : Int)) ∧ Below y.at_.heap.size y.at_ w') := fun y => by rw [← hc1]; exact count_any B _ (bytes_regs h3 h8 _) y.at_
  have C2 : Hid (∀ y : After V3, Calls Try.prog 24 #[hV B (regs B (x ++ [(n : Int)]))] y.at_ fun e w' => e = .returned (.int .u64 (c2 : Int)) ∧ Below y.at_.heap.size y.at_ w') := fun y => by rw [← hc2]; exact count_any B _ (bytes_regs h3 h8 _) y.at_
  have C3 : Hid (∀ y : After V3, Calls Try.prog 24 #[hV B (regs B [])] y.at_ fun e w' => e = .returned (.int .u64 0) ∧ Below y.at_.heap.size y.at_ w') := fun y => by have h := count_any B _ (bytes_regs h3 h8 []) y.at_; rw [g2] at h; exact h
  have C4 : Hid (∀ y : After V3, Calls Try.prog 21 #[hV B (regs B (x ++ [(n : Int)]))] y.at_ fun e w' => e = .returned (.bool true) ∧ Below y.at_.heap.size y.at_ w') := fun y => by have h := right_any B _ (bytes_regs h3 h8 (x ++ [(n : Int)])) y.at_; rw [right_regs h3 h8] at h; exact h
  clear hc1 hc2 g2
  refine wp_region_below (by kernel_rfl) (by kernel_rfl) ?_
  repeat (go_big_quiet_step (first | with_reducible exact after_calls (C1.out _) | with_reducible exact after_calls (C2.out _) | with_reducible exact after_calls (C3.out _) | with_reducible exact after_calls (C4.out _)))
  refine wpQuiet_nil ?_
  rintro _ ⟨⟨w9, hb9⟩, rfl⟩
  go_wp2_with fail
  go_ret
  exact ⟨rfl, Below.two T hb9⟩
end Go.Proofs.Ytgbanhjjieagnaa

/-
  The walk of the law aviarylaw07.HllParts: call by call, each callee by its contract.
-/
import Derived.Test.YtgbanhjjieagnaaHllShown
import Derived.Test.YtgbanhjjieagnaaHllFacts
import Derived.Test.YtgbanhjjieagnaaQuiet
import Derived.Test.YtgbanhjjieagnaaHllLaws
namespace Go.Proofs.Ytgbanhjjieagnaa
open Go.RowKit
set_option linter.unusedVariables false
set_option linter.unusedSimpArgs false
theorem of_n (b : Int) (A : Option Addr) (ns : List Int) (n capn : Nat) (hl : ns.length = n) (hU : Us ns) (hn : n ≤ 65536) (w : World) (hS : Sl w w.heap.size A ns) :
    Calls Try.prog 12 #[.int .i64 b, .slice A n capn] w (HRes w (ofH b ns)) := by
  subst hl
  exact of_any b A ns capn hU hn w hS
set_option maxRecDepth 100000 in
set_option maxHeartbeats 4000000 in
theorem parts_badA (w : World) (bits at_ : Int) (ax : Option Addr) (nx capx : Nat) (x : List Int) (hUx : Us x) (hslx : Sl w w.heap.size ax x) (hkx : (min (nx : Int) 100).toNat = x.length) (hqx : x.length ≤ capx) (hmx : capx ≤ 9223372036854775807) (hxx : x.length ≤ 100) (K : Nat) (hK : K ≤ x.length) (hat : max 0 (min at_ (x.length : Int)) = (K : Int)) (hcap : capx = K) (hb : bitsB bits = false) :
    Calls Try.prog 5 #[.int .i64 bits, .slice ax nx capx, .int .i64 at_] w fun e w' => e = .returned (.bool true) ∧ Below w.heap.size w w' := by
  have SY := Lib.hid (hslx.take K)
  have hd : x.drop K = [] := List.drop_eq_nil_of_le (by omega)
  have SZ : Hid (Sl w w.heap.size ax (x.drop K)) := by rw [hd]; exact Sl.nil
  subst hcap
  clear hd
  have T := below_0 w
  have Sx := Lib.hid hslx
  have HKx := Lib.hid hkx
  clear hslx hkx
  have hlt : (x.take capx).length = capx := by rw [List.length_take]; omega
  have hld : (x.drop capx).length = 0 := by rw [List.length_drop]; omega
  have HLT := Lib.hid hlt
  have HLD := Lib.hid hld
  have k0 : (0 : Int) ≤ (capx : Int) := by omega
  have k1 : (capx : Int) ≤ (capx : Int) := by omega
  have k2 : (capx : Int) ≤ (x.length : Int) := by omega
  clear hlt hld
  have HB := Lib.hid hb
  have d9 : (decide (bits < 3) || decide (8 < bits)) = true := bits_no hb
  clear hb
  go_enter Try.func5, Try.ntmps5
  go_wp2_with fail
  refine (shown_any _).mono ?_
  rintro e w90 ⟨rfl, hb90⟩
  replace Sx := Lib.hid (Sx.out.later hb90)
  replace SY := Lib.hid (SY.out.later hb90)
  replace SZ := Lib.hid (SZ.out.later hb90)
  replace T := Below.two T hb90
  clear hb90
  go_wp2_with fail
  refine (few_any _ nx capx ax x HKx.out hqx hmx).mono ?_
  rintro e w' ⟨rfl, rfl⟩
  go_wp2_with fail
  refine (of_n bits ax (x) x.length capx rfl hUx (by omega) _ Sx.out).mono ?_
  rintro e w1 ⟨rfl, hb1⟩
  replace Sx := Lib.hid (Sx.out.later hb1)
  replace SY := Lib.hid (SY.out.later hb1)
  replace SZ := Lib.hid (SZ.out.later hb1)
  replace T := Below.two T hb1
  rw [of_bad HB.out (x)]
  clear hb1
  go_wp2_with fail
  replace Sx := Lib.hid (Sx.out.later (below_al (below_0 _) (.cells #[.int .i64 0, .string (bs [])] 23)))
  replace SY := Lib.hid (SY.out.later (below_al (below_0 _) (.cells #[.int .i64 0, .string (bs [])] 23)))
  replace SZ := Lib.hid (SZ.out.later (below_al (below_0 _) (.cells #[.int .i64 0, .string (bs [])] 23)))
  replace T := below_al T (.cells #[.int .i64 0, .string (bs [])] 23)
  have X1 := Lib.hid (Blk.new w1 23 #[.int .i64 0, .string (bs [])])
  generalize w1.alloc (.cells #[.int .i64 0, .string (bs [])] 23) = V1 at *
  refine (of_n bits ax (x.take capx) capx capx HLT.out (hUx.take _) (by omega) _ SY.out).mono ?_
  rintro e w2 ⟨rfl, hb2⟩
  replace Sx := Lib.hid (Sx.out.later hb2)
  replace SY := Lib.hid (SY.out.later hb2)
  replace SZ := Lib.hid (SZ.out.later hb2)
  replace X1 := Lib.hid (X1.out.later hb2)
  replace T := Below.two T hb2
  rw [of_bad HB.out (x.take capx)]
  clear hb2
  obtain ⟨k0X1, k1X1, f0X1, f1X1⟩ := X1.out.two
  have kzX1 := X1.out.lt
  go_wp2_with fail
  clear k0X1 k1X1 f0X1 f1X1 kzX1
  replace Sx := Lib.hid (Sx.out.later (below_al (below_0 _) (.cells #[.int .i64 0, .string (bs [])] 23)))
  replace SY := Lib.hid (SY.out.later (below_al (below_0 _) (.cells #[.int .i64 0, .string (bs [])] 23)))
  replace SZ := Lib.hid (SZ.out.later (below_al (below_0 _) (.cells #[.int .i64 0, .string (bs [])] 23)))
  replace X1 := Lib.hid (X1.out.alloc (.cells #[.int .i64 0, .string (bs [])] 23))
  replace T := below_al T (.cells #[.int .i64 0, .string (bs [])] 23)
  have X2 := Lib.hid (Blk.new w2 23 #[.int .i64 0, .string (bs [])])
  generalize w2.alloc (.cells #[.int .i64 0, .string (bs [])] 23) = V2 at *
  refine (of_n bits ax (x.drop capx) 0 0 HLD.out (hUx.drop _) (by omega) _ SZ.out).mono ?_
  rintro e w3 ⟨rfl, hb3⟩
  replace Sx := Lib.hid (Sx.out.later hb3)
  replace SY := Lib.hid (SY.out.later hb3)
  replace SZ := Lib.hid (SZ.out.later hb3)
  replace X1 := Lib.hid (X1.out.later hb3)
  replace X2 := Lib.hid (X2.out.later hb3)
  replace T := Below.two T hb3
  rw [of_bad HB.out (x.drop capx)]
  clear hb3
  obtain ⟨k0X1, k1X1, f0X1, f1X1⟩ := X1.out.two
  have kzX1 := X1.out.lt
  obtain ⟨k0X2, k1X2, f0X2, f1X2⟩ := X2.out.two
  have kzX2 := X2.out.lt
  go_wp2_with fail
  all_goals (go_ret; exact ⟨rfl, below_al T _⟩)
set_option maxRecDepth 100000 in
set_option maxHeartbeats 4000000 in
theorem parts_badB (w : World) (bits at_ : Int) (ad : Addr) (nx capx : Nat) (x : List Int) (hUx : Us x) (hslx : Sl w w.heap.size (some ad) x) (hkx : (min (nx : Int) 100).toNat = x.length) (hqx : x.length ≤ capx) (hmx : capx ≤ 9223372036854775807) (hxx : x.length ≤ 100) (K : Nat) (hK : K ≤ x.length) (hat : max 0 (min at_ (x.length : Int)) = (K : Int)) (hcap : ¬ capx = K) (hb : bitsB bits = false) :
    Calls Try.prog 5 #[.int .i64 bits, .slice (some ad) nx capx, .int .i64 at_] w fun e w' => e = .returned (.bool true) ∧ Below w.heap.size w w' := by
  have SY := Lib.hid (hslx.take K)
  have hcut := hslx.cut K capx hqx
  rw [if_neg hcap] at hcut
  have SZ : Hid (Sl w w.heap.size (some (ad.add K)) (x.drop K)) := hcut
  clear hcut
  have T := below_0 w
  have Sx := Lib.hid hslx
  have HKx := Lib.hid hkx
  clear hslx hkx
  have hlt : (x.take K).length = K := by rw [List.length_take]; omega
  have hld : (x.drop K).length = x.length - K := by rw [List.length_drop]
  have HLT := Lib.hid hlt
  have HLD := Lib.hid hld
  have k0 : (0 : Int) ≤ (K : Int) := by omega
  have k1 : (K : Int) ≤ (capx : Int) := by omega
  have k2 : (K : Int) ≤ (x.length : Int) := by omega
  clear hlt hld
  have HB := Lib.hid hb
  have d9 : (decide (bits < 3) || decide (8 < bits)) = true := bits_no hb
  clear hb
  go_enter Try.func5, Try.ntmps5
  go_wp2_with fail
  refine (shown_any _).mono ?_
  rintro e w90 ⟨rfl, hb90⟩
  replace Sx := Lib.hid (Sx.out.later hb90)
  replace SY := Lib.hid (SY.out.later hb90)
  replace SZ := Lib.hid (SZ.out.later hb90)
  replace T := Below.two T hb90
  clear hb90
  go_wp2_with fail
  refine (few_any _ nx capx (some ad) x HKx.out hqx hmx).mono ?_
  rintro e w' ⟨rfl, rfl⟩
  go_wp2_with fail
  refine (of_n bits (some ad) (x) x.length capx rfl hUx (by omega) _ Sx.out).mono ?_
  rintro e w1 ⟨rfl, hb1⟩
  replace Sx := Lib.hid (Sx.out.later hb1)
  replace SY := Lib.hid (SY.out.later hb1)
  replace SZ := Lib.hid (SZ.out.later hb1)
  replace T := Below.two T hb1
  rw [of_bad HB.out (x)]
  clear hb1
  go_wp2_with fail
  replace Sx := Lib.hid (Sx.out.later (below_al (below_0 _) (.cells #[.int .i64 0, .string (bs [])] 23)))
  replace SY := Lib.hid (SY.out.later (below_al (below_0 _) (.cells #[.int .i64 0, .string (bs [])] 23)))
  replace SZ := Lib.hid (SZ.out.later (below_al (below_0 _) (.cells #[.int .i64 0, .string (bs [])] 23)))
  replace T := below_al T (.cells #[.int .i64 0, .string (bs [])] 23)
  have X1 := Lib.hid (Blk.new w1 23 #[.int .i64 0, .string (bs [])])
  generalize w1.alloc (.cells #[.int .i64 0, .string (bs [])] 23) = V1 at *
  refine (of_n bits (some ad) (x.take K) K capx HLT.out (hUx.take _) (by omega) _ SY.out).mono ?_
  rintro e w2 ⟨rfl, hb2⟩
  replace Sx := Lib.hid (Sx.out.later hb2)
  replace SY := Lib.hid (SY.out.later hb2)
  replace SZ := Lib.hid (SZ.out.later hb2)
  replace X1 := Lib.hid (X1.out.later hb2)
  replace T := Below.two T hb2
  rw [of_bad HB.out (x.take K)]
  clear hb2
  obtain ⟨k0X1, k1X1, f0X1, f1X1⟩ := X1.out.two
  have kzX1 := X1.out.lt
  go_wp2_with fail
  clear k0X1 k1X1 f0X1 f1X1 kzX1
  replace Sx := Lib.hid (Sx.out.later (below_al (below_0 _) (.cells #[.int .i64 0, .string (bs [])] 23)))
  replace SY := Lib.hid (SY.out.later (below_al (below_0 _) (.cells #[.int .i64 0, .string (bs [])] 23)))
  replace SZ := Lib.hid (SZ.out.later (below_al (below_0 _) (.cells #[.int .i64 0, .string (bs [])] 23)))
  replace X1 := Lib.hid (X1.out.alloc (.cells #[.int .i64 0, .string (bs [])] 23))
  replace T := below_al T (.cells #[.int .i64 0, .string (bs [])] 23)
  have X2 := Lib.hid (Blk.new w2 23 #[.int .i64 0, .string (bs [])])
  generalize w2.alloc (.cells #[.int .i64 0, .string (bs [])] 23) = V2 at *
  refine (of_n bits (some (ad.add K)) (x.drop K) (x.length - K) (capx - K) HLD.out (hUx.drop _) (by omega) _ SZ.out).mono ?_
  rintro e w3 ⟨rfl, hb3⟩
  replace Sx := Lib.hid (Sx.out.later hb3)
  replace SY := Lib.hid (SY.out.later hb3)
  replace SZ := Lib.hid (SZ.out.later hb3)
  replace X1 := Lib.hid (X1.out.later hb3)
  replace X2 := Lib.hid (X2.out.later hb3)
  replace T := Below.two T hb3
  rw [of_bad HB.out (x.drop K)]
  clear hb3
  obtain ⟨k0X1, k1X1, f0X1, f1X1⟩ := X1.out.two
  have kzX1 := X1.out.lt
  obtain ⟨k0X2, k1X2, f0X2, f1X2⟩ := X2.out.two
  have kzX2 := X2.out.lt
  go_wp2_with fail
  all_goals (go_ret; exact ⟨rfl, below_al T _⟩)
set_option maxRecDepth 100000 in
set_option maxHeartbeats 4000000 in
theorem parts_goodA (w : World) (at_ : Int) (B : Nat) (h3 : 3 ≤ B) (h8 : B ≤ 8) (ax : Option Addr) (nx capx : Nat) (x : List Int) (hUx : Us x) (hslx : Sl w w.heap.size ax x) (hkx : (min (nx : Int) 100).toNat = x.length) (hqx : x.length ≤ capx) (hmx : capx ≤ 9223372036854775807) (hxx : x.length ≤ 100) (K : Nat) (hK : K ≤ x.length) (hat : max 0 (min at_ (x.length : Int)) = (K : Int)) (hcap : capx = K) :
    Calls Try.prog 5 #[.int .i64 B, .slice ax nx capx, .int .i64 at_] w fun e w' => e = .returned (.bool true) ∧ Below w.heap.size w w' := by
  have SY := Lib.hid (hslx.take K)
  have hd : x.drop K = [] := List.drop_eq_nil_of_le (by omega)
  have SZ : Hid (Sl w w.heap.size ax (x.drop K)) := by rw [hd]; exact Sl.nil
  subst hcap
  clear hd
  have T := below_0 w
  have Sx := Lib.hid hslx
  have HKx := Lib.hid hkx
  clear hslx hkx
  have hlt : (x.take capx).length = capx := by rw [List.length_take]; omega
  have hld : (x.drop capx).length = 0 := by rw [List.length_drop]; omega
  have HLT := Lib.hid hlt
  have HLD := Lib.hid hld
  have k0 : (0 : Int) ≤ (capx : Int) := by omega
  have k1 : (capx : Int) ≤ (capx : Int) := by omega
  have k2 : (capx : Int) ≤ (x.length : Int) := by omega
  clear hlt hld
  have HTD := Lib.hid (List.take_append_drop capx x)
  go_enter Try.func5, Try.ntmps5
  go_wp2_with fail
  refine (shown_any _).mono ?_
  rintro e w90 ⟨rfl, hb90⟩
  replace Sx := Lib.hid (Sx.out.later hb90)
  replace SY := Lib.hid (SY.out.later hb90)
  replace SZ := Lib.hid (SZ.out.later hb90)
  replace T := Below.two T hb90
  clear hb90
  go_wp2_with fail
  refine (few_any _ nx capx ax x HKx.out hqx hmx).mono ?_
  rintro e w' ⟨rfl, rfl⟩
  go_wp2_with fail
  refine (of_n B ax (x) x.length capx rfl hUx (by omega) _ Sx.out).mono ?_
  rintro e w1 ⟨rfl, hb1⟩
  replace Sx := Lib.hid (Sx.out.later hb1)
  replace SY := Lib.hid (SY.out.later hb1)
  replace SZ := Lib.hid (SZ.out.later hb1)
  replace T := Below.two T hb1
  rw [of_regs h3 h8 (x)]
  clear hb1
  go_wp2_with fail
  replace Sx := Lib.hid (Sx.out.later (below_al (below_0 _) (.cells #[.int .i64 B, .string (bs (regs B (x)))] 23)))
  replace SY := Lib.hid (SY.out.later (below_al (below_0 _) (.cells #[.int .i64 B, .string (bs (regs B (x)))] 23)))
  replace SZ := Lib.hid (SZ.out.later (below_al (below_0 _) (.cells #[.int .i64 B, .string (bs (regs B (x)))] 23)))
  replace T := below_al T (.cells #[.int .i64 B, .string (bs (regs B (x)))] 23)
  have X1 := Lib.hid (Blk.new w1 23 #[.int .i64 B, .string (bs (regs B (x)))])
  generalize w1.alloc (.cells #[.int .i64 B, .string (bs (regs B (x)))] 23) = V1 at *
  refine (of_n B ax (x.take capx) capx capx HLT.out (hUx.take _) (by omega) _ SY.out).mono ?_
  rintro e w2 ⟨rfl, hb2⟩
  replace Sx := Lib.hid (Sx.out.later hb2)
  replace SY := Lib.hid (SY.out.later hb2)
  replace SZ := Lib.hid (SZ.out.later hb2)
  replace X1 := Lib.hid (X1.out.later hb2)
  replace T := Below.two T hb2
  rw [of_regs h3 h8 (x.take capx)]
  clear hb2
  obtain ⟨k0X1, k1X1, f0X1, f1X1⟩ := X1.out.two
  have kzX1 := X1.out.lt
  go_wp2_with fail
  clear k0X1 k1X1 f0X1 f1X1 kzX1
  replace Sx := Lib.hid (Sx.out.later (below_al (below_0 _) (.cells #[.int .i64 B, .string (bs (regs B (x.take capx)))] 23)))
  replace SY := Lib.hid (SY.out.later (below_al (below_0 _) (.cells #[.int .i64 B, .string (bs (regs B (x.take capx)))] 23)))
  replace SZ := Lib.hid (SZ.out.later (below_al (below_0 _) (.cells #[.int .i64 B, .string (bs (regs B (x.take capx)))] 23)))
  replace X1 := Lib.hid (X1.out.alloc (.cells #[.int .i64 B, .string (bs (regs B (x.take capx)))] 23))
  replace T := below_al T (.cells #[.int .i64 B, .string (bs (regs B (x.take capx)))] 23)
  have X2 := Lib.hid (Blk.new w2 23 #[.int .i64 B, .string (bs (regs B (x.take capx)))])
  generalize w2.alloc (.cells #[.int .i64 B, .string (bs (regs B (x.take capx)))] 23) = V2 at *
  refine (of_n B ax (x.drop capx) 0 0 HLD.out (hUx.drop _) (by omega) _ SZ.out).mono ?_
  rintro e w3 ⟨rfl, hb3⟩
  replace Sx := Lib.hid (Sx.out.later hb3)
  replace SY := Lib.hid (SY.out.later hb3)
  replace SZ := Lib.hid (SZ.out.later hb3)
  replace X1 := Lib.hid (X1.out.later hb3)
  replace X2 := Lib.hid (X2.out.later hb3)
  replace T := Below.two T hb3
  rw [of_regs h3 h8 (x.drop capx)]
  clear hb3
  obtain ⟨k0X1, k1X1, f0X1, f1X1⟩ := X1.out.two
  have kzX1 := X1.out.lt
  obtain ⟨k0X2, k1X2, f0X2, f1X2⟩ := X2.out.two
  have kzX2 := X2.out.lt
  go_wp2_with fail
  clear k0X1 k1X1 f0X1 f1X1 kzX1 k0X2 k1X2 f0X2 f1X2 kzX2
  replace Sx := Lib.hid (Sx.out.later (below_al (below_0 _) (.cells #[.int .i64 B, .string (bs (regs B (x.drop capx)))] 23)))
  replace SY := Lib.hid (SY.out.later (below_al (below_0 _) (.cells #[.int .i64 B, .string (bs (regs B (x.drop capx)))] 23)))
  replace SZ := Lib.hid (SZ.out.later (below_al (below_0 _) (.cells #[.int .i64 B, .string (bs (regs B (x.drop capx)))] 23)))
  replace X1 := Lib.hid (X1.out.alloc (.cells #[.int .i64 B, .string (bs (regs B (x.drop capx)))] 23))
  replace X2 := Lib.hid (X2.out.alloc (.cells #[.int .i64 B, .string (bs (regs B (x.drop capx)))] 23))
  replace T := below_al T (.cells #[.int .i64 B, .string (bs (regs B (x.drop capx)))] 23)
  have X3 := Lib.hid (Blk.new w3 23 #[.int .i64 B, .string (bs (regs B (x.drop capx)))])
  generalize w3.alloc (.cells #[.int .i64 B, .string (bs (regs B (x.drop capx)))] 23) = V3 at *
  refine (merge_any B B (regs B (x.take capx)) (regs B (x.drop capx)) (bytes_regs h3 h8 _) (bytes_regs h3 h8 _) _).mono ?_
  rintro e w4 ⟨rfl, hb4⟩
  replace Sx := Lib.hid (Sx.out.later hb4)
  replace SY := Lib.hid (SY.out.later hb4)
  replace SZ := Lib.hid (SZ.out.later hb4)
  replace X1 := Lib.hid (X1.out.later hb4)
  replace X2 := Lib.hid (X2.out.later hb4)
  replace X3 := Lib.hid (X3.out.later hb4)
  replace T := Below.two T hb4
  rw [mergeH_regs h3 h8 (x.take capx) (x.drop capx), HTD.out]
  clear hb4
  obtain ⟨k0X1, k1X1, f0X1, f1X1⟩ := X1.out.two
  have kzX1 := X1.out.lt
  obtain ⟨k0X2, k1X2, f0X2, f1X2⟩ := X2.out.two
  have kzX2 := X2.out.lt
  obtain ⟨k0X3, k1X3, f0X3, f1X3⟩ := X3.out.two
  have kzX3 := X3.out.lt
  go_wp2_with fail
  clear k0X1 k1X1 f0X1 f1X1 kzX1 k0X2 k1X2 f0X2 f1X2 kzX2 k0X3 k1X3 f0X3 f1X3 kzX3
  replace Sx := Lib.hid (Sx.out.later (below_al (below_0 _) (.cells #[.int .i64 B, .string (bs (regs B x))] 23)))
  replace SY := Lib.hid (SY.out.later (below_al (below_0 _) (.cells #[.int .i64 B, .string (bs (regs B x))] 23)))
  replace SZ := Lib.hid (SZ.out.later (below_al (below_0 _) (.cells #[.int .i64 B, .string (bs (regs B x))] 23)))
  replace X1 := Lib.hid (X1.out.alloc (.cells #[.int .i64 B, .string (bs (regs B x))] 23))
  replace X2 := Lib.hid (X2.out.alloc (.cells #[.int .i64 B, .string (bs (regs B x))] 23))
  replace X3 := Lib.hid (X3.out.alloc (.cells #[.int .i64 B, .string (bs (regs B x))] 23))
  replace T := below_al T (.cells #[.int .i64 B, .string (bs (regs B x))] 23)
  have X4 := Lib.hid (Blk.new w4 23 #[.int .i64 B, .string (bs (regs B x))])
  generalize w4.alloc (.cells #[.int .i64 B, .string (bs (regs B x))] 23) = V4 at *
  refine (merge_any B B (regs B (x.drop capx)) (regs B (x.take capx)) (bytes_regs h3 h8 _) (bytes_regs h3 h8 _) _).mono ?_
  rintro e w5 ⟨rfl, hb5⟩
  replace Sx := Lib.hid (Sx.out.later hb5)
  replace SY := Lib.hid (SY.out.later hb5)
  replace SZ := Lib.hid (SZ.out.later hb5)
  replace X1 := Lib.hid (X1.out.later hb5)
  replace X2 := Lib.hid (X2.out.later hb5)
  replace X3 := Lib.hid (X3.out.later hb5)
  replace X4 := Lib.hid (X4.out.later hb5)
  replace T := Below.two T hb5
  rw [mergeH_regs h3 h8 (x.drop capx) (x.take capx), regs_comm, HTD.out]
  clear hb5
  obtain ⟨k0X1, k1X1, f0X1, f1X1⟩ := X1.out.two
  have kzX1 := X1.out.lt
  obtain ⟨k0X2, k1X2, f0X2, f1X2⟩ := X2.out.two
  have kzX2 := X2.out.lt
  obtain ⟨k0X3, k1X3, f0X3, f1X3⟩ := X3.out.two
  have kzX3 := X3.out.lt
  obtain ⟨k0X4, k1X4, f0X4, f1X4⟩ := X4.out.two
  have kzX4 := X4.out.lt
  go_wp2_with fail
  clear k0X1 k1X1 f0X1 f1X1 kzX1 k0X2 k1X2 f0X2 f1X2 kzX2 k0X3 k1X3 f0X3 f1X3 kzX3 k0X4 k1X4 f0X4 f1X4 kzX4
  replace Sx := Lib.hid (Sx.out.later (below_al (below_0 _) (.cells #[.int .i64 B, .string (bs (regs B x))] 23)))
  replace SY := Lib.hid (SY.out.later (below_al (below_0 _) (.cells #[.int .i64 B, .string (bs (regs B x))] 23)))
  replace SZ := Lib.hid (SZ.out.later (below_al (below_0 _) (.cells #[.int .i64 B, .string (bs (regs B x))] 23)))
  replace X1 := Lib.hid (X1.out.alloc (.cells #[.int .i64 B, .string (bs (regs B x))] 23))
  replace X2 := Lib.hid (X2.out.alloc (.cells #[.int .i64 B, .string (bs (regs B x))] 23))
  replace X3 := Lib.hid (X3.out.alloc (.cells #[.int .i64 B, .string (bs (regs B x))] 23))
  replace X4 := Lib.hid (X4.out.alloc (.cells #[.int .i64 B, .string (bs (regs B x))] 23))
  replace T := below_al T (.cells #[.int .i64 B, .string (bs (regs B x))] 23)
  have X5 := Lib.hid (Blk.new w5 23 #[.int .i64 B, .string (bs (regs B x))])
  generalize w5.alloc (.cells #[.int .i64 B, .string (bs (regs B x))] 23) = V5 at *
  refine (merge_any B B (regs B x) (regs B x) (bytes_regs h3 h8 _) (bytes_regs h3 h8 _) _).mono ?_
  rintro e w6 ⟨rfl, hb6⟩
  replace Sx := Lib.hid (Sx.out.later hb6)
  replace SY := Lib.hid (SY.out.later hb6)
  replace SZ := Lib.hid (SZ.out.later hb6)
  replace X1 := Lib.hid (X1.out.later hb6)
  replace X2 := Lib.hid (X2.out.later hb6)
  replace X3 := Lib.hid (X3.out.later hb6)
  replace X4 := Lib.hid (X4.out.later hb6)
  replace X5 := Lib.hid (X5.out.later hb6)
  replace T := Below.two T hb6
  rw [mergeH_regs h3 h8 x x, regs_self]
  clear hb6
  obtain ⟨k0X1, k1X1, f0X1, f1X1⟩ := X1.out.two
  have kzX1 := X1.out.lt
  obtain ⟨k0X2, k1X2, f0X2, f1X2⟩ := X2.out.two
  have kzX2 := X2.out.lt
  obtain ⟨k0X3, k1X3, f0X3, f1X3⟩ := X3.out.two
  have kzX3 := X3.out.lt
  obtain ⟨k0X4, k1X4, f0X4, f1X4⟩ := X4.out.two
  have kzX4 := X4.out.lt
  obtain ⟨k0X5, k1X5, f0X5, f1X5⟩ := X5.out.two
  have kzX5 := X5.out.lt
  go_wp2_with fail
  clear k0X1 k1X1 f0X1 f1X1 kzX1 k0X2 k1X2 f0X2 f1X2 kzX2 k0X3 k1X3 f0X3 f1X3 kzX3 k0X4 k1X4 f0X4 f1X4 kzX4 k0X5 k1X5 f0X5 f1X5 kzX5
  replace Sx := Lib.hid (Sx.out.later (below_al (below_0 _) (.cells #[.int .i64 B, .string (bs (regs B x))] 23)))
  replace SY := Lib.hid (SY.out.later (below_al (below_0 _) (.cells #[.int .i64 B, .string (bs (regs B x))] 23)))
  replace SZ := Lib.hid (SZ.out.later (below_al (below_0 _) (.cells #[.int .i64 B, .string (bs (regs B x))] 23)))
  replace X1 := Lib.hid (X1.out.alloc (.cells #[.int .i64 B, .string (bs (regs B x))] 23))
  replace X2 := Lib.hid (X2.out.alloc (.cells #[.int .i64 B, .string (bs (regs B x))] 23))
  replace X3 := Lib.hid (X3.out.alloc (.cells #[.int .i64 B, .string (bs (regs B x))] 23))
  replace X4 := Lib.hid (X4.out.alloc (.cells #[.int .i64 B, .string (bs (regs B x))] 23))
  replace X5 := Lib.hid (X5.out.alloc (.cells #[.int .i64 B, .string (bs (regs B x))] 23))
  replace T := below_al T (.cells #[.int .i64 B, .string (bs (regs B x))] 23)
  have X6 := Lib.hid (Blk.new w6 23 #[.int .i64 B, .string (bs (regs B x))])
  generalize w6.alloc (.cells #[.int .i64 B, .string (bs (regs B x))] 23) = V6 at *
  go_ret
  exact ⟨rfl, T⟩
set_option maxRecDepth 100000 in
set_option maxHeartbeats 4000000 in
theorem parts_goodB (w : World) (at_ : Int) (B : Nat) (h3 : 3 ≤ B) (h8 : B ≤ 8) (ad : Addr) (nx capx : Nat) (x : List Int) (hUx : Us x) (hslx : Sl w w.heap.size (some ad) x) (hkx : (min (nx : Int) 100).toNat = x.length) (hqx : x.length ≤ capx) (hmx : capx ≤ 9223372036854775807) (hxx : x.length ≤ 100) (K : Nat) (hK : K ≤ x.length) (hat : max 0 (min at_ (x.length : Int)) = (K : Int)) (hcap : ¬ capx = K) :
    Calls Try.prog 5 #[.int .i64 B, .slice (some ad) nx capx, .int .i64 at_] w fun e w' => e = .returned (.bool true) ∧ Below w.heap.size w w' := by
  have SY := Lib.hid (hslx.take K)
  have hcut := hslx.cut K capx hqx
  rw [if_neg hcap] at hcut
  have SZ : Hid (Sl w w.heap.size (some (ad.add K)) (x.drop K)) := hcut
  clear hcut
  have T := below_0 w
  have Sx := Lib.hid hslx
  have HKx := Lib.hid hkx
  clear hslx hkx
  have hlt : (x.take K).length = K := by rw [List.length_take]; omega
  have hld : (x.drop K).length = x.length - K := by rw [List.length_drop]
  have HLT := Lib.hid hlt
  have HLD := Lib.hid hld
  have k0 : (0 : Int) ≤ (K : Int) := by omega
  have k1 : (K : Int) ≤ (capx : Int) := by omega
  have k2 : (K : Int) ≤ (x.length : Int) := by omega
  clear hlt hld
  have HTD := Lib.hid (List.take_append_drop K x)
  go_enter Try.func5, Try.ntmps5
  go_wp2_with fail
  refine (shown_any _).mono ?_
  rintro e w90 ⟨rfl, hb90⟩
  replace Sx := Lib.hid (Sx.out.later hb90)
  replace SY := Lib.hid (SY.out.later hb90)
  replace SZ := Lib.hid (SZ.out.later hb90)
  replace T := Below.two T hb90
  clear hb90
  go_wp2_with fail
  refine (few_any _ nx capx (some ad) x HKx.out hqx hmx).mono ?_
  rintro e w' ⟨rfl, rfl⟩
  go_wp2_with fail
  refine (of_n B (some ad) (x) x.length capx rfl hUx (by omega) _ Sx.out).mono ?_
  rintro e w1 ⟨rfl, hb1⟩
  replace Sx := Lib.hid (Sx.out.later hb1)
  replace SY := Lib.hid (SY.out.later hb1)
  replace SZ := Lib.hid (SZ.out.later hb1)
  replace T := Below.two T hb1
  rw [of_regs h3 h8 (x)]
  clear hb1
  go_wp2_with fail
  replace Sx := Lib.hid (Sx.out.later (below_al (below_0 _) (.cells #[.int .i64 B, .string (bs (regs B (x)))] 23)))
  replace SY := Lib.hid (SY.out.later (below_al (below_0 _) (.cells #[.int .i64 B, .string (bs (regs B (x)))] 23)))
  replace SZ := Lib.hid (SZ.out.later (below_al (below_0 _) (.cells #[.int .i64 B, .string (bs (regs B (x)))] 23)))
  replace T := below_al T (.cells #[.int .i64 B, .string (bs (regs B (x)))] 23)
  have X1 := Lib.hid (Blk.new w1 23 #[.int .i64 B, .string (bs (regs B (x)))])
  generalize w1.alloc (.cells #[.int .i64 B, .string (bs (regs B (x)))] 23) = V1 at *
  refine (of_n B (some ad) (x.take K) K capx HLT.out (hUx.take _) (by omega) _ SY.out).mono ?_
  rintro e w2 ⟨rfl, hb2⟩
  replace Sx := Lib.hid (Sx.out.later hb2)
  replace SY := Lib.hid (SY.out.later hb2)
  replace SZ := Lib.hid (SZ.out.later hb2)
  replace X1 := Lib.hid (X1.out.later hb2)
  replace T := Below.two T hb2
  rw [of_regs h3 h8 (x.take K)]
  clear hb2
  obtain ⟨k0X1, k1X1, f0X1, f1X1⟩ := X1.out.two
  have kzX1 := X1.out.lt
  go_wp2_with fail
  clear k0X1 k1X1 f0X1 f1X1 kzX1
  replace Sx := Lib.hid (Sx.out.later (below_al (below_0 _) (.cells #[.int .i64 B, .string (bs (regs B (x.take K)))] 23)))
  replace SY := Lib.hid (SY.out.later (below_al (below_0 _) (.cells #[.int .i64 B, .string (bs (regs B (x.take K)))] 23)))
  replace SZ := Lib.hid (SZ.out.later (below_al (below_0 _) (.cells #[.int .i64 B, .string (bs (regs B (x.take K)))] 23)))
  replace X1 := Lib.hid (X1.out.alloc (.cells #[.int .i64 B, .string (bs (regs B (x.take K)))] 23))
  replace T := below_al T (.cells #[.int .i64 B, .string (bs (regs B (x.take K)))] 23)
  have X2 := Lib.hid (Blk.new w2 23 #[.int .i64 B, .string (bs (regs B (x.take K)))])
  generalize w2.alloc (.cells #[.int .i64 B, .string (bs (regs B (x.take K)))] 23) = V2 at *
  refine (of_n B (some (ad.add K)) (x.drop K) (x.length - K) (capx - K) HLD.out (hUx.drop _) (by omega) _ SZ.out).mono ?_
  rintro e w3 ⟨rfl, hb3⟩
  replace Sx := Lib.hid (Sx.out.later hb3)
  replace SY := Lib.hid (SY.out.later hb3)
  replace SZ := Lib.hid (SZ.out.later hb3)
  replace X1 := Lib.hid (X1.out.later hb3)
  replace X2 := Lib.hid (X2.out.later hb3)
  replace T := Below.two T hb3
  rw [of_regs h3 h8 (x.drop K)]
  clear hb3
  obtain ⟨k0X1, k1X1, f0X1, f1X1⟩ := X1.out.two
  have kzX1 := X1.out.lt
  obtain ⟨k0X2, k1X2, f0X2, f1X2⟩ := X2.out.two
  have kzX2 := X2.out.lt
  go_wp2_with fail
  clear k0X1 k1X1 f0X1 f1X1 kzX1 k0X2 k1X2 f0X2 f1X2 kzX2
  replace Sx := Lib.hid (Sx.out.later (below_al (below_0 _) (.cells #[.int .i64 B, .string (bs (regs B (x.drop K)))] 23)))
  replace SY := Lib.hid (SY.out.later (below_al (below_0 _) (.cells #[.int .i64 B, .string (bs (regs B (x.drop K)))] 23)))
  replace SZ := Lib.hid (SZ.out.later (below_al (below_0 _) (.cells #[.int .i64 B, .string (bs (regs B (x.drop K)))] 23)))
  replace X1 := Lib.hid (X1.out.alloc (.cells #[.int .i64 B, .string (bs (regs B (x.drop K)))] 23))
  replace X2 := Lib.hid (X2.out.alloc (.cells #[.int .i64 B, .string (bs (regs B (x.drop K)))] 23))
  replace T := below_al T (.cells #[.int .i64 B, .string (bs (regs B (x.drop K)))] 23)
  have X3 := Lib.hid (Blk.new w3 23 #[.int .i64 B, .string (bs (regs B (x.drop K)))])
  generalize w3.alloc (.cells #[.int .i64 B, .string (bs (regs B (x.drop K)))] 23) = V3 at *
  refine (merge_any B B (regs B (x.take K)) (regs B (x.drop K)) (bytes_regs h3 h8 _) (bytes_regs h3 h8 _) _).mono ?_
  rintro e w4 ⟨rfl, hb4⟩
  replace Sx := Lib.hid (Sx.out.later hb4)
  replace SY := Lib.hid (SY.out.later hb4)
  replace SZ := Lib.hid (SZ.out.later hb4)
  replace X1 := Lib.hid (X1.out.later hb4)
  replace X2 := Lib.hid (X2.out.later hb4)
  replace X3 := Lib.hid (X3.out.later hb4)
  replace T := Below.two T hb4
  rw [mergeH_regs h3 h8 (x.take K) (x.drop K), HTD.out]
  clear hb4
  obtain ⟨k0X1, k1X1, f0X1, f1X1⟩ := X1.out.two
  have kzX1 := X1.out.lt
  obtain ⟨k0X2, k1X2, f0X2, f1X2⟩ := X2.out.two
  have kzX2 := X2.out.lt
  obtain ⟨k0X3, k1X3, f0X3, f1X3⟩ := X3.out.two
  have kzX3 := X3.out.lt
  go_wp2_with fail
  clear k0X1 k1X1 f0X1 f1X1 kzX1 k0X2 k1X2 f0X2 f1X2 kzX2 k0X3 k1X3 f0X3 f1X3 kzX3
  replace Sx := Lib.hid (Sx.out.later (below_al (below_0 _) (.cells #[.int .i64 B, .string (bs (regs B x))] 23)))
  replace SY := Lib.hid (SY.out.later (below_al (below_0 _) (.cells #[.int .i64 B, .string (bs (regs B x))] 23)))
  replace SZ := Lib.hid (SZ.out.later (below_al (below_0 _) (.cells #[.int .i64 B, .string (bs (regs B x))] 23)))
  replace X1 := Lib.hid (X1.out.alloc (.cells #[.int .i64 B, .string (bs (regs B x))] 23))
  replace X2 := Lib.hid (X2.out.alloc (.cells #[.int .i64 B, .string (bs (regs B x))] 23))
  replace X3 := Lib.hid (X3.out.alloc (.cells #[.int .i64 B, .string (bs (regs B x))] 23))
  replace T := below_al T (.cells #[.int .i64 B, .string (bs (regs B x))] 23)
  have X4 := Lib.hid (Blk.new w4 23 #[.int .i64 B, .string (bs (regs B x))])
  generalize w4.alloc (.cells #[.int .i64 B, .string (bs (regs B x))] 23) = V4 at *
  refine (merge_any B B (regs B (x.drop K)) (regs B (x.take K)) (bytes_regs h3 h8 _) (bytes_regs h3 h8 _) _).mono ?_
  rintro e w5 ⟨rfl, hb5⟩
  replace Sx := Lib.hid (Sx.out.later hb5)
  replace SY := Lib.hid (SY.out.later hb5)
  replace SZ := Lib.hid (SZ.out.later hb5)
  replace X1 := Lib.hid (X1.out.later hb5)
  replace X2 := Lib.hid (X2.out.later hb5)
  replace X3 := Lib.hid (X3.out.later hb5)
  replace X4 := Lib.hid (X4.out.later hb5)
  replace T := Below.two T hb5
  rw [mergeH_regs h3 h8 (x.drop K) (x.take K), regs_comm, HTD.out]
  clear hb5
  obtain ⟨k0X1, k1X1, f0X1, f1X1⟩ := X1.out.two
  have kzX1 := X1.out.lt
  obtain ⟨k0X2, k1X2, f0X2, f1X2⟩ := X2.out.two
  have kzX2 := X2.out.lt
  obtain ⟨k0X3, k1X3, f0X3, f1X3⟩ := X3.out.two
  have kzX3 := X3.out.lt
  obtain ⟨k0X4, k1X4, f0X4, f1X4⟩ := X4.out.two
  have kzX4 := X4.out.lt
  go_wp2_with fail
  clear k0X1 k1X1 f0X1 f1X1 kzX1 k0X2 k1X2 f0X2 f1X2 kzX2 k0X3 k1X3 f0X3 f1X3 kzX3 k0X4 k1X4 f0X4 f1X4 kzX4
  replace Sx := Lib.hid (Sx.out.later (below_al (below_0 _) (.cells #[.int .i64 B, .string (bs (regs B x))] 23)))
  replace SY := Lib.hid (SY.out.later (below_al (below_0 _) (.cells #[.int .i64 B, .string (bs (regs B x))] 23)))
  replace SZ := Lib.hid (SZ.out.later (below_al (below_0 _) (.cells #[.int .i64 B, .string (bs (regs B x))] 23)))
  replace X1 := Lib.hid (X1.out.alloc (.cells #[.int .i64 B, .string (bs (regs B x))] 23))
  replace X2 := Lib.hid (X2.out.alloc (.cells #[.int .i64 B, .string (bs (regs B x))] 23))
  replace X3 := Lib.hid (X3.out.alloc (.cells #[.int .i64 B, .string (bs (regs B x))] 23))
  replace X4 := Lib.hid (X4.out.alloc (.cells #[.int .i64 B, .string (bs (regs B x))] 23))
  replace T := below_al T (.cells #[.int .i64 B, .string (bs (regs B x))] 23)
  have X5 := Lib.hid (Blk.new w5 23 #[.int .i64 B, .string (bs (regs B x))])
  generalize w5.alloc (.cells #[.int .i64 B, .string (bs (regs B x))] 23) = V5 at *
  refine (merge_any B B (regs B x) (regs B x) (bytes_regs h3 h8 _) (bytes_regs h3 h8 _) _).mono ?_
  rintro e w6 ⟨rfl, hb6⟩
  replace Sx := Lib.hid (Sx.out.later hb6)
  replace SY := Lib.hid (SY.out.later hb6)
  replace SZ := Lib.hid (SZ.out.later hb6)
  replace X1 := Lib.hid (X1.out.later hb6)
  replace X2 := Lib.hid (X2.out.later hb6)
  replace X3 := Lib.hid (X3.out.later hb6)
  replace X4 := Lib.hid (X4.out.later hb6)
  replace X5 := Lib.hid (X5.out.later hb6)
  replace T := Below.two T hb6
  rw [mergeH_regs h3 h8 x x, regs_self]
  clear hb6
  obtain ⟨k0X1, k1X1, f0X1, f1X1⟩ := X1.out.two
  have kzX1 := X1.out.lt
  obtain ⟨k0X2, k1X2, f0X2, f1X2⟩ := X2.out.two
  have kzX2 := X2.out.lt
  obtain ⟨k0X3, k1X3, f0X3, f1X3⟩ := X3.out.two
  have kzX3 := X3.out.lt
  obtain ⟨k0X4, k1X4, f0X4, f1X4⟩ := X4.out.two
  have kzX4 := X4.out.lt
  obtain ⟨k0X5, k1X5, f0X5, f1X5⟩ := X5.out.two
  have kzX5 := X5.out.lt
  go_wp2_with fail
  clear k0X1 k1X1 f0X1 f1X1 kzX1 k0X2 k1X2 f0X2 f1X2 kzX2 k0X3 k1X3 f0X3 f1X3 kzX3 k0X4 k1X4 f0X4 f1X4 kzX4 k0X5 k1X5 f0X5 f1X5 kzX5
  replace Sx := Lib.hid (Sx.out.later (below_al (below_0 _) (.cells #[.int .i64 B, .string (bs (regs B x))] 23)))
  replace SY := Lib.hid (SY.out.later (below_al (below_0 _) (.cells #[.int .i64 B, .string (bs (regs B x))] 23)))
  replace SZ := Lib.hid (SZ.out.later (below_al (below_0 _) (.cells #[.int .i64 B, .string (bs (regs B x))] 23)))
  replace X1 := Lib.hid (X1.out.alloc (.cells #[.int .i64 B, .string (bs (regs B x))] 23))
  replace X2 := Lib.hid (X2.out.alloc (.cells #[.int .i64 B, .string (bs (regs B x))] 23))
  replace X3 := Lib.hid (X3.out.alloc (.cells #[.int .i64 B, .string (bs (regs B x))] 23))
  replace X4 := Lib.hid (X4.out.alloc (.cells #[.int .i64 B, .string (bs (regs B x))] 23))
  replace X5 := Lib.hid (X5.out.alloc (.cells #[.int .i64 B, .string (bs (regs B x))] 23))
  replace T := below_al T (.cells #[.int .i64 B, .string (bs (regs B x))] 23)
  have X6 := Lib.hid (Blk.new w6 23 #[.int .i64 B, .string (bs (regs B x))])
  generalize w6.alloc (.cells #[.int .i64 B, .string (bs (regs B x))] 23) = V6 at *
  go_ret
  exact ⟨rfl, T⟩
end Go.Proofs.Ytgbanhjjieagnaa

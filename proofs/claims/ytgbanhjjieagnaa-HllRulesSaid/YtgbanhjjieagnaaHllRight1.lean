/-
  Right, where it is plain that registers are none.
-/
import Derived.Test.YtgbanhjjieagnaaHllBlank
import Derived.Test.YtgbanhjjieagnaaHllRanks
namespace Go.Proofs.Ytgbanhjjieagnaa
open Go.RowKit
set_option linter.unusedVariables false
set_option linter.unusedSimpArgs false
theorem isBits_no {b : Int} (h : bitsB b = false) (w : World) : Calls Try.prog 34 #[.int .i64 b] w fun e w' => e = .returned (.bool false) ∧ w' = w := (isBits_any b w).mono fun _ _ ⟨he, hw⟩ => ⟨by rw [he, h], hw.symm⟩
theorem isBits_yes {b : Int} (h : bitsB b = true) (w : World) : Calls Try.prog 34 #[.int .i64 b] w fun e w' => e = .returned (.bool true) ∧ w' = w := (isBits_any b w).mono fun _ _ ⟨he, hw⟩ => ⟨by rw [he, h], hw.symm⟩
theorem risBits_no {b : Int} (h : bitsB b = false) (w : World) : Calls Try.prog 36 #[.int .i64 b] w fun e w' => e = .returned (.bool false) ∧ w' = w := (risBits_any b w).mono fun _ _ ⟨he, hw⟩ => ⟨by rw [he, h], hw.symm⟩
theorem risBits_yes {b : Int} (h : bitsB b = true) (w : World) : Calls Try.prog 36 #[.int .i64 b] w fun e w' => e = .returned (.bool true) ∧ w' = w := (risBits_any b w).mono fun _ _ ⟨he, hw⟩ => ⟨by rw [he, h], hw.symm⟩
theorem right_bits (b : Int) (l : List Nat) (w : World) (hb : bitsB b = false) :
    Calls Try.prog 21 #[.agg #[.int .i64 b, .string (bs l)]] w fun e w' => e = .returned (.bool false) ∧ Below w.heap.size w w' := by
  have H := Lib.hid hb
  have HG : Hid (Below w.heap.size w (w.alloc (.cells #[.int .i64 b, .string (bs l)] 23))) := below_al (below_0 _) _
  clear hb
  go_enter Try.func21, Try.ntmps21
  go_wp2_with fail
  go_step3
  go_wp2_with fail
  go_quiet ((go_at_call 34; exact Calls.quiet_of_same (isBits_no H.out _)))
  go_wp2_with fail
  rw [Exit.noGoto_ret]
  go_ret
  exact ⟨rfl, below_drewN HG.out _⟩
theorem rright_bits (b : Int) (l : List Nat) (w : World) (hb : bitsB b = false) :
    Calls Try.prog 22 #[.agg #[.int .i64 b, .string (bs l)]] w fun e w' => e = .returned (.bool false) ∧ Below w.heap.size w w' := by
  have H := Lib.hid hb
  have HG : Hid (Below w.heap.size w (w.alloc (.cells #[.int .i64 b, .string (bs l)] 23))) := below_al (below_0 _) _
  clear hb
  go_enter Try.func22, Try.ntmps22
  go_wp2_with fail
  go_quiet ((go_at_call 36; exact Calls.quiet_of_same (risBits_no H.out _)))
  go_wp2_with fail
  go_ret
  exact ⟨rfl, below_drewN HG.out _⟩
end Go.Proofs.Ytgbanhjjieagnaa

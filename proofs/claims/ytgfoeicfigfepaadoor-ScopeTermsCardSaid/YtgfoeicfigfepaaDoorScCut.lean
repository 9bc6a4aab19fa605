/-
  strings.Cut at one byte.
-/
import Derived.Test.YtgfoeicfigfepaaDoorScTerms
namespace Go.Proofs.YtgfoeicfigfepaaDoor
open Go.RowKit
set_option linter.unusedVariables false
set_option linter.unusedSimpArgs false
theorem idx_is : ∀ (l : List UInt8) (c : UInt8), Lib.indexByte l c = if c ∈ l then ((l.idxOf c : Nat) : Int) else -1
  | [], c => by simp [Lib.indexByte]
  | b :: l, c => by
    unfold Lib.indexByte
    rw [idx_is l c, List.idxOf_cons]
    by_cases h : b = c
    · subst h; simp
    · have h1 : (b == c) = false := by simp [h]
      have h2 : ¬ c = b := fun e => h e.symm
      rw [h1]
      by_cases hm : c ∈ l
      · have : ¬ (((l.idxOf c : Nat) : Int) == -1) = true := by simp
        simp only [hm, if_true, List.mem_cons, h2, false_or, Bool.false_eq_true, if_false, this, cond_false]
        omega
      · simp [hm, h2]
theorem tx_extract (s : ByteArray) (a b : Nat) : tx (s.extract a b) = ((tx s).take b).drop a := by
  unfold tx
  rw [ByteArray.data_extract, Array.toList_extract, List.extract_eq_take_drop, List.drop_take]
theorem ext_take (s : ByteArray) (i : Nat) : s.extract 0 i = bt ((tx s).take i) := tx_inj (by rw [tx_extract, tx_bt, List.drop_zero])
theorem ext_drop (s : ByteArray) (i : Nat) : s.extract i s.size = bt ((tx s).drop i) := tx_inj (by rw [tx_extract, tx_bt, List.take_of_length_le (by rw [tx_len]; exact Nat.le_refl _)])
set_option maxHeartbeats 2000000 in
set_option maxRecDepth 100000 in
theorem lcut_hit (s : ByteArray) (c : UInt8) (hm : c ∈ tx s) (hs : s.size ≤ 4294967296) (w : World) :
    Calls Tryd.prog 33 #[.string s, .string ⟨#[c]⟩] w fun e w' => e = .returned (.tuple #[.string (bt ((tx s).take ((tx s).idxOf c))), .string (bt ((tx s).drop ((tx s).idxOf c + 1))), .bool true]) ∧ ∃ n, w' = w.drewN n := by
  have Q := Lib.hid (Tryd.stringslite_Index_one s c w)
  rw [show Lib.indexByte s.data.toList c = _ from idx_is (tx s) c, if_pos hm] at Q
  have hi := List.idxOf_lt_length_iff.2 hm
  rw [tx_len] at hi
  rw [← ext_take, ← ext_drop]
  generalize (tx s).idxOf c = i at *
  clear hm
  have c1 : (0 : Int) ≤ (i : Int) := by omega
  have c2 : (i : Int) ≤ (s.size : Int) := by omega
  have c3 : (0 : Int) ≤ (i : Int) + 1 := by omega
  have c4 : (i : Int) + 1 ≤ (s.size : Int) := by omega
  have g0 : decide ((0 : Int) ≤ (i : Int)) = true := decide_eq_true c1
  go_enter Tryd.func33, Tryd.ntmps33
  go_wp2_with fail
  refine Q.out.mono ?_
  rintro e w1 ⟨rfl, rfl⟩
  go_wp2_with fail
  go_region_o
  go_wp2
  go_ret3
  exact ⟨rfl, 1, rfl⟩
set_option maxHeartbeats 2000000 in
set_option maxRecDepth 100000 in
theorem lcut_miss (s : ByteArray) (c : UInt8) (hm : ¬ c ∈ tx s) (w : World) :
    Calls Tryd.prog 33 #[.string s, .string ⟨#[c]⟩] w fun e w' => e = .returned (.tuple #[.string s, .string ⟨#[]⟩, .bool false]) ∧ ∃ n, w' = w.drewN n := by
  have Q := Lib.hid (Tryd.stringslite_Index_one s c w)
  rw [show Lib.indexByte s.data.toList c = _ from idx_is (tx s) c, if_neg hm] at Q
  clear hm
  go_enter Tryd.func33, Tryd.ntmps33
  go_wp2_with fail
  refine Q.out.mono ?_
  rintro e w1 ⟨rfl, rfl⟩
  go_wp2_with fail
  go_ret3
  exact ⟨rfl, 0, rfl⟩
/-- What Cut tells. -/
def cutB (s : ByteArray) (c : UInt8) : ByteArray × ByteArray × Bool := if c ∈ tx s then (bt ((tx s).take ((tx s).idxOf c)), bt ((tx s).drop ((tx s).idxOf c + 1)), true) else (s, ⟨#[]⟩, false)
theorem lcut_any (s : ByteArray) (c : UInt8) (hs : s.size ≤ 4294967296) (w : World) :
    Calls Tryd.prog 33 #[.string s, .string ⟨#[c]⟩] w fun e w' => e = .returned (.tuple #[.string (cutB s c).1, .string (cutB s c).2.1, .bool (cutB s c).2.2]) ∧ ∃ n, w' = w.drewN n := by
  unfold cutB
  split
  · next h => exact lcut_hit s c h hs w
  · next h => exact lcut_miss s c h w
set_option maxRecDepth 100000 in
theorem cut_any (s : ByteArray) (c : UInt8) (hs : s.size ≤ 4294967296) (w : World) :
    Calls Tryd.prog 27 #[.string s, .string ⟨#[c]⟩] w fun e w' => e = .returned (.tuple #[.string (cutB s c).1, .string (cutB s c).2.1, .bool (cutB s c).2.2]) ∧ Below w.heap.size w w' := by
  have Q := Lib.hid (lcut_any s c hs w)
  generalize cutB s c = q at *
  go_enter Tryd.func27, Tryd.ntmps27
  go_wp2_with fail
  refine Q.out.mono ?_
  rintro e w1 ⟨rfl, n, rfl⟩
  go_wp2_with fail
  go_ret3
  exact ⟨rfl, below_drewN (below_0 w) n⟩
end Go.Proofs.YtgfoeicfigfepaaDoor

/-
  The walks of the laws' own shown, few and Few.
-/
import Derived.Test.YtgbanhjjieagnaaHllCount
namespace Go.Proofs.Ytgbanhjjieagnaa
open Go.RowKit
set_option linter.unusedVariables false
set_option linter.unusedSimpArgs false
theorem few_any (w : World) (n cap : Nat) (a : Option Addr) (x : List Int) (hk : (min (n : Int) 100).toNat = x.length) (hc : x.length ≤ cap) (hm : cap ≤ 9223372036854775807) :
    Calls Try.prog 13 #[.slice a n cap] w fun e w' => e = .returned (.slice a x.length cap) ∧ w = w' := by
  go_enter Try.func13, Try.ntmps13
  go_wp2_with fail
  go_ret
  exact ⟨rfl, rfl⟩
theorem bs_take (l : List Nat) (k : Nat) : (bs l).extract 0 k = bs (l.take k) := by
  apply ByteArray.ext
  simp [bs]
theorem Few_any (w : World) (b : Int) (l : List Nat) (hl : l.length ≤ 9223372036854775807) :
    Calls Try.prog 11 #[hV b l] w fun e w' => e = .returned (hV b (l.take 260)) ∧ Below w.heap.size w w' := by
  have hsz := bs_size l
  have hk : (bs l).extract 0 (min (l.length : Int) 260).toNat = bs (l.take 260) := by
    rw [bs_take]
    congr 1
    rcases Nat.lt_or_ge l.length 260 with h | h
    · rw [List.take_of_length_le (by omega), List.take_of_length_le (by omega)]
    · rw [show (min (l.length : Int) 260).toNat = 260 by omega]
  go_enter Try.func11, Try.ntmps11
  go_wp2_with fail
  go_region
  all_goals go_wp2_with fail
  all_goals exact bodyPost_ret (v := hV b (l.take 260)) (by simp [results, Try.results11, go_sem]) rfl ⟨rfl, (below_al (below_al (below_0 _) _) _).drew⟩
theorem place_s1 : placeF 3 9223372036854775808 = (4, 62) := by decide +kernel
theorem place_s2 : placeF 3 3458764513820540928 = (1, 1) := by decide +kernel
theorem of_s : ofH 3 [9223372036854775808] = ⟨3, [0, 0, 0, 0, 62, 0, 0, 0], 0⟩ := by kernel_rfl
theorem right_s : rightF 3 [0, 0, 0, 0, 62, 0, 0, 0] = true := by decide +kernel
set_option maxHeartbeats 1000000 in
theorem shown_any (w : World) : Calls Try.prog 10 #[] w fun e w' => e = .returned (.bool true) ∧ Below w.heap.size w w' := by
  go_enter Try.func10, Try.ntmps10
  go_wp2_with fail
  refine (place_any 3 9223372036854775808 (by decide) _).mono ?_
  rintro e w' ⟨rfl, rfl⟩
  rw [place_s1]
  go_wp2_with fail
  refine (place_any 3 3458764513820540928 (by decide) _).mono ?_
  rintro e w' ⟨rfl, rfl⟩
  rw [place_s2]
  go_wp2_with fail
  refine (new_any 9 _).mono ?_
  rintro e w1 ⟨rfl, hb⟩
  rw [show ofH 9 [] = badH from rfl]
  unfold badH
  have HB := Lib.hid hb
  clear hb
  go_wp2_with fail
  refine (of_any 3 _ [9223372036854775808] 1 (fun x hx => by rw [List.mem_singleton.1 hx]; exact ⟨by decide, by decide⟩) (by simp) _ (sl_one _ 9223372036854775808 25 _ (by simp))).mono ?_
  rintro e w2 ⟨rfl, hb⟩
  rw [of_s]
  have HB2 := Lib.hid (Below.two HB.out (below_old (below_old hb)))
  clear hb
  go_wp2_with fail
  refine (right_any 3 [0, 0, 0, 0, 62, 0, 0, 0] (right_bytes right_s) _).mono ?_
  rintro e w3 ⟨rfl, hb⟩
  rw [right_s]
  have HB3 := Lib.hid (Below.two HB2.out (below_old hb))
  clear hb
  go_wp2_with fail
  go_ret
  exact ⟨rfl, HB3.out⟩
end Go.Proofs.Ytgbanhjjieagnaa

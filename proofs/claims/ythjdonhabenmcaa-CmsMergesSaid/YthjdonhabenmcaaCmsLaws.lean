/-
  Plain laws on counters: lengths, right ones. No program in sight.
-/
import Derived.Test.YthjdonhabenmcaaCmsLower
import Derived.Test.YthjdonhabenmcaaCmsAdd
import Derived.Test.YthjdonhabenmcaaCmsSame
import Derived.Test.YthjdonhabenmcaaCmsCount
namespace Go.Proofs.Ythjdonhabenmcaa
/-- Counters that are right, of numbers of 64 bits. -/
def Good (x : Cm) : Prop := rightC x.r x.c x.l.length = true ∧ Us x.l
theorem newF_len (r c : Int) : (newF r c).1.l.length ≤ 128 := by
  unfold newF
  split
  · rename_i h
    obtain ⟨R, C, rfl, rfl, _, q2, q3⟩ := shape_nat h
    have := shape_mul q2 q3
    rw [List.length_replicate, ← Int.natCast_mul, Int.toNat_natCast]
    exact this
  · simp [Cm.none]
theorem newF_us (r c : Int) : Us (newF r c).1.l := by
  unfold newF
  split
  · exact us_zeros _
  · intro x hx; simp [Cm.none] at hx
theorem addC_len (x : Cm) (h n : Int) : (addC x h n).1.l.length ≤ x.l.length := by
  unfold addC
  split
  · show (chgAll _ _ _).length ≤ _
    rw [length_chgAll]; exact Nat.le_refl _
  · simp [Cm.none]
theorem addC_us {x : Cm} (hU : Us x.l) (h : Int) {n : Int} (hn : U n) : Us (addC x h n).1.l := by
  unfold addC
  split
  · exact Us.chgAll (fun _ o ho => sat_U ho.1 hn.1) hU
  · intro x hx; simp [Cm.none] at hx
theorem none_us : Us Cm.none.l := by intro x hx; simp [Cm.none] at hx
theorem mergeC_len (x y : Cm) : (mergeC x y).1.l.length ≤ x.l.length := by
  unfold mergeC
  split
  · show (chgAll _ _ _).length ≤ _
    rw [length_chgAll]; exact Nat.le_refl _
  · simp [Cm.none]
theorem mergeC_us {x y : Cm} (hx : Us x.l) (hy : Us y.l) : Us (mergeC x y).1.l := by
  unfold mergeC
  split
  · exact Us.chgAll (fun p o ho => sat_U ho.1 (nth_U hy p).1) hx
  · exact none_us
theorem lowerC_len (x : Cm) : (lowerC x).1.l.length ≤ 128 := by
  unfold lowerC
  split
  · rename_i h
    obtain ⟨R, C, e1, e2, _, q2, q3⟩ := shape_nat (right_of h.1).1
    have h2 : (C : Int) / 2 = ((C / 2 : Nat) : Int) := by omega
    show (chgAll _ _ _).length ≤ _
    rw [length_chgAll, List.length_replicate, e1, e2, h2, ← Int.natCast_mul, Int.toNat_natCast]
    exact Nat.le_trans (Nat.mul_le_mul q2 (show C / 2 ≤ 16 by omega)) (by omega)
  · simp [Cm.none]
theorem lowerC_us {x : Cm} (hx : Us x.l) : Us (lowerC x).1.l := by
  unfold lowerC
  split
  · exact Us.chgAll (fun p o ho => sat_U (nth_U hx _).1 (nth_U hx _).1) (us_zeros _)
  · exact none_us
end Go.Proofs.Ythjdonhabenmcaa

/-
  The plain laws behind the statements of chapter 8 on counters of items.
-/
import Derived.Test.YthjdonhabenmcaaCmsSums
namespace Go.Proofs.Ythjdonhabenmcaa
theorem least_fold {f : Int → Int} {L N : List Int} : ∀ (ps : List Nat) (a : Int), (∀ p ∈ ps, nth N p = f (nth L p)) → (∀ a b, f (min a b) = min (f a) (f b)) →
    ps.foldl (fun a p => min a (nth N p)) (f a) = f (ps.foldl (fun a p => min a (nth L p)) a)
  | [], _, _, _ => rfl
  | p :: ps, a, h, hf => by
    rw [List.foldl_cons, List.foldl_cons, h p (List.mem_cons_self ..), ← hf]
    exact least_fold ps _ (fun q hq => h q (List.mem_cons_of_mem _ hq)) hf
theorem sat_min (a b : Int) : sat (min a b) (min a b) = min (sat a a) (sat b b) := by simp only [sat_eq]; omega
theorem least_twice {L N : List Int} {ps : List Nat} (h : ∀ p ∈ ps, nth N p = sat (nth L p) (nth L p)) : least N ps = sat (least L ps) (least L ps) :=
  least_fold (f := fun a => sat a a) ps 18446744073709551615 h sat_min
theorem rightC_self {R C : Nat} (h : shapeB R C = true) {L : List Int} (hL : L.length = R * C) : rightC R C L.length = true := right_mk h (by rw [hL]; simp)
theorem countC_ok {R C : Nat} (h : shapeB R C = true) {L : List Int} (hL : L.length = R * C) (k : Int) : countC ⟨R, C, L⟩ k = least L (places R C k) := by
  rw [countC, if_pos (rightC_self h hL)]; simp
theorem nth_sums {R C : Nat} {l : List (Int × Int)} {L : List Int} (hU : UI l) (hn : ∀ i, i < R * C → nth L i = min (raw C l i) 18446744073709551615) {i : Nat} (hi : i < R * C) : 0 ≤ nth L i ∧ nth L i ≤ 18446744073709551615 := by
  rw [hn i hi]; have := raw_nonneg (C := C) hU i; omega
theorem countC_U {x : Cm} (hU : Us x.l) (h : Int) : U (countC x h) := by
  unfold countC
  split
  · exact least_U hU _
  · unfold U; omega
/-- The law CmsTwice. -/
theorem twice_law {r c : Int} {l : List (Int × Int)} (hU : UI l) (h0 : (ofC r c l).2 = 0) (h : Int) :
    (newF r c).2 = 0 ∧ (mergeC (ofC r c l).1 (ofC r c l).1).2 = 0 ∧ mergeC (newF r c).1 (ofC r c l).1 = ((ofC r c l).1, 0) ∧
    countC (mergeC (ofC r c l).1 (ofC r c l).1).1 h = sat (countC (ofC r c l).1 h) (countC (ofC r c l).1 h) ∧
    rightC (mergeC (ofC r c l).1 (ofC r c l).1).1.r (mergeC (ofC r c l).1 (ofC r c l).1).1.c (mergeC (ofC r c l).1 (ofC r c l).1).1.l.length = true := by
  have hs := ofC_shape h0
  obtain ⟨R, C, rfl, rfl, q1, q2, q3⟩ := shape_nat hs
  have hC : 0 < C := by omega
  obtain ⟨L, e, hL, hn⟩ := ofC_ok hs l hU
  have hn0 : ((R : Int) * (C : Int)).toNat = R * C := by rw [← Int.natCast_mul, Int.toNat_natCast]
  rw [e, newF_ok hs, hn0]
  obtain ⟨N, e2, hN, hnN⟩ := mergeC_ok hs hL hL
  obtain ⟨N3, e3, hN3, hnN3⟩ := mergeC_ok (L := List.replicate (R * C) 0) hs (by simp) hL
  simp only [e2, e3]
  refine ⟨trivial, trivial, ?_, ?_, rightC_self hs hN⟩
  · have : N3 = L := list_ext (by rw [hN3, hL]) (fun i hi => by
      rw [hN3] at hi
      rw [hnN3 i hi, nth_zeros, sat_eq]
      have := nth_sums hU hn hi
      omega)
    rw [this]
  · rw [countC_ok hs hN, countC_ok hs hL]
    exact least_twice (fun p hp => hnN p (places_lt hC h p hp))
end Go.Proofs.Ythjdonhabenmcaa

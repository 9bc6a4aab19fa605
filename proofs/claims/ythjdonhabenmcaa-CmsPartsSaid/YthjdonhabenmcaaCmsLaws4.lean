/-
  The plain law behind CmsParts.
-/
import Derived.Test.YthjdonhabenmcaaCmsLaws2
namespace Go.Proofs.Ythjdonhabenmcaa
theorem UI.reverse {l : List (Int × Int)} (h : UI l) : UI l.reverse := fun x hx => h x (List.mem_reverse.1 hx)
theorem merge_of {R C : Nat} (hs : shapeB R C = true) {l m n : List (Int × Int)} (hU : UI l) (hV : UI m) (hW : UI n) (hr : ∀ i, raw C l i + raw C m i = raw C n i) :
    mergeC (ofC R C l).1 (ofC R C m).1 = ofC R C n := by
  obtain ⟨L, e, hL, hn⟩ := ofC_ok hs l hU
  obtain ⟨M, f, hM, hm⟩ := ofC_ok hs m hV
  obtain ⟨N, g, hN, hk⟩ := ofC_ok hs n hW
  obtain ⟨Q, e3, hQ, hq⟩ := mergeC_ok hs hL hM
  rw [e, f, g]
  simp only [e3]
  have : Q = N := list_ext (by rw [hQ, hN]) (fun i hi => by
    rw [hQ] at hi
    rw [hq i hi, hk i hi, hn i hi, hm i hi, sat_eq, ← hr i]
    have r1 := raw_nonneg (C := C) hU i
    have r2 := raw_nonneg (C := C) hV i
    omega)
  rw [this]
/-- The law CmsParts. -/
theorem parts_law {r c : Int} {l : List (Int × Int)} (hU : UI l) (h0 : (ofC r c l).2 = 0) (k : Nat) :
    (ofC r c (l.take k)).2 = 0 ∧ (ofC r c (l.drop k)).2 = 0 ∧ ofC r c l.reverse = ofC r c l ∧
    mergeC (ofC r c (l.take k)).1 (ofC r c (l.drop k)).1 = ofC r c l ∧ mergeC (ofC r c (l.drop k)).1 (ofC r c (l.take k)).1 = ofC r c l := by
  have hs := ofC_shape h0
  obtain ⟨R, C, rfl, rfl, q1, q2, q3⟩ := shape_nat hs
  have hsum : ∀ i, raw C (l.take k) i + raw C (l.drop k) i = raw C l i := fun i => by rw [← raw_append, List.take_append_drop]
  refine ⟨?_, ?_, ?_, merge_of hs (hU.take k) (hU.drop k) hU hsum, merge_of hs (hU.drop k) (hU.take k) hU (fun i => by rw [Int.add_comm]; exact hsum i)⟩
  · obtain ⟨L, e, _⟩ := ofC_ok hs _ (hU.take k); rw [e]
  · obtain ⟨L, e, _⟩ := ofC_ok hs _ (hU.drop k); rw [e]
  · obtain ⟨L, e, hL, hn⟩ := ofC_ok hs l hU
    obtain ⟨M, f, hM, hm⟩ := ofC_ok hs _ hU.reverse
    rw [e, f]
    have : M = L := list_ext (by rw [hM, hL]) (fun i hi => by
      rw [hM] at hi
      rw [hm i hi, hn i hi, raw_reverse])
    rw [this]
theorem rev_take_succ {l : List (Int × Int)} {k : Nat} (h : k < l.length) : l.reverse.take (k + 1) = l.reverse.take k ++ [ith l (l.length - 1 - k)] := by
  rw [List.take_succ_eq_append_getElem (by simpa using h)]
  simp [ith, List.getElem_reverse]
  rw [List.getElem?_eq_getElem (by omega)]
  rfl
theorem flat_append (l m : List (Int × Int)) : flat (l ++ m) = flat l ++ flat m := by simp [flat]
end Go.Proofs.Ythjdonhabenmcaa

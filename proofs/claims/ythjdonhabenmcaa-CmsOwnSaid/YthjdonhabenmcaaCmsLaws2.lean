/-
  The plain laws behind the statements of chapter 8 on counters of items.
-/
import Derived.Test.YthjdonhabenmcaaCmsSums
namespace Go.Proofs.Ythjdonhabenmcaa
theorem least_fold {f : Int → Int} {L N : List Int} : ∀ (ps : List Nat) (a : Int), (∀ p ∈ ps, nth N p = f (nth L p)) → (∀ a b, f (min a b) = min (f a) (f b)) →
    ps.foldl (fun a p => min a (nth N p)) (f a) = f (ps.foldl (fun a p => min a (nth L p)) a)
  | [], _, _, _ => rfl
  | p :: ps, a, h, hf => by
    rw [List.foldl_cons, List.foldl_cons, h p (List.mem_cons_self ..), ← hf]
    exact least_fold ps _ (fun q hq => h q (List.mem_cons_of_mem _ hq)) hf
theorem sat_min (a b : Int) : sat (min a b) (min a b) = min (sat a a) (sat b b) := by simp only [sat_eq]; omega
theorem least_twice {L N : List Int} {ps : List Nat} (h : ∀ p ∈ ps, nth N p = sat (nth L p) (nth L p)) : least N ps = sat (least L ps) (least L ps) :=
  least_fold (f := fun a => sat a a) ps 18446744073709551615 h sat_min
theorem rightC_self {R C : Nat} (h : shapeB R C = true) {L : List Int} (hL : L.length = R * C) : rightC R C L.length = true := right_mk h (by rw [hL]; simp)
theorem countC_ok {R C : Nat} (h : shapeB R C = true) {L : List Int} (hL : L.length = R * C) (k : Int) : countC ⟨R, C, L⟩ k = least L (places R C k) := by
  rw [countC, if_pos (rightC_self h hL)]; simp
theorem nth_sums {R C : Nat} {l : List (Int × Int)} {L : List Int} (hU : UI l) (hn : ∀ i, i < R * C → nth L i = min (raw C l i) 18446744073709551615) {i : Nat} (hi : i < R * C) : 0 ≤ nth L i ∧ nth L i ≤ 18446744073709551615 := by
  rw [hn i hi]; have := raw_nonneg (C := C) hU i; omega
theorem countC_U {x : Cm} (hU : Us x.l) (h : Int) : U (countC x h) := by
  unfold countC
  split
  · exact least_U hU _
  · unfold U; omega
/-- The law CmsTwice. -/
theorem twice_law {r c : Int} {l : List (Int × Int)} (hU : UI l) (h0 : (ofC r c l).2 = 0) (h : Int) :
    (newF r c).2 = 0 ∧ (mergeC (ofC r c l).1 (ofC r c l).1).2 = 0 ∧ mergeC (newF r c).1 (ofC r c l).1 = ((ofC r c l).1, 0) ∧
    countC (mergeC (ofC r c l).1 (ofC r c l).1).1 h = sat (countC (ofC r c l).1 h) (countC (ofC r c l).1 h) ∧
    rightC (mergeC (ofC r c l).1 (ofC r c l).1).1.r (mergeC (ofC r c l).1 (ofC r c l).1).1.c (mergeC (ofC r c l).1 (ofC r c l).1).1.l.length = true := by
  have hs := ofC_shape h0
  obtain ⟨R, C, rfl, rfl, q1, q2, q3⟩ := shape_nat hs
  have hC : 0 < C := by omega
  obtain ⟨L, e, hL, hn⟩ := ofC_ok hs l hU
  have hn0 : ((R : Int) * (C : Int)).toNat = R * C := by rw [← Int.natCast_mul, Int.toNat_natCast]
  rw [e, newF_ok hs, hn0]
  obtain ⟨N, e2, hN, hnN⟩ := mergeC_ok hs hL hL
  obtain ⟨N3, e3, hN3, hnN3⟩ := mergeC_ok (L := List.replicate (R * C) 0) hs (by simp) hL
  simp only [e2, e3]
  refine ⟨trivial, trivial, ?_, ?_, rightC_self hs hN⟩
  · have : N3 = L := list_ext (by rw [hN3, hL]) (fun i hi => by
      rw [hN3] at hi
      rw [hnN3 i hi, nth_zeros, sat_eq]
      have := nth_sums hU hn hi
      omega)
    rw [this]
  · rw [countC_ok hs hN, countC_ok hs hL]
    exact least_twice (fun p hp => hnN p (places_lt hC h p hp))
theorem shape_half {R H : Nat} (h1 : 1 ≤ R) (h2 : R ≤ 4) (hH : H = 4 ∨ H = 8 ∨ H = 16) : shapeB R (2 * (H : Int)) = true ∧ shapeB R H = true := by
  constructor
  · simp only [shapeB, decide_eq_true_eq]; omega
  · simp only [shapeB, decide_eq_true_eq]; omega
/-- Lowered counters of items are those of half as many columns. -/
theorem lower_of {R H : Nat} (h1 : 1 ≤ R) (h2 : R ≤ 4) (hH : H = 4 ∨ H = 8 ∨ H = 16) {l : List (Int × Int)} (hU : UI l) :
    (ofC R (2 * (H : Int)) l).2 = 0 ∧ lowerC (ofC R (2 * (H : Int)) l).1 = ofC R H l ∧ (ofC R H l).2 = 0 := by
  obtain ⟨s1, s2⟩ := shape_half h1 h2 hH
  have hc : (2 * (H : Int)) = ((2 * H : Nat) : Int) := by omega
  obtain ⟨L, e, hL, hn⟩ := ofC_ok (R := R) (C := 2 * H) (by rw [← hc]; exact s1) l hU
  obtain ⟨L2, e2, hL2, hn2⟩ := ofC_ok s2 l hU
  rw [hc, e, e2]
  obtain ⟨N, e3, hN, hnN⟩ := lowerC_ok s1 (by omega) hL
  rw [hc] at e3
  refine ⟨rfl, ?_, rfl⟩
  simp only [e3]
  have : N = L2 := list_ext (by rw [hN, hL2]) (fun i hi => by
    rw [hN] at hi
    have hf := fromF_lt (show 0 < H by omega) hi
    rw [hnN i hi, hn2 i hi, halfF, hn _ (by omega), hn _ hf, sat_eq, ← raw_half (show 0 < H by omega) hU i]
    have r1 := raw_nonneg (C := 2 * H) hU (fromF H i)
    have r2 := raw_nonneg (C := 2 * H) hU (fromF H i + H)
    omega)
  rw [this]
/-- The law CmsLowers. -/
theorem lowers_law {r c : Int} (h1 : 1 ≤ r) (h2 : r ≤ 4) (hc : c = 8 ∨ c = 16 ∨ c = 32) {l m : List (Int × Int)} (hU : UI l) (hV : UI m) :
    (ofC r c l).2 = 0 ∧ (ofC r c m).2 = 0 ∧ lowerC (ofC r c l).1 = ofC r (c / 2) l ∧ (ofC r (c / 2) l).2 = 0 ∧ (lowerC (ofC r c m).1).2 = 0 ∧
    (mergeC (ofC r c l).1 (ofC r c m).1).2 = 0 ∧ (lowerC (mergeC (ofC r c l).1 (ofC r c m).1).1).2 = 0 ∧ lowerC (mergeC (ofC r c l).1 (ofC r c m).1).1 = mergeC (lowerC (ofC r c l).1).1 (lowerC (ofC r c m).1).1 := by
  obtain ⟨R, rfl⟩ : ∃ R : Nat, r = R := ⟨r.toNat, by omega⟩
  obtain ⟨H, rfl⟩ : ∃ H : Nat, c = 2 * (H : Int) := ⟨(c / 2).toNat, by omega⟩
  have hd : (2 * (H : Int)) / 2 = (H : Int) := by omega
  have hH : H = 4 ∨ H = 8 ∨ H = 16 := by omega
  rw [hd]
  obtain ⟨a1, a2, a3⟩ := lower_of (R := R) (by omega) (by omega) hH hU
  obtain ⟨b1, b2, b3⟩ := lower_of (R := R) (by omega) (by omega) hH hV
  refine ⟨a1, b1, a2, a3, by rw [b2]; exact b3, ?_⟩
  rw [a2, b2]
  obtain ⟨s1, s2⟩ := shape_half (R := R) (by omega) (by omega) hH
  have hc : (2 * (H : Int)) = ((2 * H : Nat) : Int) := by omega
  obtain ⟨L, e, hL, hn⟩ := ofC_ok (R := R) (C := 2 * H) (by rw [← hc]; exact s1) l hU
  obtain ⟨M, f, hM, hm⟩ := ofC_ok (R := R) (C := 2 * H) (by rw [← hc]; exact s1) m hV
  obtain ⟨L2, e2, hL2, hn2⟩ := ofC_ok s2 l hU
  obtain ⟨M2, f2, hM2, hm2⟩ := ofC_ok s2 m hV
  obtain ⟨N, e3, hN, hnN⟩ := mergeC_ok (R := R) (C := 2 * H) (by rw [← hc]; exact s1) hL hM
  obtain ⟨N2, e4, hN2, hnN2⟩ := lowerC_ok s1 (by omega) hN
  obtain ⟨N3, e5, hN3, hnN3⟩ := mergeC_ok s2 hL2 hM2
  rw [hc, e, f, e3, e2, f2, e5]
  rw [hc] at e4
  simp only [e4]
  refine ⟨trivial, trivial, ?_⟩
  have : N2 = N3 := list_ext (by rw [hN2, hN3]) (fun i hi => by
    rw [hN2] at hi
    have hf := fromF_lt (show 0 < H by omega) hi
    rw [hnN2 i hi, hnN3 i hi, halfF, hnN _ (by omega), hnN _ hf, hn2 i hi, hm2 i hi, hn _ (by omega), hn _ hf, hm _ (by omega), hm _ hf, ← raw_half (show 0 < H by omega) hU i, ← raw_half (show 0 < H by omega) hV i]
    simp only [sat_eq]
    have r1 := raw_nonneg (C := 2 * H) hU (fromF H i)
    have r2 := raw_nonneg (C := 2 * H) hU (fromF H i + H)
    have r3 := raw_nonneg (C := 2 * H) hV (fromF H i)
    have r4 := raw_nonneg (C := 2 * H) hV (fromF H i + H)
    omega)
  rw [this]
end Go.Proofs.Ythjdonhabenmcaa

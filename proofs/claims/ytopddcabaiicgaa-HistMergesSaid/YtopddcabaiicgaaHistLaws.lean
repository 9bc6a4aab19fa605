/-
  Histograms: the laws, in plain words.
-/
import Derived.Test.YtopddcabaiicgaaHistFacts
namespace Go.Proofs.Ytopddcabaiicgaa
set_option linter.unusedVariables false
/-- Items as bins. -/
def toB (f : Int) (l : List (Int × Int)) : Bins := l.map fun it => (bucketF f it.1, it.2)
theorem toB_ub {f : Int} {l : List (Int × Int)} (h : UI l) : UB (toB f l) := fun x hx => by
  obtain ⟨y, hy, rfl⟩ := List.mem_map.1 hx
  exact (h y hy).2
/-- A histogram of items. -/
structure HOf (f : Int) (l : List (Int × Int)) (L : Bins) : Prop where
  rt : Rt f L
  ub : UBs L
  cnt : ∀ p, cap (S p L) = cap (S p (toB f l))
theorem rt_nil {f : Int} (h : fineB f = true) : Rt f [] := ⟨h, List.Pairwise.nil, fun _ h => (by simp at h), fun _ h => (by simp at h)⟩
theorem addL_keys {l : Bins} {a n : Int} {x : Int × Int} (h : x ∈ addL l a n) : x.1 = a ∨ ∃ z ∈ l, z.1 = x.1 := by
  unfold addL at h
  split at h
  · exact .inr ⟨x, h, rfl⟩
  · exact putL_keys h
theorem rt_add {f : Int} {L : Bins} {v n : Int} (h : Rt f L) (hu : UB L) (hv : U v) (hn : U n) : Rt f (addL L (bucketF f v) n) :=
  ⟨h.fine, addL_rise h.rise, addL_nz hu h.nz hn, fun x hx => by
    rcases addL_keys hx with e | ⟨z, hz, e⟩
    · rw [e]; exact has_bucket h.fine hv
    · rw [← e]; exact h.has z hz⟩
theorem addH_rt {f : Int} {L : Bins} (h : Rt f L) (v n : Int) : addH f L v n = (f, addL L (bucketF f v) n, 0) := by rw [addH, if_pos (right_of_rt h)]
theorem of_law {f : Int} (hf : fineB f = true) {l : List (Int × Int)} (hU : UI l) : ∃ L, ofH f l = (f, L, 0) ∧ HOf f l L := by
  have key : ∀ k, k ≤ l.length → ∃ L, ofH f (l.take k) = (f, L, 0) ∧ HOf f (l.take k) L := by
    intro k
    induction k with
    | zero => intro _; exact ⟨[], rfl, rt_nil hf, (fun _ h => by simp at h), fun p => by simp [toB]⟩
    | succ k ih =>
      intro hk
      obtain ⟨L, h1, h2⟩ := ih (by omega)
      have hi := ith_U hU k
      refine ⟨addL L (bucketF f (ith l k).1) (ith l k).2, ?_, rt_add h2.rt h2.ub.ub hi.1 hi.2, addL_ubs h2.ub (bucketF_i64 f hi.1) hi.2, fun p => ?_⟩
      · rw [take_ith_succ (by omega), ofH_snoc, h1, stepH, if_pos rfl, addH_rt h2.rt]
      · rw [S_add h2.ub.ub hi.2, take_ith_succ (by omega), toB, List.map_append, S_append]
        simp only [List.map_cons, List.map_nil, S]
        have h3 := h2.cnt p
        unfold toB at h3
        rw [cap_cap_add _ _ _ (by split <;> (have := hi.2; unfold U at this; omega)) h3]
        congr 1; omega
  have := key l.length (Nat.le_refl _)
  rwa [List.take_of_length_le (Nat.le_refl _)] at this
theorem cap_add {a a' b b' : Int} (h : cap a = cap a') (k : cap b = cap b') (ha : 0 ≤ a) (ha' : 0 ≤ a') (hb : 0 ≤ b) (hb' : 0 ≤ b') : cap (a + b) = cap (a' + b') := by unfold cap at *; omega
theorem rt_put {f : Int} {L M : Bins} (h : Rt f L) (k : Rt f M) (hu : UB L) (hm : UB M) : Rt f (putAll L M) :=
  ⟨h.fine, putAll_rise h.rise, putAll_nz hu hm h.nz k.nz, fun x hx => by
    have key : ∀ (M : Bins) (L : Bins), (∀ y ∈ L, (boundsF f y.1).2.2 = true) → (∀ y ∈ M, (boundsF f y.1).2.2 = true) → ∀ y ∈ putAll L M, (boundsF f y.1).2.2 = true := by
      intro M
      induction M with
      | nil => intro L hL _ y hy; exact hL y hy
      | cons z M ih =>
        intro L hL hM y hy
        refine ih (putL L z.1 z.2) (fun q hq => ?_) (fun q hq => hM q (by simp [hq])) y hy
        rcases putL_keys hq with e | ⟨r, hr, e⟩
        · rw [e]; exact hM z (by simp)
        · rw [← e]; exact hL r hr
    exact key M L h.has k.has x hx⟩
theorem mergeH_rt {f : Int} {L M : Bins} (h : Rt f L) (k : Rt f M) : mergeH f L f M = (f, putAll L M, 0) := by rw [mergeH, if_pos ⟨right_of_rt h, right_of_rt k, rfl⟩]
/-- The histogram of items is one alone. -/
theorem hof_eq {f : Int} {l m : List (Int × Int)} {L M : Bins} (h : HOf f l L) (k : HOf f m M) (e : ∀ p, cap (S p (toB f l)) = cap (S p (toB f m))) : L = M :=
  bins_ext h.rt.rise k.rt.rise h.ub.ub k.ub.ub h.rt.nz k.rt.nz (fun a => by rw [h.cnt, k.cnt, e])
theorem hof_merge {f : Int} {l m : List (Int × Int)} {L M : Bins} (h : HOf f l L) (k : HOf f m M) (hl : UI l) (hm : UI m) : HOf f (l ++ m) (putAll L M) :=
  ⟨rt_put h.rt k.rt h.ub.ub k.ub.ub, putAll_ubs h.ub k.ub, fun p => by
    rw [S_putAll h.ub.ub k.ub.ub, toB, List.map_append, S_append]
    exact cap_add (h.cnt p) (k.cnt p) (S_nonneg h.ub.ub) (S_nonneg (toB_ub hl)) (S_nonneg k.ub.ub) (S_nonneg (toB_ub hm))⟩
theorem S_filter (p : Int → Bool) : ∀ (l : Bins), S (fun _ => true) (l.filter fun x => p x.1) = S p l
  | [] => rfl
  | x :: l => by
    rw [List.filter_cons]
    cases h : p x.1 <;> simp [S, h, S_filter p l]
theorem total_rt {f : Int} {L : Bins} (h : Rt f L) (hu : UB L) : totalF f L = cap (S (fun _ => true) L) := by
  rw [totalF, if_pos (right_of_rt h), satSum_eq hu (by simp [U]), Int.zero_add]
theorem rank_rt {f : Int} {L : Bins} (h : Rt f L) (hu : UB L) (v : Int) : rankF f L v = cap (S (fun a => decide (a ≤ bucketF f v)) L) := by
  rw [rankF, if_pos (right_of_rt h), satSum_eq (fun x hx => hu x (List.mem_filter.1 hx).1) (by simp [U]), Int.zero_add]
  exact congrArg cap (S_filter (fun a => decide (a ≤ bucketF f v)) L)
theorem sat_cap {a b : Int} (ha : 0 ≤ a) (hb : 0 ≤ b) : sat (cap a) (cap b) = cap (a + b) := by rw [sat_eq]; unfold cap; omega
/-- HistFull. -/
theorem full_law {f v n m : Int} (hf : fineB f = true) (hv : U v) (hn : U n) (hm : U m) : ∃ x y z : Bins, addH f [] v n = (f, x, 0) ∧ addH f x v m = (f, y, 0) ∧ mergeH f y f y = (f, z, 0) ∧ UBs x ∧ UBs y ∧ UBs z ∧ x.length ≤ 2 ∧ y.length ≤ 1 ∧ z.length ≤ 4 ∧
    totalF f y = sat n m ∧ rankF f y v = sat n m ∧ totalF f z = sat (sat n m) (sat n m) := by
  have r0 := rt_nil hf
  have u0 : UBs [] := fun _ h => by simp at h
  have r1 := rt_add r0 u0.ub hv hn
  have u1 := addL_ubs u0 (bucketF_i64 f hv) hn
  have r2 := rt_add r1 u1.ub hv hm
  have u2 := addL_ubs u1 (bucketF_i64 f hv) hm
  have r3 := rt_put r2 r2 u2.ub u2.ub
  have u3 := putAll_ubs u2 u2
  obtain ⟨n1, n2⟩ := hn
  obtain ⟨m1, m2⟩ := hm
  have hs : ∀ p, cap (S p (addL (addL [] (bucketF f v) n) (bucketF f v) m)) = cap (if p (bucketF f v) then n + m else 0) := fun p => by
    rw [S_add u1.ub ⟨m1, m2⟩, cap_cap_add _ _ _ (by split <;> omega) (S_add (p := p) u0.ub ⟨n1, n2⟩)]
    simp only [S]
    split <;> simp
  have hlen : (addL (addL [] (bucketF f v) n) (bucketF f v) m).length ≤ 1 := by
    unfold addL
    split
    · split <;> simp [putL]
    · split <;> simp [putL]
  refine ⟨_, _, _, addH_rt r0 v n, addH_rt r1 v m, mergeH_rt r2 r2, u1, u2, u3, ?_, hlen, ?_, ?_, ?_, ?_⟩
  · have := addL_length [] (bucketF f v) n; simp at this; omega
  · have := putAll_length (addL (addL [] (bucketF f v) n) (bucketF f v) m) (addL (addL [] (bucketF f v) n) (bucketF f v) m); omega
  · rw [total_rt r2 u2.ub, hs, sat_eq]; simp [cap]
  · rw [rank_rt r2 u2.ub, hs, sat_eq]; simp [cap]
  · rw [total_rt r3 u3.ub, S_putAll u2.ub u2.ub]
    have h1 := hs fun _ => true
    simp only [if_true] at h1
    rw [cap_add h1 h1 (S_nonneg u2.ub) (by omega) (S_nonneg u2.ub) (by omega), sat_eq n m]
    exact (sat_cap (by omega) (by omega)).symm
end Go.Proofs.Ytopddcabaiicgaa

/-
  Histograms: the laws on lowering and ranks, in plain words.
-/
import Derived.Test.YtopddcabaiicgaaHistLaws
namespace Go.Proofs.Ytopddcabaiicgaa
set_option linter.unusedVariables false
theorem low_bucket {f v : Int} (hf : fineB f = true) (hv : U v) : bucketF (f - 1) (boundsF f (bucketF f v)).1 = bucketF (f - 1) v := by
  cases h1 : fineB (f - 1) with
  | false => simp [bucketF, h1]
  | true =>
    obtain ⟨F, V, rfl, rfl, hF, hV⟩ := bucketF_of hf hv
    obtain ⟨g1, g2⟩ := fine_of h1
    obtain ⟨lo, hi, hb⟩ := bnd_bk hF hV
    have B := bnd_ok hF hb
    have e : (F : Int) - 1 = ((F - 1 : Nat) : Int) := by omega
    rw [bucketF_nat hF, boundsF_nat hF, hb, e]
    simp only
    rw [bucketF_nat (by omega), bucketF_nat (by omega)]
    have := bk_less B hV rfl
    omega
theorem S_low (f : Int) (p : Int → Bool) : ∀ (l : Bins), S p (l.map (lowB f)) = S (fun a => p (bucketF (f - 1) (boundsF f a).1)) l
  | [] => rfl
  | x :: l => by simp only [List.map_cons, S, S_low f p l, lowB]
theorem S_toB_low {f : Int} (hf : fineB f = true) (p : Int → Bool) : ∀ {l : List (Int × Int)}, UI l → S (fun a => p (bucketF (f - 1) (boundsF f a).1)) (toB f l) = S p (toB (f - 1) l)
  | [], _ => rfl
  | x :: l, h => by
    have ih := S_toB_low hf p (l := l) (fun y hy => h y (by simp [hy]))
    unfold toB at ih ⊢
    simp only [List.map_cons, S, ih, low_bucket hf (h x (by simp)).1]
theorem S_toB_all (f g : Int) : ∀ (l : List (Int × Int)), S (fun _ => true) (toB f l) = S (fun _ => true) (toB g l)
  | [] => rfl
  | x :: l => by
    have ih := S_toB_all f g l
    unfold toB at ih ⊢
    simp only [List.map_cons, S, ih]
theorem lowers_law {f : Int} (hf : fineB f = true) (hg : fineB (f - 1) = true) {l : List (Int × Int)} (hU : UI l) : ∃ X Y : Bins, ofH f l = (f, X, 0) ∧ ofH (f - 1) l = (f - 1, Y, 0) ∧ lowerH f X = (f - 1, Y, 0) ∧ totalF (f - 1) Y = totalF f X ∧ UBs X ∧ UBs Y ∧ X.length ≤ l.length ∧ Y.length ≤ l.length := by
  obtain ⟨X, e1, h1⟩ := of_law hf hU
  obtain ⟨Y, e2, h2⟩ := of_law hg hU
  have q : putAll [] (X.map (lowB f)) = Y := bins_ext (putAll_rise List.Pairwise.nil) h2.rt.rise (putAll_ub (fun _ h => by simp at h) (lowB_ubs h1.ub).ub) h2.ub.ub (putAll_nz (fun _ h => by simp at h) (lowB_ubs h1.ub).ub (fun _ h => by simp at h) (lowB_nz h1.rt.nz)) h2.rt.nz (fun a => by
    rw [S_putAll (fun _ h => by simp at h) (lowB_ubs h1.ub).ub, h2.cnt, S_low]
    simp only [S, Int.zero_add]
    rw [h1.cnt]
    exact congrArg cap (S_toB_low hf (· == a) hU))
  have l1 := (ofH_facts (f := f) hU).2
  have l2 := (ofH_facts (f := f - 1) hU).2
  rw [e1] at l1
  rw [e2] at l2
  refine ⟨X, Y, e1, e2, by rw [lowerH, if_pos ⟨right_of_rt h1.rt, hg⟩, q], ?_, h1.ub, h2.ub, l1, l2⟩
  rw [total_rt h2.rt h2.ub.ub, total_rt h1.rt h1.ub.ub, h1.cnt, h2.cnt, S_toB_all f (f - 1)]
/-- A bucket that has values is no greater than that of the greatest value. -/
theorem has_le {f a : Int} (h : (boundsF f a).2.2 = true) : a ≤ bucketF f 18446744073709551615 := by
  have ha := has_ge h
  unfold boundsF at h
  split at h
  · rename_i hc
    cases hb : bnd f.toNat a.toNat with
    | none => rw [hb] at h; cases h
    | some q =>
      obtain ⟨h1, h2⟩ := fine_of hc.1
      have B := bnd_ok (lo := q.1) (hi := q.2) (by omega) hb
      have e : a = bucketF f q.1 := by
        have := bucketF_nat (f := f.toNat) (v := q.1) (by omega)
        have e2 : ((f.toNat : Nat) : Int) = f := by omega
        rw [e2] at this
        rw [this, B.lo_in]; omega
      have hl := B.lt
      have hle := B.le
      rw [e]
      exact bucketF_mono ⟨by omega, by omega⟩ ⟨by omega, by omega⟩ (by omega)
  · cases h
theorem cap_mono {a b : Int} (h : a ≤ b) : cap a ≤ cap b := by unfold cap; omega
theorem cap_U {a : Int} (h : 0 ≤ a) : U (cap a) := by unfold U cap; omega
theorem grows_law {f v w : Int} (hf : fineB f = true) (hv : U v) (hw : U w) (hle : v ≤ w) {l : List (Int × Int)} (hU : UI l) (x : Int) : ∃ X Y : Bins, ofH f l = (f, X, 0) ∧ mergeH f X f X = (f, Y, 0) ∧ UBs X ∧ UBs Y ∧ X.length ≤ l.length ∧ Y.length ≤ l.length + l.length ∧
    rankF f X v ≤ rankF f X w ∧ rankF f X w ≤ totalF f X ∧ rankF f Y x = sat (rankF f X x) (rankF f X x) ∧ rankF f X 18446744073709551615 = totalF f X ∧ U (rankF f X x) := by
  obtain ⟨X, e1, h1⟩ := of_law hf hU
  have r2 := rt_put h1.rt h1.rt h1.ub.ub h1.ub.ub
  have l1 := (ofH_facts (f := f) hU).2
  rw [e1] at l1
  simp only at l1
  have l2 := putAll_length X X
  refine ⟨X, putAll X X, e1, mergeH_rt h1.rt h1.rt, h1.ub, putAll_ubs h1.ub h1.ub, l1, by omega, ?_, ?_, ?_, ?_, ?_⟩
  · rw [rank_rt h1.rt h1.ub.ub, rank_rt h1.rt h1.ub.ub]
    have := bucketF_mono (f := f) hv hw hle
    exact cap_mono (S_le h1.ub.ub (fun y _ h => by simp at h ⊢; omega))
  · rw [rank_rt h1.rt h1.ub.ub, total_rt h1.rt h1.ub.ub]
    exact cap_mono (S_le h1.ub.ub (fun y _ _ => rfl))
  · rw [rank_rt r2 (putAll_ubs h1.ub h1.ub).ub, rank_rt h1.rt h1.ub.ub, S_putAll h1.ub.ub h1.ub.ub, sat_cap (S_nonneg h1.ub.ub) (S_nonneg h1.ub.ub)]
  · rw [rank_rt h1.rt h1.ub.ub, total_rt h1.rt h1.ub.ub]
    exact congrArg cap (S_congr (fun y hy => by simp [has_le (h1.rt.has y hy)]))
  · rw [rank_rt h1.rt h1.ub.ub]; exact cap_U (S_nonneg h1.ub.ub)
end Go.Proofs.Ytopddcabaiicgaa

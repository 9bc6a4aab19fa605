/-
  Histograms: the law on ranks and places, in plain words.
-/
import Derived.Test.YtopddcabaiicgaaHistLaws2
import Derived.Test.YtopddcabaiicgaaHistSelect
namespace Go.Proofs.Ytopddcabaiicgaa
set_option linter.unusedVariables false
/-- Values, each once. -/
def once (l : List Int) : List (Int × Int) := l.map fun x => (x, 1)
theorem once_ui {l : List Int} (h : Us l) : UI (once l) := fun x hx => by
  obtain ⟨y, hy, rfl⟩ := List.mem_map.1 hx
  exact ⟨h y hy, by simp [U]⟩
def cnt (l : List Int) (t : Int) : Int := ((l.filter fun x => decide (x ≤ t)).length : Nat)
theorem cnt_bd (l : List Int) (t : Int) : 0 ≤ cnt l t ∧ cnt l t ≤ l.length := by
  unfold cnt
  have := List.length_filter_le (fun x : Int => decide (x ≤ t)) l
  omega
theorem cnt_snoc (l : List Int) (x t : Int) : cnt (l ++ [x]) t = cnt l t + if x ≤ t then 1 else 0 := by
  unfold cnt
  rw [List.filter_append]
  by_cases h : x ≤ t <;> simp [h]
theorem S_once (f : Int) (p : Int → Bool) (t : Int) : ∀ (l : List Int), (∀ x ∈ l, p (bucketF f x) = decide (x ≤ t)) → S p (toB f (once l)) = cnt l t
  | [], _ => rfl
  | x :: l, h => by
    have ih := S_once f p t l (fun y hy => h y (by simp [hy]))
    have hx := h x (by simp)
    unfold toB once cnt at *
    simp only [List.map_cons, S, ih, hx, List.filter_cons]
    by_cases h2 : x ≤ t <;> simp [h2] <;> omega
theorem S_once_all (f : Int) (l : List Int) : S (fun _ => true) (toB f (once l)) = (l.length : Int) := by
  induction l with
  | nil => rfl
  | cons x l ih => unfold toB once at *; simp only [List.map_cons, S, ih, if_true, List.length_cons]; omega
theorem cnt_mono {l : List Int} {s t : Int} (h : s ≤ t) : cnt l s ≤ cnt l t := by
  induction l with
  | nil => simp [cnt]
  | cons x l ih =>
    unfold cnt at *
    simp only [List.filter_cons]
    by_cases h1 : x ≤ s
    · have h2 : x ≤ t := by omega
      simp [h1, h2]; omega
    · by_cases h2 : x ≤ t
      · simp [h1, h2]; omega
      · simp [h1, h2]; omega
theorem S_take {L : Bins} {b : Int} {k : Nat} (hr : Rise L) (hk : k ≤ L.length) (h1 : ∀ i, i < k → (bth L i).1 ≤ b) (h2 : k < L.length → b < (bth L k).1) : S (fun a => decide (a ≤ b)) L = S (fun _ => true) (L.take k) := by
  rw [← S_filter (fun a => decide (a ≤ b)) L]
  exact congrArg _ (filter_upto hr hk h1 h2)
/-- What is told of ranks and places. -/
structure RkL (f : Int) (l : List Int) (L : Bins) (v top : Int) : Prop where
  rank : rankF f L v = cnt l top
  le : cnt l v ≤ cnt l top
  vt : v ≤ top
  total : totalF f L = (l.length : Int)
  none_ : ∀ p : Int, (l.length : Int) ≤ p → selectF f L p = (0, 0, false)
  some_ : ∀ p : Int, 0 ≤ p → p < (l.length : Int) → ∃ a b, selectF f L p = (a, b, true) ∧ U a ∧ U b ∧ p < rankF f L b ∧ (a = 0 ∨ (1 ≤ a ∧ rankF f L (a - 1) ≤ p))
theorem bth_i64 {f : Int} {x : Int} (h : (boundsF f x).2.2 = true) : ∃ v, U v ∧ x = bucketF f v := by
  have ha := has_ge h
  unfold boundsF at h
  split at h
  · rename_i hc
    cases hb : bnd f.toNat x.toNat with
    | none => rw [hb] at h; cases h
    | some q =>
      obtain ⟨h1, h2⟩ := fine_of hc.1
      have B := bnd_ok (lo := q.1) (hi := q.2) (by omega) hb
      have hl := B.lt
      have hle := B.le
      refine ⟨q.1, ⟨by omega, by omega⟩, ?_⟩
      have := bucketF_nat (f := f.toNat) (v := q.1) (by omega)
      have e2 : ((f.toNat : Nat) : Int) = f := by omega
      rw [e2] at this
      rw [this, B.lo_in]; omega
  · cases h
theorem ranks_law {f v : Int} (hf : fineB f = true) (hv : U v) {l : List Int} (hU : Us l) (hl : l.length ≤ 100) : ∃ L top, ofH f (once l) = (f, L, 0) ∧ UBs L ∧ L.length ≤ l.length ∧ (boundsF f (bucketF f v)).2.1 = top ∧ U top ∧ RkL f l L v top := by
  obtain ⟨L, e1, h1⟩ := of_law hf (once_ui hU)
  obtain ⟨a, top, B⟩ := bkF_any hf hv
  have l1 := (ofH_facts (f := f) (once_ui hU)).2
  rw [e1] at l1
  have l1 : L.length ≤ l.length := by simpa [once] using l1
  have ub := h1.ub.ub
  have hall : cap (S (fun _ => true) L) = (l.length : Int) := by rw [h1.cnt, S_once_all]; unfold cap; omega
  have hsum : ∀ k, satSum (L.take k) 0 = cap (S (fun _ => true) (L.take k)) := fun k => by rw [satSum_eq (h1.ub.take k).ub (by simp [U]), Int.zero_add]
  refine ⟨L, top, e1, h1.ub, l1, by rw [B.eq], B.ub, ?_, cnt_mono B.hi, B.hi, by rw [total_rt h1.rt ub, hall], fun p hp => ?_, fun p hp0 hp => ?_⟩
  · rw [rank_rt h1.rt ub, h1.cnt, S_once f _ top l (fun x hx => by
      have := B.up x (hU x hx)
      by_cases h : x ≤ top
      · simp [h, this.2 h]
      · have h2 : ¬ bucketF f x ≤ bucketF f v := fun h3 => h (this.1 h3)
        simp [h, h2])]
    have := cnt_bd l top
    unfold cap; omega
  · rw [selectF, if_pos (right_of_rt h1.rt), selG, selK_none (fun i hi => ?_)]
    rw [hsum]
    have hle : S (fun _ => true) (L.take (i + 1)) ≤ S (fun _ => true) L := by
      conv => rhs; rw [← List.take_append_drop (i + 1) L]
      rw [S_append]
      have := S_nonneg (p := fun _ => true) (h1.ub.drop (i + 1)).ub
      omega
    have := cap_mono hle
    omega
  · have hpos : 0 < L.length := by
      rcases Nat.eq_zero_or_pos L.length with h | h
      · rw [List.eq_nil_of_length_eq_zero h] at hall; simp [S, cap] at hall; omega
      · exact h
    -- the first place whose sum is greater
    have hex : ∃ k, k < L.length ∧ p < satSum (L.take (k + 1)) 0 := ⟨L.length - 1, by omega, by rw [hsum, List.take_of_length_le (by omega), hall]; exact hp⟩
    obtain ⟨k, hk, hgt, hlow⟩ : ∃ k, k < L.length ∧ p < satSum (L.take (k + 1)) 0 ∧ ∀ i, i < k → satSum (L.take (i + 1)) 0 ≤ p := by
      have key : ∀ n, (∃ k, k < n ∧ k < L.length ∧ p < satSum (L.take (k + 1)) 0) → ∃ k, k < L.length ∧ p < satSum (L.take (k + 1)) 0 ∧ ∀ i, i < k → satSum (L.take (i + 1)) 0 ≤ p := by
        intro n
        induction n with
        | zero => rintro ⟨k, h, _⟩; omega
        | succ n ih =>
          rintro ⟨k, h1, h2, h3⟩
          by_cases h4 : ∃ j, j < n ∧ j < L.length ∧ p < satSum (L.take (j + 1)) 0
          · exact ih h4
          · refine ⟨k, h2, h3, fun i hi => ?_⟩
            rcases Int.lt_or_le p (satSum (L.take (i + 1)) 0) with h5 | h5
            · exact absurd ⟨i, by omega, by omega, h5⟩ h4
            · exact h5
      obtain ⟨k, h2, h3⟩ := hex
      exact key (k + 1) ⟨k, by omega, h2, h3⟩
    have hhas := h1.rt.has _ (bth_mem hk)
    obtain ⟨x, hx, ex⟩ := bth_i64 hhas
    obtain ⟨a', b', B'⟩ := bkF_any hf hx
    refine ⟨a', b', ?_, B'.ua, B'.ub, ?_, ?_⟩
    · rw [selectF, if_pos (right_of_rt h1.rt), selG, selK_some hk hlow hgt]
      simp only
      rw [ex, B'.eq]
    · rw [rank_rt h1.rt ub, B'.bb, ← ex, S_take (k := k + 1) h1.rt.rise hk (fun i hi => ?_) (fun h => rise_at h1.rt.rise (by omega) h), ← hsum]
      · exact hgt
      · rcases Nat.lt_or_ge i k with h | h
        · exact Int.le_of_lt (rise_at h1.rt.rise h hk)
        · have : i = k := by omega
          subst this; exact Int.le_refl _
    · rcases B'.low with h | h
      · exact .inl h
      · by_cases h0 : a' = 0
        · exact .inl h0
        · refine .inr ⟨by have := B'.ua; unfold U at this; omega, ?_⟩
          rw [rank_rt h1.rt ub]
          rw [← ex] at h
          have hle : S (fun c => decide (c ≤ bucketF f (a' - 1))) L ≤ S (fun c => decide (c ≤ (bth L k).1 - 1)) L := S_le ub (fun y _ hy => by simp at hy ⊢; omega)
          rw [S_take (k := k) (b := (bth L k).1 - 1) h1.rt.rise (by omega) (fun i hi => by have := rise_at h1.rt.rise hi hk; omega) (fun _ => by omega)] at hle
          have h5 := cap_mono hle
          rw [← hsum] at h5
          cases k with
          | zero => simp only [List.take_zero] at h5; have : satSum ([] : Bins) 0 = 0 := rfl; omega
          | succ k => have := hlow k (by omega); omega
end Go.Proofs.Ytopddcabaiicgaa

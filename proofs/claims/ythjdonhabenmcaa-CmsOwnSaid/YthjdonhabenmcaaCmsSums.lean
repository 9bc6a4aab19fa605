/-
  What counters of items hold, in plain words: each counter is the sum of how often the numbers came that tell it, cut at 2^64-1. No program in sight.
-/
import Derived.Test.YthjdonhabenmcaaCmsOf
namespace Go.Proofs.Ythjdonhabenmcaa
theorem mul_add_dm {a b c : Nat} (hc : c < b) : (a * b + c) / b = a ∧ (a * b + c) % b = c :=
  ⟨by rw [Nat.add_comm, Nat.add_mul_div_right _ _ (by omega), Nat.div_eq_of_lt hc, Nat.zero_add], by rw [Nat.add_comm, Nat.add_mul_mod_self_right, Nat.mod_eq_of_lt hc]⟩
/-- Does h tell the counter at i? -/
def tells (C : Nat) (h : Int) (i : Nat) : Bool := decide (colF C (i / C : Nat) h = (i % C : Nat))
/-- How often the numbers came that tell the counter at i. -/
def raw (C : Nat) (l : List (Int × Int)) (i : Nat) : Int := (l.map fun it => if tells C it.1 i then it.2 else 0).sum
theorem mem_places {R C : Nat} (hC : 0 < C) {h : Int} {i : Nat} (hi : i < R * C) : i ∈ places R C h ↔ tells C h i = true := by
  have hdiv : i / C < R := Nat.div_lt_of_lt_mul (by rw [Nat.mul_comm]; exact hi)
  have hbd := colF_bd (c := C) (by omega) (i / C : Nat) h
  constructor
  · intro hm
    obtain ⟨k, hk, e⟩ := List.mem_map.1 hm
    have hb := colF_bd (c := C) (by omega) k h
    obtain ⟨v, hv⟩ : ∃ v : Nat, colF C k h = v := ⟨(colF C k h).toNat, by omega⟩
    have e' : i = k * C + v := by rw [← e, place, hv, Int.toNat_natCast]
    have hvc : v < C := by omega
    have h1 : i / C = k := by rw [e']; exact (mul_add_dm hvc).1
    have h2 : i % C = v := by rw [e']; exact (mul_add_dm hvc).2
    simp only [tells, decide_eq_true_eq, h1, h2]
    exact hv
  · intro ht
    simp only [tells, decide_eq_true_eq] at ht
    refine List.mem_map.2 ⟨i / C, List.mem_range.2 hdiv, ?_⟩
    rw [place, ht, Int.toNat_natCast]
    exact Nat.div_add_mod' i C
theorem nodup_places {R C : Nat} (hC : 0 < C) (h : Int) : (places R C h).Nodup := by
  unfold places
  refine List.Pairwise.map _ ?_ List.nodup_range
  intro a b hab e
  have ha := colF_bd (c := C) (by omega) a h
  have hb := colF_bd (c := C) (by omega) b h
  obtain ⟨va, hva⟩ : ∃ v : Nat, colF C a h = v := ⟨(colF C a h).toNat, by omega⟩
  obtain ⟨vb, hvb⟩ : ∃ v : Nat, colF C b h = v := ⟨(colF C b h).toNat, by omega⟩
  simp only [place, hva, hvb, Int.toNat_natCast] at e
  have h1 : (a * C + va) / C = a := (mul_add_dm (by omega)).1
  have h2 : (b * C + vb) / C = b := (mul_add_dm (by omega)).1
  exact hab (by rw [← h1, e, h2])
theorem raw_nil (C : Nat) (i : Nat) : raw C [] i = 0 := rfl
theorem raw_append (C : Nat) (l m : List (Int × Int)) (i : Nat) : raw C (l ++ m) i = raw C l i + raw C m i := by simp [raw]
theorem raw_snoc (C : Nat) (l : List (Int × Int)) (it : Int × Int) (i : Nat) : raw C (l ++ [it]) i = raw C l i + if tells C it.1 i then it.2 else 0 := by simp [raw]
theorem raw_nonneg {C : Nat} {l : List (Int × Int)} (h : UI l) (i : Nat) : 0 ≤ raw C l i := by
  induction l with
  | nil => simp [raw]
  | cons a l ih =>
    have := ih (fun x hx => h x (List.mem_cons_of_mem _ hx))
    have ha := (h a (List.mem_cons_self ..)).2.1
    simp only [raw, List.map_cons, List.sum_cons] at this ⊢
    split <;> omega
theorem raw_reverse (C : Nat) (l : List (Int × Int)) (i : Nat) : raw C l.reverse i = raw C l i := by
  induction l with
  | nil => rfl
  | cons a l ih => rw [List.reverse_cons, raw_append, ih]; simp only [raw, List.map_cons, List.map_nil, List.sum_cons, List.sum_nil]; omega
theorem newF_ok {r c : Int} (h : shapeB r c = true) : newF r c = (⟨r, c, List.replicate (r * c).toNat 0⟩, 0) := by rw [newF, if_pos h]
theorem newF_bad {r c : Int} (h : shapeB r c = false) : newF r c = (Cm.none, 80) := by rw [newF, if_neg (by simp [h])]
theorem nth_zeros (n i : Nat) : nth (List.replicate n 0) i = 0 := by
  unfold nth
  rw [List.getElem?_replicate]
  split <;> rfl
/-- Counters of items, at a shape that there is. -/
theorem ofC_ok {R C : Nat} (h : shapeB R C = true) : ∀ (l : List (Int × Int)), UI l → ∃ L, ofC R C l = (⟨R, C, L⟩, 0) ∧ L.length = R * C ∧ ∀ i, i < R * C → nth L i = min (raw C l i) 18446744073709551615 := by
  obtain ⟨q1, q2, q3⟩ := shape_of h
  have hC : 0 < C := by omega
  have hn : ((R : Int) * (C : Int)).toNat = R * C := by rw [← Int.natCast_mul, Int.toNat_natCast]
  have key : ∀ (n : Nat) (l : List (Int × Int)), l.length = n → UI l → ∃ L, ofC R C l = (⟨R, C, L⟩, 0) ∧ L.length = R * C ∧ ∀ i, i < R * C → nth L i = min (raw C l i) 18446744073709551615 := by
    intro n
    induction n with
    | zero =>
      intro l hl _
      obtain rfl := List.eq_nil_of_length_eq_zero hl
      refine ⟨List.replicate (R * C) 0, ?_, by simp, fun i _ => ?_⟩
      · show newF R C = _
        rw [newF_ok h, hn]
      · rw [nth_zeros, raw_nil]; decide
    | succ n ih =>
      intro l hl hU
      obtain ⟨m, it, rfl⟩ : ∃ m it, l = m ++ [it] := by
        have hne : l ≠ [] := by rintro rfl; simp at hl
        exact ⟨l.dropLast, l.getLast hne, (List.dropLast_concat_getLast hne).symm⟩
      have hUm : UI m := fun x hx => hU x (List.mem_append_left _ hx)
      have hit := hU it (by simp)
      obtain ⟨L, e, hL, hnth⟩ := ih m (by simpa using hl) hUm
      have hr : rightC R C L.length = true := right_mk h (by rw [hL]; simp)
      refine ⟨chgAll (fun _ o => sat o it.2) L (places R C it.1), ?_, by rw [length_chgAll]; exact hL, fun i hi => ?_⟩
      · rw [ofC_snoc, e, stepC, if_pos rfl, addC, if_pos hr]
        simp
      · rw [nth_chgAll _ _ _ _ (by rw [hL]; exact places_lt hC _) (nodup_places hC _), hnth i hi, raw_snoc]
        have h0 := raw_nonneg (C := C) hUm i
        have h1 := hit.2.1
        by_cases ht : tells C it.1 i = true
        · rw [if_pos ((mem_places hC hi).2 ht), if_pos ht, sat_eq]; omega
        · rw [if_neg (fun hm => ht ((mem_places hC hi).1 hm)), if_neg ht]; omega
  exact fun l hU => key l.length l rfl hU
theorem ofC_bad {r c : Int} (h : shapeB r c = false) (l : List (Int × Int)) : ofC r c l = (Cm.none, 80) := by
  have h0 : ofC r c (l.take 0) = (Cm.none, 80) := newF_bad h
  rw [ofC_stays (k := 0) (by rw [h0]; decide), h0]
theorem ofC_err {r c : Int} {l : List (Int × Int)} (hU : UI l) (h : (ofC r c l).2 ≠ 0) : ofC r c l = (Cm.none, 80) := by
  cases hs : shapeB r c with
  | false => exact ofC_bad hs l
  | true =>
    obtain ⟨R, C, rfl, rfl, _⟩ := shape_nat hs
    obtain ⟨L, e, _⟩ := ofC_ok hs l hU
    rw [e] at h
    exact absurd rfl h
theorem ofC_shape {r c : Int} {l : List (Int × Int)} (h : (ofC r c l).2 = 0) : shapeB r c = true := by
  cases hs : shapeB r c with
  | false => rw [ofC_bad hs] at h; cases h
  | true => rfl
/-- Merged counters, counter by counter. -/
theorem mergeC_ok {R C : Nat} {L M : List Int} (h : shapeB R C = true) (hL : L.length = R * C) (hM : M.length = R * C) :
    ∃ N, mergeC ⟨R, C, L⟩ ⟨R, C, M⟩ = (⟨R, C, N⟩, 0) ∧ N.length = R * C ∧ ∀ i, i < R * C → nth N i = sat (nth L i) (nth M i) := by
  have hr : rightC R C L.length = true := right_mk h (by rw [hL]; simp)
  have hm : rightC R C M.length = true := right_mk h (by rw [hM]; simp)
  refine ⟨chgAll (fun p o => sat o (nth M p)) L (List.range L.length), ?_, by rw [length_chgAll]; exact hL, fun i hi => ?_⟩
  · rw [mergeC, if_pos ⟨hr, hm, rfl, rfl⟩]
  · rw [nth_chgAll _ _ _ _ (fun p hp => List.mem_range.1 hp) List.nodup_range, if_pos (List.mem_range.2 (by rw [hL]; exact hi))]
/-- Lowered counters, counter by counter. -/
theorem lowerC_ok {R H : Nat} {L : List Int} (h : shapeB R (2 * (H : Int)) = true) (h4 : H ≠ 2) (hL : L.length = R * (2 * H)) :
    ∃ N, lowerC ⟨R, 2 * (H : Int), L⟩ = (⟨R, H, N⟩, 0) ∧ N.length = R * H ∧ ∀ i, i < R * H → nth N i = halfF H L i := by
  have hr : rightC R (2 * (H : Int)) L.length = true := right_mk h (by rw [hL]; simp)
  have hd : (2 * (H : Int)) / 2 = (H : Int) := by omega
  have hn : ((R : Int) * (H : Int)).toNat = R * H := by rw [← Int.natCast_mul, Int.toNat_natCast]
  refine ⟨chgAll (fun p _ => halfF H L p) (List.replicate (R * H) 0) (List.range (R * H)), ?_, by rw [length_chgAll]; simp, fun i hi => ?_⟩
  · rw [lowerC, if_pos ⟨hr, by show 2 * (H : Int) ≠ 4; omega⟩]
    simp only [hd, hn, Int.toNat_natCast]
  · rw [nth_chgAll _ _ _ _ (fun p hp => by rw [List.length_replicate]; exact List.mem_range.1 hp) List.nodup_range, if_pos (List.mem_range.2 hi)]
theorem half_num {H q : Nat} (hq : q < H) (X : Int) : (if X % ((2 * H : Nat) : Int) = (q : Int) then (1 : Int) else 0) + (if X % ((2 * H : Nat) : Int) = ((q + H : Nat) : Int) then 1 else 0) = if X % (H : Int) = (q : Int) then 1 else 0 := by
  have d1 : X % ((2 * H : Nat) : Int) % (H : Int) = X % (H : Int) := Int.emod_emod_of_dvd X ⟨2, by omega⟩
  have b1 := Int.emod_nonneg X (show ((2 * H : Nat) : Int) ≠ 0 by omega)
  have b2 := Int.emod_lt_of_pos X (show (0 : Int) < ((2 * H : Nat) : Int) by omega)
  obtain ⟨Y, hY0⟩ : ∃ Y, X % ((2 * H : Nat) : Int) = Y := ⟨_, rfl⟩
  rw [hY0] at d1 b1 b2 ⊢
  have hY : Y % (H : Int) = if Y < H then Y else Y - H := by
    split
    · exact Int.emod_eq_of_lt b1 ‹_›
    · have h1 : (Y - (H : Int)) % (H : Int) = Y % (H : Int) := Int.sub_emod_right Y H
      rw [← h1, Int.emod_eq_of_lt (by omega) (by omega)]
  rw [← d1, hY]
  by_cases c1 : Y < H
  · rw [if_pos c1, if_neg (show ¬ Y = ((q + H : Nat) : Int) by omega)]; omega
  · rw [if_neg c1, if_neg (show ¬ Y = (q : Int) by omega)]
    by_cases c2 : Y - H = (q : Int)
    · rw [if_pos (show Y = ((q + H : Nat) : Int) by omega), if_pos c2]; omega
    · rw [if_neg (show ¬ Y = ((q + H : Nat) : Int) by omega), if_neg c2]; omega
/-- A number tells a counter of half as many columns just if it tells one of the two. -/
theorem tells_half {H : Nat} (hH : 0 < H) (h : Int) (p : Nat) :
    (if tells (2 * H) h (fromF H p) then (1 : Int) else 0) + (if tells (2 * H) h (fromF H p + H) then 1 else 0) = if tells H h p then 1 else 0 := by
  have hm := Nat.mod_lt p hH
  obtain ⟨e1, e2⟩ : fromF H p / (2 * H) = p / H ∧ fromF H p % (2 * H) = p % H := mul_add_dm (by omega)
  obtain ⟨e3, e4⟩ : (fromF H p + H) / (2 * H) = p / H ∧ (fromF H p + H) % (2 * H) = p % H + H := by unfold fromF; rw [Nat.add_assoc]; exact mul_add_dm (by omega)
  simp only [tells, e1, e2, e3, e4, decide_eq_true_eq]
  exact half_num hm (h / 4294967296 + ((p / H : Nat) : Int) * (h % 4294967296))
theorem raw_half {H : Nat} (hH : 0 < H) {l : List (Int × Int)} (hU : UI l) (p : Nat) : raw (2 * H) l (fromF H p) + raw (2 * H) l (fromF H p + H) = raw H l p := by
  induction l with
  | nil => rfl
  | cons a l ih =>
    have h1 := ih (fun x hx => hU x (List.mem_cons_of_mem _ hx))
    have h2 := tells_half hH a.1 p
    simp only [raw, List.map_cons, List.sum_cons] at h1 ⊢
    rw [← h1]
    by_cases t1 : tells (2 * H) a.1 (fromF H p) = true <;> by_cases t2 : tells (2 * H) a.1 (fromF H p + H) = true <;> by_cases t3 : tells H a.1 p = true <;> simp_all <;> omega
end Go.Proofs.Ythjdonhabenmcaa

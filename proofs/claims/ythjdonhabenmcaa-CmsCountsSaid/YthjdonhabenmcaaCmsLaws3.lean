/-
  The plain law behind CmsCounts.
-/
import Derived.Test.YthjdonhabenmcaaCmsLaws2
namespace Go.Proofs.Ythjdonhabenmcaa
theorem foldl_min_le {L : List Int} : ∀ (ps : List Nat) (a : Int), ps.foldl (fun a p => min a (nth L p)) a ≤ a ∧ ∀ p ∈ ps, ps.foldl (fun a p => min a (nth L p)) a ≤ nth L p
  | [], a => ⟨Int.le_refl _, fun p hp => by simp at hp⟩
  | q :: ps, a => by
    obtain ⟨h1, h2⟩ := foldl_min_le (L := L) ps (min a (nth L q))
    rw [List.foldl_cons]
    refine ⟨by omega, fun p hp => ?_⟩
    rcases List.mem_cons.1 hp with rfl | hp
    · omega
    · exact h2 p hp
theorem le_foldl_min {L : List Int} {b : Int} : ∀ (ps : List Nat) (a : Int), b ≤ a → (∀ p ∈ ps, b ≤ nth L p) → b ≤ ps.foldl (fun a p => min a (nth L p)) a
  | [], _, h, _ => h
  | q :: ps, a, h, hp => by
    rw [List.foldl_cons]
    exact le_foldl_min ps _ (by have := hp q (List.mem_cons_self ..); omega) (fun p hpp => hp p (List.mem_cons_of_mem _ hpp))
theorem least_le {L : List Int} {ps : List Nat} {p : Nat} (hp : p ∈ ps) : least L ps ≤ nth L p := (foldl_min_le ps _).2 p hp
theorem le_least {L : List Int} {ps : List Nat} {b : Int} (hb : b ≤ 18446744073709551615) (h : ∀ p ∈ ps, b ≤ nth L p) : b ≤ least L ps := le_foldl_min ps _ hb h
/-- How often h came, and how often all came, saturated. -/
def ownF (h : Int) (l : List (Int × Int)) : Int := l.foldl (fun a it => if it.1 = h then sat a it.2 else a) 0
def allF (l : List (Int × Int)) : Int := l.foldl (fun a it => sat a it.2) 0
theorem ownF_snoc (h : Int) (l : List (Int × Int)) (it : Int × Int) : ownF h (l ++ [it]) = if it.1 = h then sat (ownF h l) it.2 else ownF h l := by simp [ownF]
theorem allF_snoc (l : List (Int × Int)) (it : Int × Int) : allF (l ++ [it]) = sat (allF l) it.2 := by simp [allF]
def ownS (h : Int) (l : List (Int × Int)) : Int := (l.map fun it => if it.1 = h then it.2 else 0).sum
def allS (l : List (Int × Int)) : Int := (l.map fun it => it.2).sum
theorem sums_own (h : Int) : ∀ (l : List (Int × Int)) (a b : Int), UI l → 0 ≤ b → a = min b 18446744073709551615 → l.foldl (fun a it => if it.1 = h then sat a it.2 else a) a = min (b + ownS h l) 18446744073709551615 ∧ 0 ≤ ownS h l
  | [], a, b, _, hb, e => by simp [ownS, e]
  | it :: l, a, b, hU, hb, e => by
    have h1 := (hU it (List.mem_cons_self ..)).2.1
    have hU' : UI l := fun x hx => hU x (List.mem_cons_of_mem _ hx)
    rw [List.foldl_cons]
    have hs : ownS h (it :: l) = (if it.1 = h then it.2 else 0) + ownS h l := by simp [ownS]
    rw [hs]
    by_cases c : it.1 = h
    · rw [if_pos c, if_pos c]
      obtain ⟨i1, i2⟩ := sums_own h l (sat a it.2) (b + it.2) hU' (by omega) (by rw [sat_eq]; omega)
      rw [i1]; exact ⟨by rw [Int.add_assoc], by omega⟩
    · rw [if_neg c, if_neg c]
      obtain ⟨i1, i2⟩ := sums_own h l a b hU' hb e
      rw [i1]; exact ⟨by rw [Int.zero_add], by omega⟩
theorem sums_all : ∀ (l : List (Int × Int)) (a b : Int), UI l → 0 ≤ b → a = min b 18446744073709551615 → l.foldl (fun a it => sat a it.2) a = min (b + allS l) 18446744073709551615 ∧ 0 ≤ allS l
  | [], a, b, _, hb, e => by simp [allS, e]
  | it :: l, a, b, hU, hb, e => by
    have h1 := (hU it (List.mem_cons_self ..)).2.1
    have hU' : UI l := fun x hx => hU x (List.mem_cons_of_mem _ hx)
    rw [List.foldl_cons]
    have hs : allS (it :: l) = it.2 + allS l := by simp [allS]
    rw [hs]
    obtain ⟨i1, i2⟩ := sums_all l (sat a it.2) (b + it.2) hU' (by omega) (by rw [sat_eq]; omega)
    rw [i1]; exact ⟨by rw [Int.add_assoc], by omega⟩
theorem ownF_eq {h : Int} {l : List (Int × Int)} (hU : UI l) : ownF h l = min (ownS h l) 18446744073709551615 ∧ 0 ≤ ownS h l := by
  have := sums_own h l 0 0 hU (by omega) (by decide)
  rw [Int.zero_add] at this
  exact this
theorem allF_eq {l : List (Int × Int)} (hU : UI l) : allF l = min (allS l) 18446744073709551615 ∧ 0 ≤ allS l := by
  have := sums_all l 0 0 hU (by omega) (by decide)
  rw [Int.zero_add] at this
  exact this
theorem ownF_U {h : Int} {l : List (Int × Int)} (hU : UI l) : U (ownF h l) := by
  obtain ⟨e, h1⟩ := ownF_eq (h := h) hU
  rw [e]; unfold U; omega
theorem allF_U {l : List (Int × Int)} (hU : UI l) : U (allF l) := by
  obtain ⟨e, h1⟩ := allF_eq hU
  rw [e]; unfold U; omega
theorem raw_bounds {C : Nat} {h : Int} {l : List (Int × Int)} (hU : UI l) (i : Nat) : (tells C h i = true → ownS h l ≤ raw C l i) ∧ raw C l i ≤ allS l := by
  induction l with
  | nil => simp [ownS, raw, allS]
  | cons a l ih =>
    obtain ⟨h1, h2⟩ := ih (fun x hx => hU x (List.mem_cons_of_mem _ hx))
    have ha := (hU a (List.mem_cons_self ..)).2.1
    have e1 : ownS h (a :: l) = (if a.1 = h then a.2 else 0) + ownS h l := by simp [ownS]
    have e2 : raw C (a :: l) i = (if tells C a.1 i then a.2 else 0) + raw C l i := by simp [raw]
    have e3 : allS (a :: l) = a.2 + allS l := by simp [allS]
    rw [e1, e2, e3]
    refine ⟨fun ht => ?_, by split <;> omega⟩
    have := h1 ht
    by_cases c : a.1 = h
    · rw [if_pos c, c, if_pos ht]; omega
    · rw [if_neg c]; split <;> omega
/-- A count lies between how often the number came and how often all came. -/
theorem count_of {R C : Nat} (hs : shapeB R C = true) {l : List (Int × Int)} (hU : UI l) (h : Int) : ownF h l ≤ countC (ofC R C l).1 h ∧ countC (ofC R C l).1 h ≤ allF l := by
  obtain ⟨q1, q2, q3⟩ := shape_of hs
  have hC : 0 < C := by omega
  obtain ⟨L, e, hL, hn⟩ := ofC_ok hs l hU
  obtain ⟨e1, p1⟩ := ownF_eq (h := h) hU
  obtain ⟨e2, p2⟩ := allF_eq hU
  rw [e, countC_ok hs hL, e1, e2]
  constructor
  · refine le_least (by omega) (fun p hp => ?_)
    have hlt := places_lt hC h p hp
    rw [hn p hlt]
    have := (raw_bounds (C := C) (h := h) hU p).1 ((mem_places hC hlt).1 hp)
    omega
  · have hp : place C h 0 ∈ places R C h := List.mem_map.2 ⟨0, List.mem_range.2 (by omega), rfl⟩
    have h1 := least_le (L := L) hp
    rw [hn _ (places_lt hC h _ hp)] at h1
    have := (raw_bounds (C := C) (h := h) hU (place C h 0)).2
    omega
/-- The law CmsCounts. -/
theorem counts_law {r c : Int} {l : List (Int × Int)} (hU : UI l) (h0 : (ofC r c l).2 = 0) (h : Int) :
    ownF h l ≤ countC (ofC r c l).1 h ∧ countC (ofC r c l).1 h ≤ allF l ∧ ((lowerC (ofC r c l).1).2 = 0 → countC (ofC r c l).1 h ≤ countC (lowerC (ofC r c l).1).1 h ∧ countC (lowerC (ofC r c l).1).1 h ≤ allF l) := by
  have hs := ofC_shape h0
  obtain ⟨q1, q2, q3⟩ := shape_of hs
  obtain ⟨R, rfl⟩ : ∃ R : Nat, r = R := ⟨r.toNat, by omega⟩
  by_cases h4 : c = 4
  · subst h4
    obtain ⟨b1, b2⟩ := count_of (R := R) (C := 4) hs hU h
    refine ⟨b1, b2, fun hz => ?_⟩
    obtain ⟨L, e, _⟩ := ofC_ok (R := R) (C := 4) hs l hU
    have e' : ofC (R : Int) 4 l = (⟨R, 4, L⟩, 0) := e
    rw [e', lowerC, if_neg (by simp)] at hz
    cases hz
  · obtain ⟨H, rfl⟩ : ∃ H : Nat, c = 2 * (H : Int) := ⟨(c / 2).toNat, by omega⟩
    have hH : H = 4 ∨ H = 8 ∨ H = 16 := by omega
    have hc : (2 * (H : Int)) = ((2 * H : Nat) : Int) := by omega
    obtain ⟨s1, s2⟩ := shape_half (R := R) (by omega) (by omega) hH
    have s1' : shapeB R ((2 * H : Nat) : Int) = true := by rw [← hc]; exact s1
    obtain ⟨a1, a2, a3⟩ := lower_of (R := R) (by omega) (by omega) hH hU
    obtain ⟨b1, b2⟩ := count_of s1' hU h
    obtain ⟨b3, b4⟩ := count_of s2 hU h
    rw [← hc] at b1 b2
    rw [a2]
    refine ⟨b1, b2, fun _ => ⟨?_, b4⟩⟩
    obtain ⟨L, e, hL, hn⟩ := ofC_ok s1' l hU
    obtain ⟨N, e2, hN, hn2⟩ := ofC_ok s2 l hU
    rw [hc, e, e2, countC_ok s1' hL, countC_ok s2 hN]
    refine le_least ?_ (fun q hq => ?_)
    · have hp : place (2 * H) h 0 ∈ places R (2 * H) h := List.mem_map.2 ⟨0, List.mem_range.2 (by omega), rfl⟩
      have h1 := least_le (L := L) hp
      rw [hn _ (places_lt (by omega) h _ hp)] at h1
      omega
    · have hH0 : 0 < H := by omega
      have hlt := places_lt hH0 h q hq
      have ht := (mem_places hH0 hlt).1 hq
      have hf := fromF_lt hH0 hlt
      have hth := tells_half hH0 h q
      rw [if_pos ht] at hth
      have hr := raw_half hH0 hU q
      have r1 := raw_nonneg (C := 2 * H) hU (fromF H q)
      have r2 := raw_nonneg (C := 2 * H) hU (fromF H q + H)
      rw [hn2 q hlt]
      by_cases t1 : tells (2 * H) h (fromF H q) = true
      · have h1 := least_le (L := L) ((mem_places (R := R) (C := 2 * H) (by omega) (by omega)).2 t1)
        rw [hn _ (by omega)] at h1
        omega
      · by_cases t2 : tells (2 * H) h (fromF H q + H) = true
        · have h1 := least_le (L := L) ((mem_places (R := R) (C := 2 * H) (by omega) hf).2 t2)
          rw [hn _ hf] at h1
          omega
        · rw [if_neg t1, if_neg t2] at hth
          omega
end Go.Proofs.Ythjdonhabenmcaa

/-
  Plain lemmas on lists of numbers, for the exact sketches. Nothing of the program is named here.
-/
import Derived.Test.YtdobgfadnenhaaaMem
namespace Go.Proofs.Ytdobgfadnenhaaa
open Go.RowKit

/-- Each number but the first is greater than the one ahead of it, up to a place. -/
def risesTo (l : List Int) (k : Nat) : Bool := (List.range k).all fun i => decide (i = 0) || decide (nth l (i - 1) < nth l i)
def rightB (l : List Int) : Bool := decide (l.length ≤ 64) && risesTo l l.length
theorem risesTo_succ (l : List Int) (k : Nat) : risesTo l (k + 1) = (risesTo l k && (decide (k = 0) || decide (nth l (k - 1) < nth l k))) := by
  simp [risesTo, List.range_succ]
theorem risesTo_le {l : List Int} {k m : Nat} (h : risesTo l m = true) (hk : k ≤ m) : risesTo l k = true := by
  simp only [risesTo, List.all_eq_true, List.mem_range] at *
  exact fun i hi => h i (by omega)
theorem rightB_of_not {l : List Int} {k : Nat} (hk : k < l.length) (h : risesTo l (k + 1) = false) : rightB l = false := by
  cases hr : rightB l with
  | false => rfl
  | true =>
    simp only [rightB, Bool.and_eq_true] at hr
    rw [risesTo_le hr.2 (by omega)] at h
    cases h
/-- Rising numbers. -/
def Rises (l : List Int) : Prop := ∀ i j, i < j → j < l.length → nth l i < nth l j
theorem rises_of {l : List Int} (h : risesTo l l.length = true) : Rises l := by
  simp only [risesTo, List.all_eq_true, List.mem_range, Bool.or_eq_true, decide_eq_true_eq] at h
  intro i j hij hj
  induction j with
  | zero => omega
  | succ j ih =>
    have h1 : nth l j < nth l (j + 1) := by
      rcases h (j + 1) hj with h | h
      · omega
      · simpa using h
    by_cases hji : i = j
    · subst hji; exact h1
    · have := ih (by omega) (by omega); omega
theorem risesTo_of {l : List Int} (h : Rises l) : risesTo l l.length = true := by
  simp only [risesTo, List.all_eq_true, List.mem_range, Bool.or_eq_true, decide_eq_true_eq]
  intro i hi
  by_cases h0 : i = 0
  · exact .inl h0
  · exact .inr (h (i - 1) i (by omega) hi)
theorem rightB_iff {l : List Int} : rightB l = true ↔ l.length ≤ 64 ∧ Rises l := by
  simp only [rightB, Bool.and_eq_true, decide_eq_true_eq]
  exact ⟨fun h => ⟨h.1, rises_of h.2⟩, fun h => ⟨h.1, risesTo_of h.2⟩⟩
/-- How many numbers are less than n. -/
def lb (l : List Int) (n : Int) : Nat := l.countP fun x => decide (x < n)
theorem lb_le (l : List Int) (n : Int) : lb l n ≤ l.length := List.countP_le_length
theorem nth_cons_succ (x : Int) (l : List Int) (k : Nat) : nth (x :: l) (k + 1) = nth l k := by simp [nth]
theorem nth_cons_zero (x : Int) (l : List Int) : nth (x :: l) 0 = x := by simp [nth]
theorem Rises.tail {x : Int} {l : List Int} (h : Rises (x :: l)) : Rises l := fun i j hij hj => by
  have := h (i + 1) (j + 1) (by omega) (by simp; omega)
  simpa [nth_cons_succ] using this
theorem nth_mem {l : List Int} {k : Nat} (h : k < l.length) : nth l k ∈ l := by simp [nth, h]
theorem mem_nth {l : List Int} {x : Int} (h : x ∈ l) : ∃ k, k < l.length ∧ nth l k = x := by
  obtain ⟨k, hk, e⟩ := List.getElem_of_mem h
  exact ⟨k, hk, by simp [nth, hk, e]⟩
theorem Rises.head_lt {x : Int} {l : List Int} (h : Rises (x :: l)) {y : Int} (hy : y ∈ l) : x < y := by
  obtain ⟨k, hk, rfl⟩ := mem_nth hy
  have := h 0 (k + 1) (by omega) (by simp; omega)
  simpa [nth_cons_succ, nth_cons_zero] using this
theorem nth_lt_iff {l : List Int} (h : Rises l) (n : Int) : ∀ k, k < l.length → (nth l k < n ↔ k < lb l n) := by
  induction l with
  | nil => intro k hk; simp at hk
  | cons x l ih =>
    intro k hk
    by_cases hx : x < n
    · have e : lb (x :: l) n = lb l n + 1 := by simp [lb, hx]
      rw [e]
      cases k with
      | zero => rw [nth_cons_zero]; exact ⟨fun _ => by omega, fun _ => hx⟩
      | succ k => rw [nth_cons_succ, ih h.tail k (by simpa using hk)]; omega
    · have hz : lb l n = 0 := by
        rw [lb, List.countP_eq_zero]
        intro y hy
        have := h.head_lt hy
        simp; omega
      have e : lb (x :: l) n = 0 := by
        have e1 : lb (x :: l) n = lb l n := by simp [lb, hx]
        rw [e1, hz]
      rw [e]
      cases k with
      | zero => rw [nth_cons_zero]; omega
      | succ k =>
        rw [nth_cons_succ]
        have := h.head_lt (nth_mem (l := l) (k := k) (by simpa using hk))
        omega
def atB (l : List Int) (k : Nat) (n : Int) : Bool := decide (k < l.length ∧ nth l k = n)
/-- Rising numbers with n in its place. -/
def ins (l : List Int) (n : Int) : List Int := if atB l (lb l n) n = true then l else l.take (lb l n) ++ n :: l.drop (lb l n)

theorem atB_mem {l : List Int} {k : Nat} {n : Int} (h : atB l k n = true) : n ∈ l := by
  simp only [atB, decide_eq_true_eq] at h
  rw [← h.2]; exact nth_mem h.1
theorem mem_atB {l : List Int} {n : Int} (hR : Rises l) (h : n ∈ l) : atB l (lb l n) n = true := by
  obtain ⟨k, hk, rfl⟩ := mem_nth h
  have h1 := nth_lt_iff hR (nth l k) k hk
  have hle : lb l (nth l k) ≤ k := by omega
  have hlt : lb l (nth l k) < l.length := by omega
  have h2 := nth_lt_iff hR (nth l k) (lb l (nth l k)) hlt
  simp only [atB, decide_eq_true_eq]
  refine ⟨hlt, ?_⟩
  rcases Nat.lt_or_ge (lb l (nth l k)) k with h3 | h3
  · have := hR _ k h3 hk; omega
  · have : lb l (nth l k) = k := by omega
    rw [this]
theorem atB_iff {l : List Int} {n : Int} (hR : Rises l) : atB l (lb l n) n = decide (n ∈ l) := by
  by_cases h : n ∈ l
  · simp [h, mem_atB hR h]
  · cases e : atB l (lb l n) n with
    | false => simp [h]
    | true => exact absurd (atB_mem e) h
theorem mem_ins {l : List Int} {n x : Int} : x ∈ ins l n ↔ x = n ∨ x ∈ l := by
  unfold ins
  split
  · rename_i h
    have := atB_mem h
    constructor
    · exact .inr
    · rintro (rfl | h)
      · exact this
      · exact h
  · have e : x ∈ l ↔ x ∈ l.take (lb l n) ∨ x ∈ l.drop (lb l n) := by rw [← List.mem_append, List.take_append_drop]
    rw [e]
    simp only [List.mem_append, List.mem_cons]
    constructor
    · rintro (h | h | h) <;> simp [h]
    · rintro (h | h | h) <;> simp [h]
theorem length_ins {l : List Int} {n : Int} (hR : Rises l) : (ins l n).length = if n ∈ l then l.length else l.length + 1 := by
  have hlb := lb_le l n
  unfold ins
  rw [atB_iff hR]
  by_cases h : n ∈ l
  · simp [h]
  · simp [h]; omega
theorem nth_append_left {l m : List Int} {k : Nat} (h : k < l.length) : nth (l ++ m) k = nth l k := by simp [nth, List.getElem?_append, h]
theorem nth_append_right {l m : List Int} {k : Nat} (h : l.length ≤ k) : nth (l ++ m) k = nth m (k - l.length) := by
  simp only [nth]; rw [List.getElem?_append_right h]
theorem rises_pairwise {l : List Int} : Rises l ↔ l.Pairwise (· < ·) := by
  rw [List.pairwise_iff_getElem]
  constructor
  · intro h i j hi hj hij
    have := h i j hij hj
    simpa [nth, hi, hj] using this
  · intro h i j hij hj
    have := h i j (by omega) hj hij
    have hi : i < l.length := by omega
    simpa [nth, hi, hj] using this
theorem lt_of_take {l : List Int} {n x : Int} (hR : Rises l) (h : x ∈ l.take (lb l n)) : x < n := by
  obtain ⟨k, hk, rfl⟩ := mem_nth h
  have hk' : k < l.length ∧ k < lb l n := by simp at hk; omega
  have e : nth (l.take (lb l n)) k = nth l k := by simp [nth, hk'.2]
  rw [e]
  exact (nth_lt_iff hR n k hk'.1).2 hk'.2
theorem le_of_drop {l : List Int} {n x : Int} (hR : Rises l) (h : x ∈ l.drop (lb l n)) : n ≤ x := by
  obtain ⟨k, hk, rfl⟩ := mem_nth h
  have hk' : lb l n + k < l.length := by simp at hk; omega
  have e : nth (l.drop (lb l n)) k = nth l (lb l n + k) := by simp [nth]
  rw [e]
  have := nth_lt_iff hR n (lb l n + k) hk'
  omega
theorem rises_ins {l : List Int} {n : Int} (hR : Rises l) : Rises (ins l n) := by
  unfold ins
  split
  · exact hR
  · rename_i h
    have hnm : n ∉ l := fun hm => h (mem_atB hR hm)
    have hp := rises_pairwise.1 hR
    rw [rises_pairwise, List.pairwise_append]
    refine ⟨hp.sublist (List.take_sublist _ _), ?_, ?_⟩
    · rw [List.pairwise_cons]
      refine ⟨fun x hx => ?_, hp.sublist (List.drop_sublist _ _)⟩
      have h1 := le_of_drop hR hx
      have h2 : x ≠ n := fun e => hnm (e ▸ List.mem_of_mem_drop hx)
      omega
    · intro x hx y hy
      have h1 := lt_of_take hR hx
      rcases List.mem_cons.1 hy with rfl | hy
      · exact h1
      · have := le_of_drop hR hy; omega
/-- Rising lists of the same numbers are one. -/
theorem rises_ext : ∀ {l m : List Int}, Rises l → Rises m → (∀ x, x ∈ l ↔ x ∈ m) → l = m
  | [], [], _, _, _ => rfl
  | [], y :: m, _, _, h => by have := (h y).2 (by simp); simp at this
  | x :: l, [], _, _, h => by have := (h x).1 (by simp); simp at this
  | x :: l, y :: m, hl, hm, h => by
    have hxy : x = y := by
      have h1 := (h x).1 (by simp)
      have h2 := (h y).2 (by simp)
      rcases List.mem_cons.1 h1 with e | h1
      · exact e
      · rcases List.mem_cons.1 h2 with e | h2
        · exact e.symm
        · have := hl.head_lt h2; have := hm.head_lt h1; omega
    subst hxy
    congr 1
    refine rises_ext hl.tail hm.tail fun z => ?_
    have hz := h z
    simp only [List.mem_cons] at hz
    constructor
    · intro hzl
      rcases hz.1 (.inr hzl) with e | h'
      · subst e; have := hl.head_lt hzl; omega
      · exact h'
    · intro hzm
      rcases hz.2 (.inr hzm) with e | h'
      · subst e; have := hm.head_lt hzm; omega
      · exact h'
def insAll (l m : List Int) : List Int := m.foldl ins l
theorem insAll_nil (l : List Int) : insAll l [] = l := rfl
theorem insAll_snoc (l m : List Int) (x : Int) : insAll l (m ++ [x]) = ins (insAll l m) x := by simp [insAll]
theorem insAll_append (l m k : List Int) : insAll l (m ++ k) = insAll (insAll l m) k := by simp [insAll]
theorem rises_insAll {l : List Int} (hR : Rises l) (m : List Int) : Rises (insAll l m) := by
  induction m generalizing l with
  | nil => exact hR
  | cons x m ih => exact ih (rises_ins hR)
theorem mem_insAll {l m : List Int} {x : Int} : x ∈ insAll l m ↔ x ∈ m ∨ x ∈ l := by
  induction m generalizing l with
  | nil => simp [insAll]
  | cons y m ih =>
    show x ∈ insAll (ins l y) m ↔ _
    rw [ih, mem_ins, List.mem_cons]
    constructor
    · rintro (h | h | h) <;> simp [h]
    · rintro ((h | h) | h) <;> simp [h]
theorem le_length_ins {l : List Int} {n : Int} (hR : Rises l) : l.length ≤ (ins l n).length ∧ (ins l n).length ≤ l.length + 1 := by
  rw [length_ins hR]; split <;> omega
theorem le_length_insAll {l : List Int} (hR : Rises l) (m : List Int) : l.length ≤ (insAll l m).length := by
  induction m generalizing l with
  | nil => exact Nat.le_refl _
  | cons x m ih => exact Nat.le_trans (le_length_ins hR).1 (ih (rises_ins hR))
theorem length_insAll_prefix {l p m : List Int} (hR : Rises l) (h : p <+: m) : (insAll l p).length ≤ (insAll l m).length := by
  obtain ⟨k, rfl⟩ := h
  rw [insAll_append]
  exact le_length_insAll (rises_insAll hR p) k
theorem rises_nil : Rises [] := fun i j _ hj => by simp at hj
end Go.Proofs.Ytdobgfadnenhaaa

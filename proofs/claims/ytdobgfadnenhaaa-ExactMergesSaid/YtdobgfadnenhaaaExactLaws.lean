/-
  Plain laws on the exact sketches as lists.
-/
import Derived.Test.YtdobgfadnenhaaaExactTotal
namespace Go.Proofs.Ytdobgfadnenhaaa
open Go.RowKit
theorem length_insAll_le {l : List Int} (hR : Rises l) (m : List Int) : (insAll l m).length ≤ l.length + m.length := by
  induction m generalizing l with
  | nil => simp [insAll]
  | cons x m ih =>
    have h1 := (le_length_ins (n := x) hR).2
    have h2 := ih (rises_ins (n := x) hR)
    show (insAll (ins l x) m).length ≤ _
    simp only [List.length_cons]; omega
theorem ofF_short {l : List Int} (h : l.length ≤ 64) : ofF l = (insAll [] l, 0) := by
  have := length_insAll_le rises_nil l
  simp only [List.length_nil] at this
  rw [ofF, cut64, if_pos (by omega)]
theorem cut64_ok {r : List Int} (h : (cut64 r).2 = 0) : cut64 r = (r, 0) ∧ r.length ≤ 64 := by
  unfold cut64 at h ⊢
  split at h
  · rename_i h'; exact ⟨if_pos h', h'⟩
  · simp at h
theorem mergeF_eq {l m : List Int} (hl : rightB l = true) (hm : rightB m = true) : mergeF l m = cut64 (insAll l m) := by rw [mergeF, if_pos ⟨hl, hm⟩]
theorem insAll_self {l : List Int} (h : Rises l) : insAll l l = l := rises_ext (rises_insAll h l) h fun x => by rw [mem_insAll]; simp
theorem mergeF_self {l : List Int} (h : rightB l = true) : mergeF l l = (l, 0) := by
  rw [mergeF_eq h h, insAll_self (rightB_iff.1 h).2, cut64, if_pos (rightB_iff.1 h).1]
/-- Three sketches, merged either way about. -/
theorem mergeF_assoc {x y z : List Int} (hx : rightB x = true) (hy : rightB y = true) (hz : rightB z = true)
    (h1 : (mergeF x y).2 = 0) (h2 : (mergeF (mergeF x y).1 z).2 = 0) (h3 : (mergeF y z).2 = 0) :
    (mergeF x (mergeF y z).1).2 = 0 ∧ (mergeF (mergeF x y).1 z).1 = (mergeF x (mergeF y z).1).1 := by
  have rx := (rightB_iff.1 hx).2
  have ry := (rightB_iff.1 hy).2
  have ra := mergeF_right x y
  have rc := mergeF_right y z
  rw [mergeF_eq ra hz] at h2 ⊢
  rw [mergeF_eq hx rc]
  rw [mergeF_eq hx hy] at h1 h2 ra ⊢
  rw [mergeF_eq hy hz] at h3 rc ⊢
  obtain ⟨e1, l1⟩ := cut64_ok h1
  obtain ⟨e3, l3⟩ := cut64_ok h3
  rw [e1] at h2 ⊢
  rw [e3]
  obtain ⟨e2, l2⟩ := cut64_ok h2
  have e : insAll (insAll x y) z = insAll x (insAll y z) := rises_ext (rises_insAll (rises_insAll rx y) z) (rises_insAll rx _) fun t => by
    simp only [mem_insAll]
    constructor
    · rintro (h | h | h) <;> simp [h]
    · rintro ((h | h) | h) <;> simp [h]
  have l4 : (insAll x (insAll y z)).length ≤ 64 := by rw [← e]; exact l2
  constructor
  · show (cut64 (insAll x (insAll y z))).2 = 0
    rw [cut64, if_pos l4]
  · show (cut64 (insAll (insAll x y) z)).1 = (cut64 (insAll x (insAll y z))).1
    rw [e]

theorem ofF_ok {l : List Int} (h : (ofF l).2 = 0) : (ofF l).1 = insAll [] l := by rw [ofF] at h ⊢; rw [(cut64_ok h).1]
theorem ofF_has {l : List Int} (h : (ofF l).2 = 0) (n : Int) : hasB (ofF l).1 n = decide (n ∈ l) := by
  rw [hasB, ofF_right, ofF_ok h]
  simp [mem_insAll]
theorem mergeF_has {l m : List Int} (hl : rightB l = true) (hm : rightB m = true) (h : (mergeF l m).2 ≠ 60) (n : Int) : hasB (mergeF l m).1 n = (hasB l n || hasB m n) := by
  have hr := mergeF_right l m
  rw [mergeF_eq hl hm] at h hr ⊢
  have h0 : (cut64 (insAll l m)).2 = 0 := by
    unfold cut64 at h ⊢
    split
    · rfl
    · rename_i h'; rw [if_neg h'] at h; exact absurd rfl h
  rw [(cut64_ok h0).1] at hr ⊢
  rw [hasB, hasB, hasB, hr, hl, hm]
  simp only [mem_insAll, Bool.true_and]
  by_cases h1 : n ∈ l <;> by_cases h2 : n ∈ m <;> simp [h1, h2]
theorem cnt_right {l : List Int} (h : rightB l = true) : cnt l = (l.length : Int) := by rw [cnt, if_pos h]
theorem mergeF_cnt {l m : List Int} (hl : rightB l = true) (hm : rightB m = true) (h : (mergeF l m).2 ≠ 60) :
    cnt (mergeF l m).1 ≤ cnt l + cnt m ∧ cnt l ≤ cnt (mergeF l m).1 ∧ cnt m ≤ cnt (mergeF l m).1 := by
  have hr := mergeF_right l m
  rw [cnt_right hr, cnt_right hl, cnt_right hm]
  rw [mergeF_eq hl hm] at h ⊢
  have h0 : (cut64 (insAll l m)).2 = 0 := by
    unfold cut64 at h ⊢
    split
    · rfl
    · rename_i h'; rw [if_neg h'] at h; exact absurd rfl h
  rw [(cut64_ok h0).1]
  have rl := (rightB_iff.1 hl).2
  have rm := (rightB_iff.1 hm).2
  have e : insAll l m = insAll m l := rises_ext (rises_insAll rl m) (rises_insAll rm l) fun x => by simp only [mem_insAll]; exact Or.comm
  have h1 := le_length_insAll rl m
  have h2 := length_insAll_le rl m
  have h3 := le_length_insAll rm l
  rw [← e] at h3
  show ((insAll l m).length : Int) ≤ _ ∧ _ ≤ ((insAll l m).length : Int) ∧ _ ≤ ((insAll l m).length : Int)
  omega
theorem cnt_bd {l : List Int} (h : rightB l = true) : 0 ≤ cnt l ∧ cnt l ≤ 64 := by
  rw [cnt_right h]; have := right_len h; omega
end Go.Proofs.Ytdobgfadnenhaaa

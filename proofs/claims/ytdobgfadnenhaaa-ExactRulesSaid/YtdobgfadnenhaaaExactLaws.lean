/-
  Plain laws on the exact sketches as lists.
-/
import Derived.Test.YtdobgfadnenhaaaExactTotal
namespace Go.Proofs.Ytdobgfadnenhaaa
open Go.RowKit
theorem length_insAll_le {l : List Int} (hR : Rises l) (m : List Int) : (insAll l m).length ≤ l.length + m.length := by
  induction m generalizing l with
  | nil => simp [insAll]
  | cons x m ih =>
    have h1 := (le_length_ins (n := x) hR).2
    have h2 := ih (rises_ins (n := x) hR)
    show (insAll (ins l x) m).length ≤ _
    simp only [List.length_cons]; omega
theorem ofF_short {l : List Int} (h : l.length ≤ 64) : ofF l = (insAll [] l, 0) := by
  have := length_insAll_le rises_nil l
  simp only [List.length_nil] at this
  rw [ofF, cut64, if_pos (by omega)]
theorem cut64_ok {r : List Int} (h : (cut64 r).2 = 0) : cut64 r = (r, 0) ∧ r.length ≤ 64 := by
  unfold cut64 at h ⊢
  split at h
  · rename_i h'; exact ⟨if_pos h', h'⟩
  · simp at h
theorem mergeF_eq {l m : List Int} (hl : rightB l = true) (hm : rightB m = true) : mergeF l m = cut64 (insAll l m) := by rw [mergeF, if_pos ⟨hl, hm⟩]
theorem insAll_self {l : List Int} (h : Rises l) : insAll l l = l := rises_ext (rises_insAll h l) h fun x => by rw [mem_insAll]; simp
theorem mergeF_self {l : List Int} (h : rightB l = true) : mergeF l l = (l, 0) := by
  rw [mergeF_eq h h, insAll_self (rightB_iff.1 h).2, cut64, if_pos (rightB_iff.1 h).1]
/-- Three sketches, merged either way about. -/
theorem mergeF_assoc {x y z : List Int} (hx : rightB x = true) (hy : rightB y = true) (hz : rightB z = true)
    (h1 : (mergeF x y).2 = 0) (h2 : (mergeF (mergeF x y).1 z).2 = 0) (h3 : (mergeF y z).2 = 0) :
    (mergeF x (mergeF y z).1).2 = 0 ∧ (mergeF (mergeF x y).1 z).1 = (mergeF x (mergeF y z).1).1 := by
  have rx := (rightB_iff.1 hx).2
  have ry := (rightB_iff.1 hy).2
  have ra := mergeF_right x y
  have rc := mergeF_right y z
  rw [mergeF_eq ra hz] at h2 ⊢
  rw [mergeF_eq hx rc]
  rw [mergeF_eq hx hy] at h1 h2 ra ⊢
  rw [mergeF_eq hy hz] at h3 rc ⊢
  obtain ⟨e1, l1⟩ := cut64_ok h1
  obtain ⟨e3, l3⟩ := cut64_ok h3
  rw [e1] at h2 ⊢
  rw [e3]
  obtain ⟨e2, l2⟩ := cut64_ok h2
  have e : insAll (insAll x y) z = insAll x (insAll y z) := rises_ext (rises_insAll (rises_insAll rx y) z) (rises_insAll rx _) fun t => by
    simp only [mem_insAll]
    constructor
    · rintro (h | h | h) <;> simp [h]
    · rintro ((h | h) | h) <;> simp [h]
  have l4 : (insAll x (insAll y z)).length ≤ 64 := by rw [← e]; exact l2
  constructor
  · show (cut64 (insAll x (insAll y z))).2 = 0
    rw [cut64, if_pos l4]
  · show (cut64 (insAll (insAll x y) z)).1 = (cut64 (insAll x (insAll y z))).1
    rw [e]
end Go.Proofs.Ytdobgfadnenhaaa

/-
  The exported functions of package exact as total functions on lists.
-/
import Derived.Test.YtdobgfadnenhaaaExactApi
import Derived.Test.YtdobgfadnenhaaaExactApi2
namespace Go.Proofs.Ytdobgfadnenhaaa
open Go.RowKit
set_option linter.unusedVariables false

/-- At most sixty-four numbers; else nothing, and the error. -/
def cut64 (r : List Int) : List Int × Int := if r.length ≤ 64 then (r, 0) else ([], 60)
def ofF (l : List Int) : List Int × Int := cut64 (insAll [] l)
def addF (l : List Int) (n : Int) : List Int × Int := if rightB l = true then cut64 (insAll l [n]) else ([], 60)
def mergeF (l m : List Int) : List Int × Int := if rightB l = true ∧ rightB m = true then cut64 (insAll l m) else ([], 60)
def ExRes (w : World) (r : List Int × Int) (e : Ending) (w' : World) : Prop :=
  Below w.heap.size w w' ∧ ∃ v, e = .returned (.tuple #[.agg #[v], .int .i64 r.2]) ∧ Held w' w.heap.size v r.1
theorem exRes_of {w w' : World} {r : List Int} {e : Ending} (h : ExPost w r e w') : ExRes w (cut64 r) e w' := by
  obtain ⟨hb, (⟨hl, v, rfl, hh⟩ | ⟨hl, rfl⟩)⟩ := h
  · rw [cut64, if_pos hl]; exact ⟨hb, v, rfl, hh⟩
  · rw [cut64, if_neg (by omega)]; exact ⟨hb, _, rfl, held_nil _ _⟩
theorem exRes_bad {w w' : World} {e : Ending} (h : ExBad w e w') : ExRes w ([], 60) e w' := ⟨h.1, _, h.2, held_nil _ _⟩
theorem cut64_right {r : List Int} (h : Rises r) : rightB (cut64 r).1 = true := by
  unfold cut64; split
  · exact rightB_iff.2 ⟨by assumption, h⟩
  · rfl
theorem right_nil : rightB [] = true := rfl
theorem ofF_right (l : List Int) : rightB (ofF l).1 = true := cut64_right (rises_insAll rises_nil l)
theorem addF_right (l : List Int) (n : Int) : rightB (addF l n).1 = true := by
  unfold addF; split
  · rename_i h; exact cut64_right (rises_insAll (rightB_iff.1 h).2 _)
  · rfl
theorem mergeF_right (l m : List Int) : rightB (mergeF l m).1 = true := by
  unfold mergeF; split
  · rename_i h; exact cut64_right (rises_insAll (rightB_iff.1 h.1).2 _)
  · rfl
theorem right_len {l : List Int} (h : rightB l = true) : l.length ≤ 64 := (rightB_iff.1 h).1

theorem of_tot (w : World) (c : Nat) (A : Option Addr) (l : List Int) (hS : Sl w w.heap.size A l) (hl : l.length ≤ 1152921504606846976) :
    Calls Try.prog 17 #[.slice A l.length c] w (ExRes w (ofF l)) := (of_any w c A l hS hl).mono fun _ _ h => exRes_of h
theorem add_tot (w : World) (c : Nat) (A : Option Addr) (l : List Int) (n : Int) (hS : Sl w w.heap.size A l) (hl : l.length ≤ 1152921504606846976) :
    Calls Try.prog 12 #[.agg #[.slice A l.length c], .int .u64 n] w (ExRes w (addF l n)) := by
  cases hr : rightB l with
  | true => rw [addF, if_pos hr]; exact (add_any w c A l n hS hr).mono fun _ _ h => exRes_of h
  | false => rw [addF, if_neg (by rw [hr]; simp)]; exact (add_bad w c A l n hS hl hr).mono fun _ _ h => exRes_bad h
theorem merge_tot (w : World) (c c2 : Nat) (A A2 : Option Addr) (l m : List Int) (hS : Sl w w.heap.size A l) (hS2 : Sl w w.heap.size A2 m) (hl : l.length ≤ 1152921504606846976) (hm : m.length ≤ 1152921504606846976) :
    Calls Try.prog 14 #[.agg #[.slice A l.length c], .agg #[.slice A2 m.length c2]] w (ExRes w (mergeF l m)) := by
  cases hr : rightB l with
  | true =>
    cases hr2 : rightB m with
    | true => rw [mergeF, if_pos ⟨hr, hr2⟩]; exact (merge_any w c c2 A A2 l m hS hS2 hr hr2).mono fun _ _ h => exRes_of h
    | false => rw [mergeF, if_neg (by rw [hr2]; simp)]; exact (merge_bad2 w c c2 A A2 l m hS hS2 hl hm hr hr2).mono fun _ _ h => exRes_bad h
  | false => rw [mergeF, if_neg (by rw [hr]; simp)]; exact (merge_bad1 w c c2 A A2 l m hS hl hr).mono fun _ _ h => exRes_bad h
/-- A row that was laid with these numbers reads as them. -/
theorem sl_block {w : World} {b : Nat} {l : List Int} {t : TypeId} {cs : Array Value} (h : w.heap[b]? = some (.cells cs t (0, 0))) (hcs : cs = (l.map (Value.int .u64)).toArray) : Sl w w.heap.size (some ⟨b, 0, none⟩) l := fun _ => by
  subst hcs
  exact ⟨b, 0, rfl, (Array.getElem?_eq_some_iff.1 h).1, fun j u hj => by rw [Nat.zero_add]; simpa [World.cell?, h] using hj⟩
theorem sl_new (w : World) (l : List Int) (t : TypeId) (cs : Array Value) (hcs : cs = (l.map (Value.int .u64)).toArray) (b : Nat) (hb : b = w.heap.size) : Sl (w.alloc (.cells cs t)) (w.alloc (.cells cs t)).heap.size (some ⟨b, 0, none⟩) l := by
  subst hb; exact sl_block (World.alloc_heap_new w _) hcs
theorem boxed_below {W W' : World} {B : Nat} {t : TypeId} {v : Value} (h : Boxed W B t v) (hb : Below W.heap.size W W') : Boxed W' B t v := (hb.block B h.lt).trans h
end Go.Proofs.Ytdobgfadnenhaaa

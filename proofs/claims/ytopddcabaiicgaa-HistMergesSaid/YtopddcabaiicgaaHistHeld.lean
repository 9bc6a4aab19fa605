/-
  Words for what hist's functions hand back: a slice of bins.
-/
import Derived.Test.YtopddcabaiicgaaHistBegin
namespace Go.Proofs.Ytopddcabaiicgaa
open Go.RowKit
set_option linter.unusedVariables false
/-- The value v is a slice that reads as bins; what it shares lies from block base on. -/
def HeldB (w : World) (base : Nat) (v : Value) (l : Bins) : Prop :=
  ∃ A c, v = .slice A l.length c ∧ l.length ≤ c ∧ (A = none → c = 0) ∧ Sb w w.heap.size A l ∧ Fresh w base A
theorem HeldB.later {w w' : World} {base : Nat} {v : Value} {l : Bins} (h : HeldB w base v l) (hb : Below w.heap.size w w') : HeldB w' base v l := by
  obtain ⟨A, c, e, hc, hA, hS, hF⟩ := h
  exact ⟨A, c, e, hc, hA, hS.later hb, hF.later hb⟩
theorem HeldB.from {w : World} {base base' : Nat} {v : Value} {l : Bins} (h : HeldB w base v l) (hb : base' ≤ base) : HeldB w base' v l := by
  obtain ⟨A, c, e, hc, hA, hS, hF⟩ := h
  exact ⟨A, c, e, hc, hA, hS, hF.from hb⟩
theorem heldB_nil (w : World) (base : Nat) : HeldB w base (.slice none 0 0) [] := ⟨none, 0, rfl, Nat.le_refl _, fun _ => rfl, Rd.none_, fun _ e => by cases e⟩
theorem heldB_own {w : World} {base n : Nat} {e : TypeId} {v : Value} {l : Bins} (hn : n = l.length) (h : w.ownsRow base e 2 v n (flatB l)) : HeldB w base v l := by
  subst hn
  have h' := h
  rcases h.2 with ⟨rfl, h0⟩ | ⟨g, cap, cur, rfl, hb, hh, hnc, _⟩
  · have : l = [] := List.eq_nil_of_length_eq_zero h0
    subst this
    exact heldB_nil w base
  · exact ⟨_, cap, rfl, hnc, (fun e => by cases e), Rd.own h', fun _ ea => by cases ea; exact ⟨hb, cur, _, hh⟩⟩
/-- A slice of bins does not lie in a block of one shape that holds other things. -/
theorem sb_not_blk {w : World} {B b off g : Nat} {t : TypeId} {cs : Array Value} {l : Bins} (h : Sb w B (some ⟨b, off, none⟩) l) (hx : Blk w g t cs) (hu : ∀ v ∈ cs, ∀ n, v ≠ Value.int .u64 n) (hl : l ≠ []) : b ≠ g := by
  rintro rfl
  have h0 : 0 < l.length := by cases l with | nil => exact absurd rfl hl | cons x r => simp
  obtain ⟨b', off', e, hb, hc⟩ := h.at_ h0
  cases e
  have h2 := (hc 0 h0).2
  rw [hx.cell] at h2
  exact hu _ (Array.mem_of_getElem? h2) _ rfl
theorem sb_turned {w w' : World} {g : Nat} {t : TypeId} {cs : Array Value} {A : Option Addr} {l : Bins} (h : Sb w w.heap.size A l) (hx : Blk w g t cs) (hu : ∀ v ∈ cs, ∀ n, v ≠ Value.int .u64 n) (hg : w.grownBy w' (some g)) : Sb w' w'.heap.size A l := fun hl => by
  have hl' : l ≠ [] := by rintro rfl; exact hl rfl
  obtain ⟨b, off, e, hb, hc⟩ := h hl
  subst e
  have hne := sb_not_blk h hx hu hl'
  exact ⟨b, off, rfl, Nat.lt_of_lt_of_le hb hg.size, fun j v hj => (World.cell?_of_block (hg.block b hb (fun e => hne (by injection e)))).trans (hc j v hj)⟩
/-- A slice's reading stands where a map has turned. -/
theorem sb_mp {w w' : World} {B k : Nat} {m : Bins} {A : Option Addr} {l : Bins} (h : Sb w w.heap.size A l) (hM : Mp w B k m) (hg : w.grownBy w' (some B)) : Sb w' w'.heap.size A l := fun hl => by
  obtain ⟨b, off, e, hb, hc⟩ := h hl
  refine ⟨b, off, e, Nat.lt_of_lt_of_le hb hg.size, fun j v hj => (World.cell?_of_block (hg.block b hb (fun e => ?_))).trans (hc j v hj)⟩
  injection e with e
  subst e
  obtain ⟨es, clock, hb', _⟩ := hM
  have := hc j v hj
  simp [World.cell?, hb'] at this
/-- A held slice stands where one block has turned that holds no number of 64 bits. -/
theorem heldB_turned {w w' : World} {base b : Nat} {t : TypeId} {cs cs' : Array Value} {v : Value} {l : Bins} (h : HeldB w base v l) (hx : Blk w b t cs) (hu : ∀ v ∈ cs, ∀ n, v ≠ Value.int .u64 n) (hg : w.grownBy w' (some b)) (hx' : Blk w' b t cs') : HeldB w' base v l := by
  obtain ⟨A, c, e, hc, hA, hS, hF⟩ := h
  refine ⟨A, c, e, hc, hA, sb_turned hS hx hu hg, fun ad ea => ?_⟩
  obtain ⟨h1, ds, t2, h2⟩ := hF ad ea
  refine ⟨h1, ?_⟩
  by_cases hb : ad.block = b
  · rw [hb]; exact ⟨_, _, hx'⟩
  · exact ⟨ds, t2, (hg.block _ (heap_lt h2) (fun e => hb (by injection e))).trans h2⟩
/-- What an api function hands back: a histogram and an error's number. -/
def HsRes (w : World) (x : Int × Bins × Int) (e : Ending) (w' : World) : Prop :=
  Below w.heap.size w w' ∧ ∃ v, e = .returned (.tuple #[.agg #[.int .i64 x.1, v], .int .i64 x.2.2]) ∧ HeldB w' w.heap.size v x.2.1
end Go.Proofs.Ytopddcabaiicgaa

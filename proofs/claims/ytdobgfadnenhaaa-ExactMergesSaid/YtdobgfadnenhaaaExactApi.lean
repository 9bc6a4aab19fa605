/-
  Walks of the exported functions of package exact.
-/
import Derived.Deep.RegionWith
import Derived.Test.YtdobgfadnenhaaaExactGather
namespace Go.Proofs.Ytdobgfadnenhaaa
open Go.RowKit Go.Shelf
set_option linter.unusedVariables false

/-- What Of, Add and Merge hand back: the sketch of the numbers r, or that they are too many. -/
def ExPost (w : World) (r : List Int) (e : Ending) (w' : World) : Prop :=
  Below w.heap.size w w' ∧ ((r.length ≤ 64 ∧ ∃ v, e = .returned (.tuple #[.agg #[v], .int .i64 0]) ∧ Held w' w.heap.size v r) ∨ (64 < r.length ∧ e = .returned (.tuple #[.agg #[.slice none 0 0], .int .i64 60])))

set_option maxHeartbeats 400000 in
theorem of_any (w : World) (c : Nat) (A : Option Addr) (l : List Int) (hS : Sl w w.heap.size A l) (hl : l.length ≤ 1152921504606846976) :
    Calls Try.prog 17 #[.slice A l.length c] w (ExPost w (insAll [] l)) := by
  have HB := Lib.hid (Boxed.new w 24 (.slice none 0 0))
  go_enter Try.func17, Try.ntmps17
  go_wp2_with fail
  refine (gather_calls _ 0 c none A [] l rises_nil (by simp) Sl.nil (by exact (hS.alloc (Nat.le_refl _) _).more (by simp)) hl).mono ?_
  rintro e w1 ⟨hb, (⟨hlen, v, rfl, hh⟩ | ⟨hlen, rfl⟩)⟩
  · obtain ⟨A', c', rfl, hc', hA', hS', hF'⟩ := hh
    have hx : Boxed w1 (w.heap.size) 24 (.slice none 0 0) := (hb.block _ (by simp)).trans HB.out
    have hcx := hx.cell
    have hfx := hx.frozen
    have hz : w.heap.size < w1.heap.size := hx.lt
    have hcs := (hx.set (.slice A' (insAll [] l).length c')).cell
    have HH : Hid (Held w1 w.heap.size (.slice A' (insAll [] l).length c') (insAll [] l)) := ⟨A', c', rfl, hc', hA', hS', hF'.from (by simp)⟩
    have hbo : Below w.heap.size w w1 := below_old hb
    clear hA' hS' hF'
    go_wp2_with fail
    go_region_with (go_at_call 28; refine (errno_ok _).mono ?_; rintro e w' ⟨rfl, rfl⟩)
    all_goals go_wp2_with fail
    all_goals exact bodyPost_ret (v := .tuple #[.agg #[.slice A' (insAll [] l).length c'], .int .i64 0]) (by simp [results, Try.results17, go_sem, hz, hcs]) rfl ⟨(below_al (below_al (hbo.setCell (by show w.heap.size ≤ w.heap.size; omega) _) _) _).drew, .inl ⟨hlen, _, rfl, (((HH.out.setBox hx (fun n e => by cases e) _).alloc _).alloc _).drew⟩⟩
  · have hx : Boxed w1 (w.heap.size) 24 (.slice none 0 0) := (hb.block _ (by simp)).trans HB.out
    have hcx := hx.cell
    have hfx := hx.frozen
    have hz : w.heap.size < w1.heap.size := hx.lt
    have hcs := (hx.set (.slice none 0 0)).cell
    have hbo : Below w.heap.size w w1 := below_old hb
    go_wp2_with fail
    go_region_with (go_at_call 28; refine (errno_err _).mono ?_; rintro e w' ⟨rfl, rfl⟩)
    all_goals go_wp2_with fail
    all_goals exact bodyPost_ret (v := .tuple #[.agg #[.slice none 0 0], .int .i64 60]) (by simp [results, Try.results17, go_sem, hz, hcs]) rfl ⟨(below_al (below_al (hbo.setCell (by show w.heap.size ≤ w.heap.size; omega) _) _) _).drew, .inr ⟨hlen, rfl⟩⟩

/-- What Add and Merge hand back at a wrong sketch. -/
def ExBad (w : World) (e : Ending) (w' : World) : Prop := Below w.heap.size w w' ∧ e = .returned (.tuple #[.agg #[.slice none 0 0], .int .i64 60])

theorem add_bad (w : World) (c : Nat) (A : Option Addr) (l : List Int) (n : Int) (hS : Sl w w.heap.size A l) (hl : l.length ≤ 1152921504606846976) (hr : rightB l = false) :
    Calls Try.prog 12 #[.agg #[.slice A l.length c], .int .u64 n] w (ExBad w) := by
  have HR := Lib.hid hr
  clear hr
  have HU := Lib.hid hS
  go_enter Try.func12, Try.ntmps12
  go_wp2_with fail
  refine (right_any _ w.heap.size A c l (by exact (HU.out.alloc (Nat.le_refl _) _).alloc (by simp) _) (by simp; omega) (by omega)).mono ?_
  rintro e w1 ⟨rfl, rfl⟩
  rw [HR.out]
  go_wp2_with fail
  exact bodyPost_ret (v := .tuple #[.agg #[.slice none 0 0], .int .i64 60]) (by simp [results, Try.results12, go_sem]) rfl ⟨by repeat (first | exact Below.refl _ _ | refine Below.setCell ?_ (by simp) _ | refine Below.alloc ?_ (by simp; try omega) _), rfl⟩

set_option maxHeartbeats 400000 in
theorem add_any (w : World) (c : Nat) (A : Option Addr) (l : List Int) (n : Int) (hS : Sl w w.heap.size A l) (hr : rightB l = true) :
    Calls Try.prog 12 #[.agg #[.slice A l.length c], .int .u64 n] w (ExPost w (insAll l [n])) := by
  obtain ⟨h64, hR⟩ := rightB_iff.1 hr
  have HR := Lib.hid hr
  clear hr
  have HU := Lib.hid hS
  go_enter Try.func12, Try.ntmps12
  go_wp2_with fail
  refine (right_any _ w.heap.size A c l (by exact (HU.out.alloc (Nat.le_refl _) _).alloc (by simp) _) (by simp; omega) (by omega)).mono ?_
  rintro e w1 ⟨rfl, rfl⟩
  rw [HR.out]
  go_wp2_with fail
  refine (gather_calls _ c 1 A (some ⟨w.heap.size + 1 + 1 + 1, 0, none⟩) l [n] hR h64 (by exact (HU.out.al (below_al (below_al (below_al (below_al (below_0 _) _) _) _) _)).more (by simp; omega)) (by exact sl_one _ _ _ _ (by simp)) (by simp)).mono ?_
  have HB : Hid (Boxed ((((w.alloc (.cells #[.slice A l.length c] 24)).alloc (.cells #[.slice none 0 0] 24)).alloc (.cells #[.slice A l.length c] 24)).alloc (.cells #[.int .u64 n] 25)) (w.heap.size + 1) 24 (.slice none 0 0)) := by have h := Boxed.new (w.alloc (.cells #[.slice A l.length c] 24)) 24 (.slice none 0 0); rw [World.size_alloc] at h; exact (h.alloc _).alloc _
  rintro e w1 ⟨hb, (⟨hlen, v, rfl, hh⟩ | ⟨hlen, rfl⟩)⟩
  · obtain ⟨A', c', rfl, hc', hA', hS', hF'⟩ := hh
    have hx : Boxed w1 (w.heap.size + 1) 24 (.slice none 0 0) := (hb.block _ (by simp)).trans HB.out
    have hcx := hx.cell
    have hfx := hx.frozen
    have hz : w.heap.size + 1 < w1.heap.size := hx.lt
    have hz' : w.heap.size < w1.heap.size := by omega
    have hcs := (hx.set (.slice A' (insAll l [n]).length c')).cell
    have HH : Hid (Held w1 w.heap.size (.slice A' (insAll l [n]).length c') (insAll l [n])) := ⟨A', c', rfl, hc', hA', hS', hF'.from (by simp; omega)⟩
    have hbo : Below w.heap.size w w1 := Below.two (below_al (below_al (below_al (below_al (below_0 _) _) _) _) _) hb
    clear hA' hS' hF'
    go_wp2_with fail
    go_region_with (go_at_call 28; refine (errno_ok _).mono ?_; rintro e w' ⟨rfl, rfl⟩)
    all_goals go_wp2_with fail
    all_goals exact bodyPost_ret (v := .tuple #[.agg #[.slice A' (insAll l [n]).length c'], .int .i64 0]) (by simp [results, Try.results12, go_sem, hz, hz', hcs]) rfl ⟨(below_al (below_al (hbo.setCell (by show w.heap.size ≤ w.heap.size + 1; omega) _) _) _).drew, .inl ⟨hlen, _, rfl, (((HH.out.setBox hx (fun n e => by cases e) _).alloc _).alloc _).drew⟩⟩
  · have hx : Boxed w1 (w.heap.size + 1) 24 (.slice none 0 0) := (hb.block _ (by simp)).trans HB.out
    have hcx := hx.cell
    have hfx := hx.frozen
    have hz : w.heap.size + 1 < w1.heap.size := hx.lt
    have hz' : w.heap.size < w1.heap.size := by omega
    have hcs := (hx.set (.slice none 0 0)).cell
    have hbo : Below w.heap.size w w1 := Below.two (below_al (below_al (below_al (below_al (below_0 _) _) _) _) _) hb
    go_wp2_with fail
    go_region_with (go_at_call 28; refine (errno_err _).mono ?_; rintro e w' ⟨rfl, rfl⟩)
    all_goals go_wp2_with fail
    all_goals exact bodyPost_ret (v := .tuple #[.agg #[.slice none 0 0], .int .i64 60]) (by simp [results, Try.results12, go_sem, hz, hz', hcs]) rfl ⟨(below_al (below_al (hbo.setCell (by show w.heap.size ≤ w.heap.size + 1; omega) _) _) _).drew, .inr ⟨hlen, rfl⟩⟩

theorem merge_bad1 (w : World) (c c2 : Nat) (A A2 : Option Addr) (l m : List Int) (hS : Sl w w.heap.size A l) (hl : l.length ≤ 1152921504606846976) (hr : rightB l = false) :
    Calls Try.prog 14 #[.agg #[.slice A l.length c], .agg #[.slice A2 m.length c2]] w (ExBad w) := by
  have HR := Lib.hid hr
  clear hr
  have HU := Lib.hid hS
  go_enter Try.func14, Try.ntmps14
  go_wp2_with fail
  refine (right_any _ w.heap.size A c l (by exact HU.out.al (below_al (below_al (below_al (below_0 _) _) _) _)) (by simp; omega) (by omega)).mono ?_
  rintro e w1 ⟨rfl, rfl⟩
  rw [HR.out]
  go_wp2_with fail
  exact bodyPost_ret (v := .tuple #[.agg #[.slice none 0 0], .int .i64 60]) (by simp [results, Try.results14, go_sem]) rfl ⟨by repeat (first | exact Below.refl _ _ | refine Below.setCell ?_ (by simp) _ | refine below_al ?_ _), rfl⟩
theorem merge_bad2 (w : World) (c c2 : Nat) (A A2 : Option Addr) (l m : List Int) (hS : Sl w w.heap.size A l) (hS2 : Sl w w.heap.size A2 m) (hl : l.length ≤ 1152921504606846976) (hm : m.length ≤ 1152921504606846976) (hr : rightB l = true) (hr2 : rightB m = false) :
    Calls Try.prog 14 #[.agg #[.slice A l.length c], .agg #[.slice A2 m.length c2]] w (ExBad w) := by
  have HR := Lib.hid hr
  have HR2 := Lib.hid hr2
  clear hr hr2
  have HU := Lib.hid hS
  have HU2 := Lib.hid hS2
  go_enter Try.func14, Try.ntmps14
  go_wp2_with fail
  refine (right_any _ w.heap.size A c l (by exact HU.out.al (below_al (below_al (below_al (below_0 _) _) _) _)) (by simp; omega) (by omega)).mono ?_
  rintro e w1 ⟨rfl, rfl⟩
  rw [HR.out]
  go_wp2_with fail
  refine (right_any _ w.heap.size A2 c2 m (by exact HU2.out.al (below_al (below_al (below_al (below_al (below_0 _) _) _) _) _)) (by simp; omega) (by omega)).mono ?_
  rintro e w1 ⟨rfl, rfl⟩
  rw [HR2.out]
  go_wp2_with fail
  exact bodyPost_ret (v := .tuple #[.agg #[.slice none 0 0], .int .i64 60]) (by simp [results, Try.results14, go_sem]) rfl ⟨by repeat (first | exact Below.refl _ _ | refine Below.setCell ?_ (by simp) _ | refine below_al ?_ _), rfl⟩

set_option maxHeartbeats 400000 in
theorem merge_any (w : World) (c c2 : Nat) (A A2 : Option Addr) (l m : List Int) (hS : Sl w w.heap.size A l) (hS2 : Sl w w.heap.size A2 m) (hr : rightB l = true) (hr2 : rightB m = true) :
    Calls Try.prog 14 #[.agg #[.slice A l.length c], .agg #[.slice A2 m.length c2]] w (ExPost w (insAll l m)) := by
  obtain ⟨h64, hR⟩ := rightB_iff.1 hr
  obtain ⟨h642, hR2⟩ := rightB_iff.1 hr2
  have HR := Lib.hid hr
  have HR2 := Lib.hid hr2
  clear hr hr2
  have HU := Lib.hid hS
  have HU2 := Lib.hid hS2
  go_enter Try.func14, Try.ntmps14
  go_wp2_with fail
  refine (right_any _ w.heap.size A c l (by exact HU.out.al (below_al (below_al (below_al (below_0 _) _) _) _)) (by simp; omega) (by omega)).mono ?_
  rintro e w1 ⟨rfl, rfl⟩
  rw [HR.out]
  go_wp2_with fail
  refine (right_any _ w.heap.size A2 c2 m (by exact HU2.out.al (below_al (below_al (below_al (below_al (below_0 _) _) _) _) _)) (by simp; omega) (by omega)).mono ?_
  rintro e w1 ⟨rfl, rfl⟩
  rw [HR2.out]
  go_wp2_with fail
  refine (gather_calls _ c c2 A A2 l m hR h64 (by exact (HU.out.al (below_al (below_al (below_al (below_al (below_al (below_0 _) _) _) _) _) _)).more (by simp; omega)) (by exact (HU2.out.al (below_al (below_al (below_al (below_al (below_al (below_0 _) _) _) _) _) _)).more (by simp; omega)) (by omega)).mono ?_
  have HB : Hid (Boxed (((((w.alloc (.cells #[.slice A l.length c] 24)).alloc (.cells #[.slice A2 m.length c2] 24)).alloc (.cells #[.slice none 0 0] 24)).alloc (.cells #[.slice A l.length c] 24)).alloc (.cells #[.slice A2 m.length c2] 24)) (w.heap.size + 1 + 1) 24 (.slice none 0 0)) := by have h := Boxed.new ((w.alloc (.cells #[.slice A l.length c] 24)).alloc (.cells #[.slice A2 m.length c2] 24)) 24 (.slice none 0 0); rw [World.size_alloc, World.size_alloc] at h; exact (h.alloc _).alloc _
  rintro e w1 ⟨hb, (⟨hlen, v, rfl, hh⟩ | ⟨hlen, rfl⟩)⟩
  · obtain ⟨A', c', rfl, hc', hA', hS', hF'⟩ := hh
    have hx : Boxed w1 (w.heap.size + 1 + 1) 24 (.slice none 0 0) := (hb.block _ (by simp)).trans HB.out
    have hcx := hx.cell
    have hfx := hx.frozen
    have hz : w.heap.size + 1 + 1 < w1.heap.size := hx.lt
    have hz' : w.heap.size + 1 < w1.heap.size := by omega
    have hz'' : w.heap.size < w1.heap.size := by omega
    have hcs := (hx.set (.slice A' (insAll l m).length c')).cell
    have HH : Hid (Held w1 w.heap.size (.slice A' (insAll l m).length c') (insAll l m)) := ⟨A', c', rfl, hc', hA', hS', hF'.from (by simp; omega)⟩
    have hbo : Below w.heap.size w w1 := Below.two (below_al (below_al (below_al (below_al (below_al (below_0 _) _) _) _) _) _) hb
    clear hA' hS' hF'
    go_wp2_with fail
    go_region_with (go_at_call 28; refine (errno_ok _).mono ?_; rintro e w' ⟨rfl, rfl⟩)
    all_goals go_wp2_with fail
    all_goals exact bodyPost_ret (v := .tuple #[.agg #[.slice A' (insAll l m).length c'], .int .i64 0]) (by simp [results, Try.results14, go_sem, hz, hz', hcs]) rfl ⟨(below_al (below_al (hbo.setCell (by show w.heap.size ≤ w.heap.size + 1 + 1; omega) _) _) _).drew, .inl ⟨hlen, _, rfl, (((HH.out.setBox hx (fun n e => by cases e) _).alloc _).alloc _).drew⟩⟩
  · have hx : Boxed w1 (w.heap.size + 1 + 1) 24 (.slice none 0 0) := (hb.block _ (by simp)).trans HB.out
    have hcx := hx.cell
    have hfx := hx.frozen
    have hz : w.heap.size + 1 + 1 < w1.heap.size := hx.lt
    have hz' : w.heap.size + 1 < w1.heap.size := by omega
    have hz'' : w.heap.size < w1.heap.size := by omega
    have hcs := (hx.set (.slice none 0 0)).cell
    have hbo : Below w.heap.size w w1 := Below.two (below_al (below_al (below_al (below_al (below_al (below_0 _) _) _) _) _) _) hb
    go_wp2_with fail
    go_region_with (go_at_call 28; refine (errno_err _).mono ?_; rintro e w' ⟨rfl, rfl⟩)
    all_goals go_wp2_with fail
    all_goals exact bodyPost_ret (v := .tuple #[.agg #[.slice none 0 0], .int .i64 60]) (by simp [results, Try.results14, go_sem, hz, hz', hcs]) rfl ⟨(below_al (below_al (hbo.setCell (by show w.heap.size ≤ w.heap.size + 1 + 1; omega) _) _) _).drew, .inr ⟨hlen, rfl⟩⟩
end Go.Proofs.Ytdobgfadnenhaaa

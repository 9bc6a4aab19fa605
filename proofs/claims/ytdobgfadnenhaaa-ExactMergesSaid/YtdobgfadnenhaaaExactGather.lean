/-
  The walk of exact.gather: a range over an iterator, left by a labelled break where the numbers are too many.
-/
import Derived.Test.YtdobgfadnenhaaaExactWalk
import Derived.Test.YtdobgfadnenhaaaIter
namespace Go.Proofs.Ytdobgfadnenhaaa
open Go.RowKit Go.Shelf
set_option linter.unusedVariables false
attribute [local go_sem] Oper.semAt_some

theorem each_any (a : Option Addr) (len cap : Nat) (w : World) :
    Calls Try.prog 33 #[.slice a len cap] w fun e w' => e = .returned (.func (.func 38) #[] #[.pointer (some ⟨w.heap.size, 0, none⟩)]) ∧ w' = w.alloc (.cells #[.slice a len cap] 22) := by
  go_enter Try.func33, Try.ntmps33
  go_wp2_with fail
  refine (callsIn_wide.1 (values_in Fence.wide 3 trivial rfl a len cap w)).mono ?_
  rintro e w' ⟨rfl, rfl⟩
  go_wp2_with fail
  go_ret
  exact ⟨rfl, rfl⟩

/-- The error that gather hands back. -/
def faultV : Value := .iface 58 (.agg #[.string ⟨#[116, 111, 111, 32, 109, 97, 110, 121, 32, 110, 117, 109, 98, 101, 114, 115]⟩])

/-- Between two rounds: the list so far, no error, the result's own cell. -/
def GI (w : World) (bA bE : Nat) (l : List Int) (pre : List Int) (W : World) : Prop :=
  (∃ v, Boxed W bA 22 v ∧ Held W w.heap.size v (insAll l pre)) ∧ Boxed W bE 47 .nilIface ∧ Boxed W w.heap.size 24 (.slice none 0 0) ∧ (insAll l pre).length ≤ 64 ∧ Below w.heap.size w W
/-- A round has left: there were too many. -/
def GX (w : World) (bE : Nat) (l : List Int) (c : Code) (pre : List Int) (W : World) : Prop :=
  c = .exit 0 ∧ Boxed W bE 47 faultV ∧ Boxed W w.heap.size 24 (.slice none 0 0) ∧ 64 < (insAll l pre).length ∧ Below w.heap.size w W
theorem boxed_kept {W W' : World} {row : Option Nat} {B : Nat} {t : TypeId} {v : Value} (h : Boxed W B t v) (hg : W.grownBy W' row) (hr : ∀ r, row = some r → ∃ o : Obj, W.heap[r]? = some o ∧ o.isCells = false) : Boxed W' B t v :=
  h.kept hg (fun e => by obtain ⟨o, ho, hc⟩ := hr _ e.symm; rw [show W.heap[B]? = _ from h] at ho; cases ho; cases hc)
theorem held_kept {W W' : World} {row : Option Nat} {base : Nat} {v : Value} {l : List Int} (h : Held W base v l) (hg : W.grownBy W' row) (hr : ∀ r, row = some r → ∃ o : Obj, W.heap[r]? = some o ∧ o.isCells = false) : Held W' base v l := by
  obtain ⟨A, c, e, hc, hA, hS, hF⟩ := h
  exact ⟨A, c, e, hc, hA, hS.to hg.size (fun b o v hv => cell_kept hv hg hr), hF.kept hg hr⟩
theorem GI_own (w : World) (bA bE : Nat) (l : List Int) (B : Nat) (hB : w.heap.size ≤ B) : OwnFrom B (GI w bA bE l) := by
  rintro s W W' row ⟨⟨v, hv, hh⟩, he, hx, hl, hb⟩ hg hr
  have hr' : ∀ r, row = some r → ∃ o : Obj, W.heap[r]? = some o ∧ o.isCells = false := fun r e => (hr r e).2
  exact ⟨⟨v, boxed_kept hv hg hr', held_kept hh hg hr'⟩, boxed_kept he hg hr', boxed_kept hx hg hr', hl, hb.grown hg hb.size (fun k e => Nat.le_trans hB (hr k e).1)⟩
theorem GX_own (w : World) (bE : Nat) (l : List Int) (c : Code) (B : Nat) (hB : w.heap.size ≤ B) : OwnFrom B (GX w bE l c) := by
  rintro s W W' row ⟨hc, he, hx, hl, hb⟩ hg hr
  have hr' : ∀ r, row = some r → ∃ o : Obj, W.heap[r]? = some o ∧ o.isCells = false := fun r e => (hr r e).2
  exact ⟨hc, boxed_kept he hg hr', boxed_kept hx hg hr', hl, hb.grown hg hb.size (fun k e => Nat.le_trans hB (hr k e).1)⟩

theorem sl_box {w : World} {B bA : Nat} {A : Option Addr} {l : List Int} {t : TypeId} {u : Value} (h : Sl w B A l) (hx : Boxed w bA t u) (hu : ∀ n, u ≠ .int .u64 n) (v : Value) : Sl (w.setCell ⟨bA, 0, none⟩ v) B A l := fun hl => by
  obtain ⟨b, off, e, hb, hc⟩ := h hl
  refine ⟨b, off, e, hb, fun j x hj => ?_⟩
  have h1 := hc j x hj
  have hne : b ≠ bA := by
    rintro rfl
    obtain ⟨n, _, rfl⟩ : ∃ n, n ∈ l ∧ Value.int .u64 n = x := List.mem_map.1 (List.mem_of_getElem? hj)
    rw [World.cell?, show w.heap[b]? = _ from hx] at h1
    simp only [Option.isSome_none] at h1
    rcases Nat.eq_zero_or_pos (off + j) with h0 | h0
    · rw [h0] at h1
      simp at h1
      exact hu n h1
    · rw [if_neg (by simp)] at h1
      rw [Array.getElem?_eq_none (by simp; omega)] at h1
      cases h1
  rw [World.cell?_setCell_other _ _ _ _ (fun e => hne (by injection e with h1 h2; exact h1.symm))]
  exact h1
theorem Held.setBox {w : World} {base bA : Nat} {v : Value} {l : List Int} {t : TypeId} {u : Value} (h : Held w base v l) (hx : Boxed w bA t u) (hu : ∀ n, u ≠ .int .u64 n) (x : Value) : Held (w.setCell ⟨bA, 0, none⟩ x) base v l := by
  obtain ⟨A, c, e, hc, hA, hS, hF⟩ := h
  exact ⟨A, c, e, hc, hA, by have := sl_box hS hx hu x; simpa [World.setCell] using this, hF.set _ _⟩
theorem Held.alloc {w : World} {base : Nat} {v : Value} {l : List Int} (h : Held w base v l) (o : Obj) : Held (w.alloc o) base v l := h.later ((Below.refl _ _).alloc (Nat.le_refl _) _)
theorem Held.drew {w : World} {base : Nat} {v : Value} {l : List Int} (h : Held w base v l) : Held w.drew base v l := h
theorem boxed_far {W : World} {B b : Nat} {t : TypeId} {u : Value} (h : Boxed W B t u) (hne : B ≠ b) (v : Value) : Boxed (W.setCell ⟨b, 0, none⟩ v) B t u :=
  h.kept (grownBy_setCell' W b v) (fun e => hne (by injection e))
theorem keeps_box {W W' : World} {b : Nat} {v : Value} (h : KeepsOthers W W') : KeepsOthers W (W'.setCell ⟨b, 0, none⟩ v) := h.trans (KeepsOthers.setCell _ _ _)

/-- The world in which gather copies. -/
def gatherW (w : World) (n : Nat) : World := ((w.alloc (.cells #[.slice none 0 0] 24)).alloc (.cells (madeCells (Value.int .u64 0).cells n) 25)).alloc (.cells #[.slice (some ⟨w.heap.size + 1, 0, none⟩) n n] 22)
theorem gatherW_size (w : World) (n : Nat) : (gatherW w n).heap.size = w.heap.size + 3 := by simp [gatherW]
theorem gatherW_below (w : World) (n : Nat) : Below w.heap.size w (gatherW w n) := (((Below.refl _ _).alloc (Nat.le_refl _) _).alloc (by simp) _).alloc (by simp; omega) _
theorem gatherW_row (w : World) (n : Nat) : (gatherW w n).heap[w.heap.size + 1]? = some (.cells (madeCells (Value.int .u64 0).cells n) 25 (0, 0)) := by
  have h := World.alloc_heap_new (w.alloc (.cells #[.slice none 0 0] 24)) (.cells (madeCells (Value.int .u64 0).cells n) 25)
  rw [World.size_alloc] at h
  exact (Below.heap_alloc _ _ _ (by simp)).trans h
theorem gatherW_res (w : World) (n : Nat) : Boxed (gatherW w n) w.heap.size 24 (.slice none 0 0) := ((Boxed.new w 24 (.slice none 0 0)).alloc _).alloc _
theorem gatherW_all (w : World) (n : Nat) : Boxed (gatherW w n) (w.heap.size + 2) 22 (.slice (some ⟨w.heap.size + 1, 0, none⟩) n n) := by
  have h := Boxed.new ((w.alloc (.cells #[.slice none 0 0] 24)).alloc (.cells (madeCells (Value.int .u64 0).cells n) 25)) 22 (.slice (some ⟨w.heap.size + 1, 0, none⟩) n n)
  rw [World.size_alloc, World.size_alloc] at h
  exact h
/-- What holds when the loop begins. -/
theorem gather_start {w w1 : World} {l : List Int} {A2 : Option Addr} {n2 c2 : Nat} (hl : l.length ≤ 64) (hg : w1.heap[w.heap.size + 1]? = some (.cells (l.map (Value.int .u64)).toArray 25 (0, 0))) (hw : (gatherW w l.length).grownBy w1 (some (w.heap.size + 1))) :
    GI w (w.heap.size + 2) w1.heap.size l [] ((w1.alloc (.cells #[.nilIface] 47)).alloc (.cells #[.slice A2 n2 c2] 22)) := by
  have hb : Below w.heap.size w w1 := (gatherW_below w l.length).grown hw (by rw [gatherW_size]; omega) (fun k e => by cases e; omega)
  refine ⟨⟨_, (((gatherW_all w l.length).kept hw (by simp)).alloc _).alloc _, ?_⟩, (Boxed.new w1 47 .nilIface).alloc _, (((gatherW_res w l.length).kept hw (by simp)).alloc _).alloc _, hl, (hb.alloc hb.size _).alloc (by have := hb.size; simp; omega) _⟩
  have hlt := (Array.getElem?_eq_some_iff.1 hg).1
  refine ⟨some ⟨w.heap.size + 1, 0, none⟩, l.length, rfl, Nat.le_refl _, (fun h => by cases h), ?_, (fun ad e => by cases e; exact ⟨Nat.le_succ _, _, _, (Below.heap_alloc _ _ _ (by simp; omega)).trans ((Below.heap_alloc _ _ _ hlt).trans hg)⟩)⟩
  have h1 : Sl w1 w1.heap.size (some ⟨w.heap.size + 1, 0, none⟩) l := fun _ => ⟨_, _, rfl, hlt, fun j u hj => by
    rw [Nat.zero_add]
    simpa [World.cell?, hg] using hj⟩
  exact ((h1.alloc (Nat.le_refl _) _).alloc (by simp) _).more (by simp; omega)

set_option maxRecDepth 100000 in
set_option maxHeartbeats 2000000 in
theorem gather_any (w : World) (c c2 : Nat) (A A2 : Option Addr) (l m : List Int) (hR : Rises l) (hl : l.length ≤ 64) (hS : Sl w w.heap.size A l) (hS2 : Sl w w.heap.size A2 m) (hm : m.length ≤ 1152921504606846976) :
    CallsIn Fence.wide 6 Try.prog 27 #[.slice A l.length c, .slice A2 m.length c2] w fun e w' => Below w.heap.size w w' ∧
      (((insAll l m).length ≤ 64 ∧ ∃ v, e = .returned (.tuple #[.agg #[v], .nilIface]) ∧ Held w' w.heap.size v (insAll l m)) ∨
       (64 < (insAll l m).length ∧ e = .returned (.tuple #[.agg #[.slice none 0 0], faultV]))) := by
  obtain ⟨i0, hi0, hz0, hz1, hz2⟩ := info_parts Try.infoU64
  have hmk := fun W => run_make_n (P := Try.prog) 22 25 i0 (.int .u64 0) Try.underlying22 hi0 hz0 hz1 .i64 .i64 l.length l.length (Nat.le_refl _) (by rw [hz2]; omega) (by omega) W
  have HW := Lib.hid (gatherW_row w l.length)
  have HSW : Hid (Sl (gatherW w l.length) w.heap.size A l) := hS.below (gatherW_below w l.length)
  refine callsIn_of_wp_marks Try.func27 rfl trivial ?_ rfl
  simp only [Try.ntmps27, List.size_toArray, List.length_cons, List.length_nil, Nat.reduceAdd, Nat.reduceSub, Array.replicate_succ, Array.replicate_zero, List.push_toArray, List.append_toArray, List.nil_append, List.cons_append]
  refine wpIn_wide.2 ?_
  go_wp2_with fail
  go_step3
  go_wp2_with (refine wpList_copy_all rfl (.tmp 12) (.tmp 13) 22 22 rfl 25 Try.underlying22 (by rw [hi0]; simp [hz1]) (w.heap.size + 1) l.length l.length c A rfl rfl _ 25 HW.out (size_madeCells _ _) (l.map (Value.int .u64)) (by simp) w.heap.size HSW.out one_u64 ?_; intro w1 hg1 hw1 hs1)
  go_step3
  go_wp2_with fail
  refine (each_any _ _ _ _).mono ?_
  rintro e w' ⟨rfl, rfl⟩
  go_wp2_with fail
  have hb0 : Below w.heap.size w ((w1.alloc (.cells #[.nilIface] 47)).alloc (.cells #[.slice A2 m.length c2] 22)) := (gather_start (A2 := A2) (n2 := m.length) (c2 := c2) hl hg1 hw1).2.2.2.2
  have hst := gather_start (A2 := A2) (n2 := m.length) (c2 := c2) hl hg1 hw1
  simp only [hs1, World.size_alloc] at hst
  have hst' : GI w (w.heap.size + 1 + 1) (w.heap.size + 1 + 1 + 1) l [] ((w1.alloc (.cells #[.nilIface] 47)).alloc (.cells #[.slice A2 m.length c2] 22)) := hst
  have hsz : ((w1.alloc (.cells #[.nilIface] 47)).alloc (.cells #[.slice A2 m.length c2] 22)).heap.size = w.heap.size + 5 := by simp [hs1]
  have hbx := (Boxed.new (w1.alloc (.cells #[.nilIface] 47)) 22 (.slice A2 m.length c2)).cell
  have hbe : (w1.alloc (.cells #[.nilIface] 47)).heap.size = w.heap.size + 1 + 1 + 1 + 1 := by simp [hs1]
  rw [hbe] at hbx
  generalize ((w1.alloc (.cells #[.nilIface] 47)).alloc (.cells #[.slice A2 m.length c2] 22)) = W0 at *
  clear hbe hst hg1 hw1 hs1 HW HSW hmk
  refine (wpIn_wide (n := 6)).1 ?_
  refine wpIn_rangeFunc_ownF rfl (by omega) (gf := 38) (lb := #[.pointer (some ⟨w.heap.size + 1 + 1 + 1 + 1, 0, none⟩)]) rfl trivial (enters_of Try.func38 (by kernel_rfl) rfl)
    (values_stops Fence.wide (6 - 1) trivial rfl (by omega) (w.heap.size + 1 + 1 + 1 + 1) w.heap.size c2 A2 m hm W0 (by omega) (by omega) hbx (hS2.below hb0)) belowK_t (belowK_b (by omega)) (Below.refl _ _) (fun _ => rfl)
    (GI w (w.heap.size + 1 + 1) (w.heap.size + 1 + 1 + 1) l) (GX w (w.heap.size + 1 + 1 + 1) l) (GI_own w _ _ l _ (by omega)) (fun c => GX_own w _ l c _ (by omega)) hst'
    (fun x => { tmps := #[.slice A l.length c, .slice A2 m.length c2, undef, undef, .pointer (some ⟨w.heap.size, 0, none⟩), .nilIface, .pointer (some ⟨w.heap.size + 1 + 1, 0, none⟩), .pointer (some ⟨w.heap.size + 1 + 1 + 1, 0, none⟩), .int .u64 x, .slice A l.length c, .int .i64 l.length, .slice (some ⟨w.heap.size + 1, 0, none⟩) l.length l.length, .slice (some ⟨w.heap.size + 1, 0, none⟩) l.length l.length, .slice A l.length c, .int .i64 l.length, .slice A2 m.length c2, .func (.func 38) #[] #[.pointer (some ⟨w.heap.size + 1 + 1 + 1 + 1, 0, none⟩)], .int .u64 x, undef, undef, undef, undef, undef, undef, undef, undef, undef, undef, undef, undef, undef, undef], defers := [] }) ?assign ?body ?done ?stop
  case assign =>
    intro l x W K hK
    gi_wp2
    exact hK
  case body =>
    rintro l' pre x W ⟨⟨v, hv, hh⟩, he, hx, hlen, hb⟩ hlt
    obtain ⟨A', c', rfl, hc', hA', hS', hF'⟩ := hh
    have hc := hv.cell
    gi_wp2_with fail
    refine ⟨trivial, ?_⟩
    refine (CallsIn.inRound l' (callsIn_wide.2 (with_any W w.heap.size c' A' (insAll l pre) x (rises_insAll hR pre) hS' hc' hA' hF' hb.size (by omega)))).mono ?_
    rintro e w2 ⟨v2, rfl, hh2, hb2⟩
    rw [← insAll_snoc] at hh2
    obtain ⟨A2', c2', rfl, hc2', hA2', hS2', hF2'⟩ := hh2
    have hv2 : Boxed w2 (w.heap.size + 1 + 1) 22 (.slice A' (insAll l pre).length c') := (hb2.block _ hv.lt).trans hv
    have he2 : Boxed w2 (w.heap.size + 1 + 1 + 1) 47 .nilIface := (hb2.block _ he.lt).trans he
    have hx2 : Boxed w2 w.heap.size 24 (.slice none 0 0) := (hb2.block _ hx.lt).trans hx
    have hcv2 := hv2.cell
    have hfv2 := hv2.frozen
    have hce2 := he2.cell
    have hfe2 := he2.frozen
    have hK2 := keeps_of_below hb2
    have hB2 : Below w.heap.size w w2 := hb.trans (hb2.mono hb.size)
    have HS2 := Lib.hid hS2'
    have HA2 := Lib.hid hA2'
    have HF2 := Lib.hid hF2'
    clear hS2' hA2' hF2' hA' hF' hS' hc hv hx he hK2
    by_cases hbig : 64 < (insAll l (pre ++ [x])).length
    · have hd : decide (64 < ((insAll l (pre ++ [x])).length : Int)) = true := by simp; omega
      gi_wp2
      refine ⟨keeps_box (keeps_box (keeps_of_below hb2)), rfl, (boxed_far he2 (by omega) _).set _, boxed_far (boxed_far hx2 (by omega) _) (by omega) _, hbig, (hB2.setCell (by show _ ≤ w.heap.size + 1 + 1; omega) _).setCell (by show _ ≤ w.heap.size + 1 + 1 + 1; omega) _⟩
    · have hd : decide (64 < ((insAll l (pre ++ [x])).length : Int)) = false := by simp; omega
      gi_wp2
      refine ⟨keeps_box (keeps_of_below hb2), (hb2.mono hb.size).setCell (by show _ ≤ w.heap.size + 1 + 1; omega) _, ⟨_, hv2.set _, A2', c2', rfl, hc2', HA2.out, ?_, HF2.out.set _ _⟩, boxed_far he2 (by omega) _, boxed_far hx2 (by omega) _, by omega, hB2.setCell (by show _ ≤ w.heap.size + 1 + 1; omega) _⟩
      have := sl_box HS2.out hv2 (fun n e => by cases e) (.slice A2' (insAll l (pre ++ [x])).length c2')
      simpa [World.setCell] using this
  case done =>
    rintro D ys W hD rfl ⟨⟨v, hv, hh⟩, he, hx, hlen, hb⟩ hK
    obtain ⟨A', c', rfl, hc', hA', hS', hF'⟩ := hh
    have hcv := hv.cell
    have hce := he.cell
    have hcx := hx.cell
    have hfx := hx.frozen
    have HF := Lib.hid hF'
    have HA := Lib.hid hA'
    clear hF' hA'
    go_wp2_with fail
    try rw [Exit.noGoto_ret]
    have hK' : (W.setCell ⟨w.heap.size, 0, none⟩ (.slice A' (insAll l ys).length c')).heap[D]? = some (.deferred (some [])) := (KeepsOthers.setCell _ _ _).same D _ hK rfl
    have hr' : ∀ r, some D = some r → ∃ o : Obj, (W.setCell ⟨w.heap.size, 0, none⟩ (.slice A' (insAll l ys).length c')).heap[r]? = some o ∧ o.isCells = false := fun r e => by cases e; exact ⟨_, hK', rfl⟩
    have hbx' := boxed_kept (hx.set (.slice A' (insAll l ys).length c')) (grownBy_putObj' _ D (.deferred none)) hr'
    have hcc := hbx'.cell
    have hh' : Held (W.setCell ⟨w.heap.size, 0, none⟩ (.slice A' (insAll l ys).length c')) w.heap.size (.slice A' (insAll l ys).length c') (insAll l ys) :=
      ⟨A', c', rfl, hc', HA.out, by have := sl_box hS' hx (fun n e => by cases e) (.slice A' (insAll l ys).length c'); simpa [World.setCell] using this, HF.out.set _ _⟩
    refine ⟨by simp, .inl ⟨_, _, rfl, run_takeDeferred hK', ?_⟩⟩
    exact ⟨.tuple #[.agg #[.slice A' (insAll l ys).length c'], .nilIface], by simp [results, Try.results27, go_sem, hcc], (hb.setCell (Nat.le_refl _) _).trans (belowK_b (w := w) (Nat.le_refl _) _ D _ _ (by omega) hK' rfl rfl), .inl ⟨hlen, _, rfl, held_kept hh' (grownBy_putObj' _ D (.deferred none)) hr'⟩⟩
  case stop =>
    rintro D c' pre W hD hpre ⟨rfl, he, hx, hbig, hb⟩ hK
    have hce := he.cell
    unfold faultV at hce
    have hcx := hx.cell
    have hfx := hx.frozen
    have hbig' : Hid (64 < (insAll l m).length) := Nat.lt_of_lt_of_le hbig (length_insAll_prefix hR hpre)
    refine wpIn_wide.2 ?_
    go_wp2_with fail
    go_region
    all_goals go_wp2_with fail
    all_goals try rw [Exit.noGoto_ret]
    have hK' : (W.setCell ⟨w.heap.size, 0, none⟩ (.slice none 0 0)).drew.heap[D]? = some (.deferred (some [])) := (KeepsOthers.setCell _ _ _).same D _ hK rfl
    have hr' : ∀ r, some D = some r → ∃ o : Obj, (W.setCell ⟨w.heap.size, 0, none⟩ (.slice none 0 0)).drew.heap[r]? = some o ∧ o.isCells = false := fun r e => by cases e; exact ⟨_, hK', rfl⟩
    have hbx' : Boxed (W.setCell ⟨w.heap.size, 0, none⟩ (.slice none 0 0)).drew w.heap.size 24 (.slice none 0 0) := hx.set (.slice none 0 0)
    have hcc := (boxed_kept hbx' (grownBy_putObj' _ D (.deferred none)) hr').cell
    have hb1 : Below w.heap.size w (W.setCell ⟨w.heap.size, 0, none⟩ (.slice none 0 0)).drew := (hb.setCell (Nat.le_refl _) _).drew
    refine ⟨by simp, .inl ⟨_, _, rfl, run_takeDeferred hK', ?_⟩⟩
    exact ⟨.tuple #[.agg #[.slice none 0 0], faultV], by simp [results, Try.results27, go_sem, hcc, faultV], hb1.trans (belowK_b (w := w) (Nat.le_refl _) _ D _ _ (by omega) hK' rfl rfl), .inr ⟨hbig'.out, rfl⟩⟩

theorem gather_calls (w : World) (c c2 : Nat) (A A2 : Option Addr) (l m : List Int) (hR : Rises l) (hl : l.length ≤ 64) (hS : Sl w w.heap.size A l) (hS2 : Sl w w.heap.size A2 m) (hm : m.length ≤ 1152921504606846976) :
    Calls Try.prog 27 #[.slice A l.length c, .slice A2 m.length c2] w fun e w' => Below w.heap.size w w' ∧
      (((insAll l m).length ≤ 64 ∧ ∃ v, e = .returned (.tuple #[.agg #[v], .nilIface]) ∧ Held w' w.heap.size v (insAll l m)) ∨
       (64 < (insAll l m).length ∧ e = .returned (.tuple #[.agg #[.slice none 0 0], faultV]))) :=
  callsIn_wide.1 (gather_any w c c2 A A2 l m hR hl hS hS2 hm)

theorem errno_ok (w : World) : Calls Try.prog 28 #[.nilIface] w fun e w' => e = .returned (.int .i64 0) ∧ w.alloc (.cells #[.string ⟨#[]⟩] 58) = w' := by
  have ta : ∀ w, (Instr.typeAssert .nilIface 47 58 true).run Try.prog w = .ok (.tuple #[.agg #[.string ⟨#[]⟩], .bool false]) w := fun _ => by kernel_rfl
  go_enter Try.func28, Try.ntmps28
  go_wp2
  go_ret
  exact ⟨rfl, rfl⟩
def faultS : ByteArray := ⟨#[116, 111, 111, 32, 109, 97, 110, 121, 32, 110, 117, 109, 98, 101, 114, 115]⟩
theorem errno_err (w : World) : Calls Try.prog 28 #[faultV] w fun e w' => e = .returned (.int .i64 60) ∧ w.alloc (.cells #[.string faultS] 58) = w' := by
  have ta : ∀ w, (Instr.typeAssert faultV 47 58 true).run Try.prog w = .ok (.tuple #[.agg #[.string faultS], .bool true]) w := fun _ => by kernel_rfl
  unfold faultV at ta ⊢
  go_enter Try.func28, Try.ntmps28
  go_wp2
  go_ret
  exact ⟨rfl, rfl⟩
end Go.Proofs.Ytdobgfadnenhaaa

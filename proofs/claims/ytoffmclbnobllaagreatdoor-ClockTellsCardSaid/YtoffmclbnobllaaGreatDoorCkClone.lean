/-
  slices.Clone of labels, numbers, bins.
-/
import Derived.Test.YtoffmclbnobllaaGreatDoorCkSer
import Derived.Lib.SliceRun
namespace Go.Proofs.YtoffmclbnobllaaGreatDoor
open Go.RowKit
set_option linter.unusedVariables false
set_option linter.unusedSimpArgs false
theorem Tryz.infoU64 : (Tryz.prog.info? 23).map (fun i => (i.zero, i.size, i.bytes)) = some (some (.int .u64 0), 1, 8) := by kernel_rfl
theorem Tryz.infoBin : (Tryz.prog.info? 69).map (fun i => (i.zero, i.size, i.bytes)) = some (some (.agg #[.int .i64 0, .int .u64 0]), 2, 16) := by kernel_rfl
theorem own_rd {w : World} {B n sz : Nat} {t : TypeId} {v : Value} {xs : List Value} (h : w.ownsRow B t sz v n xs) : ∃ A c, v = .slice A n c ∧ n ≤ c ∧ Rd w w.heap.size A xs ∧ ∀ ad, A = some ad → B ≤ ad.block := by
  obtain ⟨h1, ⟨h, e⟩ | ⟨g, cap, cur, hv, hb, hh, hnc, hcm, hcs, htk⟩⟩ := h
  · subst e
    rw [Nat.zero_mul] at h1
    have : xs = [] := List.eq_nil_of_length_eq_zero h1
    subst this
    exact ⟨none, 0, h, Nat.le_refl _, Rd.none_, fun _ e => by cases e⟩
  · refine ⟨_, cap, hv, hnc, fun _ => ⟨g, 0, rfl, (Array.getElem?_eq_some_iff.1 hh).1, fun j u hj => ?_⟩, fun _ e => by cases e; exact hb⟩
    rw [Nat.zero_add]
    have hx : cur[j]? = some u := by
      rw [← htk, List.getElem?_take] at hj
      split at hj
      · rw [← Array.getElem?_toList]; exact hj
      · cases hj
    exact (Blk.cell (show Blk w g t cur from hh) j).trans hx
theorem rd_set {w : World} {B g o : Nat} {A : Option Addr} {xs : List Value} {u : Value} (h : Rd w B A xs) (hne : ∀ ad, A = some ad → ad.block ≠ g) : Rd (w.setCell ⟨g, o, none⟩ u) B A xs := fun hx => by
  obtain ⟨b, off, e, hb, hc⟩ := h hx
  exact ⟨b, off, e, hb, fun j v hj => (World.cell?_of_block (Below.heap_setCell _ _ _ b (hne _ e))).trans (hc j v hj)⟩
theorem flatB_one {l : Hi.Bins} : ∀ u ∈ Hi.flatB l, u.oneCell' = true := fun u hu => by
  unfold Hi.flatB at hu
  obtain ⟨x, _, hu⟩ := List.mem_flatMap.1 hu
  simp at hu; rcases hu with rfl | rfl <;> rfl
theorem flatL_one {l : List Lab} : ∀ u ∈ flatL l, u.oneCell' = true := fun u hu => by
  unfold flatL at hu
  obtain ⟨x, _, hu⟩ := List.mem_flatMap.1 hu
  simp at hu; rcases hu with rfl | rfl <;> rfl
set_option maxRecDepth 100000 in
set_option maxHeartbeats 2000000 in
theorem cloneU_any (A : Option Addr) (l : List Int) (cap : Nat) (hl : l.length ≤ 1000000) (w : World) (hS : Sl w w.heap.size A l) :
    Calls Tryz.prog 30 #[.slice A l.length cap] w fun e w' => (∃ A' c', e = .returned (.slice A' l.length c') ∧ Sl w' w'.heap.size A' l ∧ ∀ ad, A' = some ad → w.heap.size ≤ ad.block) ∧ Below w.heap.size w w' := by
  obtain ⟨i0, hi0, hz0, hz1, hz2⟩ := info_parts Tryz.infoU64
  have q22 : ∀ (w : World) (a : Option Addr) (n c n' c' : Nat), (binOp .eql 37 (.slice a n c) (.slice none n' c')).run Tryz.prog w = .ok (.bool a.isNone) w := fun w a n c n' c' => Lib.run_eql_slice_nil w _ _ a n c n' c' Tryz.underlying37
  have HS := Lib.hid hS
  have HN : Hid (A = none → l = []) := fun e => by
    subst e
    cases l with
    | nil => rfl
    | cons x r =>
      obtain ⟨_, _, h, _⟩ := hS (by simp)
      cases h
  clear hS
  cases A with
  | none =>
    obtain rfl := HN.out rfl
    go_enter Tryz.func30, Tryz.ntmps30
    go_wp2_with fail
    go_ret
    exact ⟨⟨none, ⟨0, rfl⟩, Rd.none_, fun _ e => (by cases e)⟩, below_0 _⟩
  | some ad =>
    go_enter Tryz.func30, Tryz.ntmps30
    go_wp2_with (at_builtin; refine wpList_append_rd _ rfl _ _ 37 rfl w.heap.size 23 i0 (.int .u64 0) 1 8 Tryz.underlying37 hi0 hz0 hz1 hz2 rfl (by decide) _ 0 _ rfl (World.ownsRow_made w #[] 0 (Nat.le_refl _) (Nat.zero_le _) (by simp)) _ _ l.length cap (l.map (Value.int .u64)) rfl (by simp) (Rd.below HS.out (below_al (below_0 w) _)) (fun u hu => by obtain ⟨x, _, rfl⟩ := List.mem_map.1 hu; rfl) (by unfold maxLen; omega) (by omega) (by simp) ?_; intro v' w1 hown hgrow hnil)
    obtain ⟨A2, c2, rfl, hc2, hr2, ha2⟩ := own_rd hown
    go_wp2_with fail
    go_ret
    rw [Nat.zero_add]
    simp only [List.take_zero, Array.toList_empty, List.take_nil, List.nil_append, Nat.zero_mul] at hr2
    exact ⟨⟨A2, c2, rfl, hr2, ha2⟩, ((Below.refl _ w).alloc (Nat.le_refl _) _).grown hgrow (by simp) (by intro k hk; cases hk; exact Nat.le_refl _)⟩
set_option maxRecDepth 100000 in
set_option maxHeartbeats 2000000 in
theorem cloneL_any (A : Option Addr) (l : List Lab) (cap : Nat) (hl : l.length ≤ 1000000) (w : World) (hS : Lb w w.heap.size A l) :
    Calls Tryz.prog 29 #[.slice A l.length cap] w fun e w' => (∃ A' c', e = .returned (.slice A' l.length c') ∧ Lb w' w'.heap.size A' l ∧ ∀ ad, A' = some ad → w.heap.size ≤ ad.block) ∧ Below w.heap.size w w' := by
  obtain ⟨i0, hi0, hz0, hz1, hz2⟩ := info_parts Tryz.infoLab
  have q22 : ∀ (w : World) (a : Option Addr) (n c n' c' : Nat), (binOp .eql 36 (.slice a n c) (.slice none n' c')).run Tryz.prog w = .ok (.bool a.isNone) w := fun w a n c n' c' => Lib.run_eql_slice_nil w _ _ a n c n' c' Tryz.underlying36
  have HS := Lib.hid hS
  have HN : Hid (A = none → l = []) := fun e => by
    subst e
    cases l with
    | nil => rfl
    | cons x r =>
      obtain ⟨_, _, h, _⟩ := hS (by simp [flatL])
      cases h
  clear hS
  cases A with
  | none =>
    obtain rfl := HN.out rfl
    go_enter Tryz.func29, Tryz.ntmps29
    go_wp2_with fail
    go_ret
    exact ⟨⟨none, ⟨0, rfl⟩, Rd.none_, fun _ e => (by cases e)⟩, below_0 _⟩
  | some ad =>
    go_enter Tryz.func29, Tryz.ntmps29
    go_wp2_with (at_builtin; refine wpList_append_rd _ rfl _ _ 36 rfl w.heap.size 65 i0 (.agg #[.string ⟨#[]⟩, .string ⟨#[]⟩]) 2 32 Tryz.underlying36 hi0 hz0 hz1 hz2 rfl (by decide) _ 0 _ rfl (World.ownsRow_made w #[] 0 (Nat.le_refl _) (Nat.zero_le _) (by simp)) _ _ l.length cap (flatL l) rfl (by rw [length_flatL]; omega) (Rd.below HS.out (below_al (below_0 w) _)) flatL_one (by unfold maxLen; omega) (by omega) (by simp) ?_; intro v' w1 hown hgrow hnil)
    obtain ⟨A2, c2, rfl, hc2, hr2, ha2⟩ := own_rd hown
    go_wp2_with fail
    go_ret
    rw [Nat.zero_add]
    simp only [List.take_zero, Array.toList_empty, List.take_nil, List.nil_append, Nat.zero_mul] at hr2
    exact ⟨⟨A2, c2, rfl, hr2, ha2⟩, ((Below.refl _ w).alloc (Nat.le_refl _) _).grown hgrow (by simp) (by intro k hk; cases hk; exact Nat.le_refl _)⟩
set_option maxRecDepth 100000 in
set_option maxHeartbeats 2000000 in
theorem cloneB_any (A : Option Addr) (l : Hi.Bins) (cap : Nat) (hl : l.length ≤ 1000000) (w : World) (hS : Hi.Sb w w.heap.size A l) :
    Calls Tryz.prog 31 #[.slice A l.length cap] w fun e w' => (∃ A' c', e = .returned (.slice A' l.length c') ∧ Hi.Sb w' w'.heap.size A' l ∧ ∀ ad, A' = some ad → w.heap.size ≤ ad.block) ∧ Below w.heap.size w w' := by
  obtain ⟨i0, hi0, hz0, hz1, hz2⟩ := info_parts Tryz.infoBin
  have q22 : ∀ (w : World) (a : Option Addr) (n c n' c' : Nat), (binOp .eql 44 (.slice a n c) (.slice none n' c')).run Tryz.prog w = .ok (.bool a.isNone) w := fun w a n c n' c' => Lib.run_eql_slice_nil w _ _ a n c n' c' Tryz.underlying44
  have HS := Lib.hid hS
  have HN : Hid (A = none → l = []) := fun e => by
    subst e
    cases l with
    | nil => rfl
    | cons x r =>
      obtain ⟨_, _, h, _⟩ := hS (by simp [Hi.flatB])
      cases h
  clear hS
  cases A with
  | none =>
    obtain rfl := HN.out rfl
    go_enter Tryz.func31, Tryz.ntmps31
    go_wp2_with fail
    go_ret
    exact ⟨⟨none, ⟨0, rfl⟩, Rd.none_, fun _ e => (by cases e)⟩, below_0 _⟩
  | some ad =>
    go_enter Tryz.func31, Tryz.ntmps31
    go_wp2_with (at_builtin; refine wpList_append_rd _ rfl _ _ 44 rfl w.heap.size 69 i0 (.agg #[.int .i64 0, .int .u64 0]) 2 16 Tryz.underlying44 hi0 hz0 hz1 hz2 rfl (by decide) _ 0 _ rfl (World.ownsRow_made w #[] 0 (Nat.le_refl _) (Nat.zero_le _) (by simp)) _ _ l.length cap (Hi.flatB l) rfl (by rw [Hi.length_flatB]; omega) (Rd.below HS.out (below_al (below_0 w) _)) flatB_one (by unfold maxLen; omega) (by omega) (by simp) ?_; intro v' w1 hown hgrow hnil)
    obtain ⟨A2, c2, rfl, hc2, hr2, ha2⟩ := own_rd hown
    go_wp2_with fail
    go_ret
    rw [Nat.zero_add]
    simp only [List.take_zero, Array.toList_empty, List.take_nil, List.nil_append, Nat.zero_mul] at hr2
    exact ⟨⟨A2, c2, rfl, hr2, ha2⟩, ((Below.refl _ w).alloc (Nat.le_refl _) _).grown hgrow (by simp) (by intro k hk; cases hk; exact Nat.le_refl _)⟩
end Go.Proofs.YtoffmclbnobllaaGreatDoor

/-
  slices.IndexFunc and slices.DeleteFunc of stale series.
-/
import Derived.Test.YtoffmclbnobllaaGreatDoorCkCopied
import Derived.Laws.IdiomCopy
namespace Go.Proofs.YtoffmclbnobllaaGreatDoor
open Go.RowKit
set_option linter.unusedVariables false
set_option linter.unusedSimpArgs false
theorem set12 : ∀ (ms : List SerM) (i : Nat) (a0 a1 a2 a3 a4 a5 a6 a7 a8 a9 a10 a11 : Value) (m : SerM), i < ms.length → serC m = [a0, a1, a2, a3, a4, a5, a6, a7, a8, a9, a10, a11] → (((((((((((((tabC ms).set (i * 12) a0).set (i * 12 + 1) a1).set (i * 12 + 2) a2).set (i * 12 + 3) a3).set (i * 12 + 4) a4).set (i * 12 + 5) a5).set (i * 12 + 6) a6).set (i * 12 + 7) a7).set (i * 12 + 8) a8).set (i * 12 + 9) a9).set (i * 12 + 10) a10).set (i * 12 + 11) a11) = tabC (ms.set i m)
  | [], i, _, _, _, _, _, _, _, _, _, _, _, _, _, h, _ => by simp at h
  | y :: ms, 0, _, _, _, _, _, _, _, _, _, _, _, _, m, _, he => by
    rw [List.set_cons_zero]
    unfold tabC
    rw [List.flatMap_cons, List.flatMap_cons, he]
    rfl
  | y :: ms, i + 1, a0, a1, a2, a3, a4, a5, a6, a7, a8, a9, a10, a11, m, h, he => by
    have ih := set12 ms i a0 a1 a2 a3 a4 a5 a6 a7 a8 a9 a10 a11 m (by simpa using h) he
    rw [List.set_cons_succ]
    have e : ∀ l : List SerM, tabC (y :: l) = serC y ++ tabC l := fun l => by simp [tabC]
    rw [e, e, ← ih]
    have s : ∀ (l : List Value) (c : Nat) (u : Value), (serC y ++ l).set ((i + 1) * 12 + c) u = serC y ++ l.set (i * 12 + c) u := fun l c u => by
      rw [List.set_append_right _ _ (by rw [serC_len]; omega), serC_len]
      congr 2; omega
    have s0 : ∀ (l : List Value) (u : Value), (serC y ++ l).set ((i + 1) * 12) u = serC y ++ l.set (i * 12) u := fun l u => s l 0 u
    simp only [s, s0]
theorem own12 {w : World} {B g n cap : Nat} {ms : List SerM} {i : Nat} {m : SerM} (h : w.ownsRow B 50 12 (.slice (some ⟨g, 0, none⟩) n cap) n (tabC ms)) (hi : i < ms.length) (a0 a1 a2 a3 a4 a5 a6 a7 a8 a9 a10 a11 : Value) (he : serC m = [a0, a1, a2, a3, a4, a5, a6, a7, a8, a9, a10, a11]) :
    (World.setCell (World.setCell (World.setCell (World.setCell (World.setCell (World.setCell (World.setCell (World.setCell (World.setCell (World.setCell (World.setCell (World.setCell w ⟨g, i * 12, none⟩ a0) ⟨g, i * 12 + 1, none⟩ a1) ⟨g, i * 12 + 2, none⟩ a2) ⟨g, i * 12 + 3, none⟩ a3) ⟨g, i * 12 + 4, none⟩ a4) ⟨g, i * 12 + 5, none⟩ a5) ⟨g, i * 12 + 6, none⟩ a6) ⟨g, i * 12 + 7, none⟩ a7) ⟨g, i * 12 + 8, none⟩ a8) ⟨g, i * 12 + 9, none⟩ a9) ⟨g, i * 12 + 10, none⟩ a10) ⟨g, i * 12 + 11, none⟩ a11).ownsRow B 50 12 (.slice (some ⟨g, 0, none⟩) n cap) n (tabC (ms.set i m)) ∧ w.grownBy (World.setCell (World.setCell (World.setCell (World.setCell (World.setCell (World.setCell (World.setCell (World.setCell (World.setCell (World.setCell (World.setCell (World.setCell w ⟨g, i * 12, none⟩ a0) ⟨g, i * 12 + 1, none⟩ a1) ⟨g, i * 12 + 2, none⟩ a2) ⟨g, i * 12 + 3, none⟩ a3) ⟨g, i * 12 + 4, none⟩ a4) ⟨g, i * 12 + 5, none⟩ a5) ⟨g, i * 12 + 6, none⟩ a6) ⟨g, i * 12 + 7, none⟩ a7) ⟨g, i * 12 + 8, none⟩ a8) ⟨g, i * 12 + 9, none⟩ a9) ⟨g, i * 12 + 10, none⟩ a10) ⟨g, i * 12 + 11, none⟩ a11) (some g) := by
  have h0 := h.stored (i * 12) a0
  have h1 := h0.1.stored (i * 12 + 1) a1
  have h2 := h1.1.stored (i * 12 + 2) a2
  have h3 := h2.1.stored (i * 12 + 3) a3
  have h4 := h3.1.stored (i * 12 + 4) a4
  have h5 := h4.1.stored (i * 12 + 5) a5
  have h6 := h5.1.stored (i * 12 + 6) a6
  have h7 := h6.1.stored (i * 12 + 7) a7
  have h8 := h7.1.stored (i * 12 + 8) a8
  have h9 := h8.1.stored (i * 12 + 9) a9
  have h10 := h9.1.stored (i * 12 + 10) a10
  have h11 := h10.1.stored (i * 12 + 11) a11
  have := h11.1
  rw [set12 ms i a0 a1 a2 a3 a4 a5 a6 a7 a8 a9 a10 a11 m hi he] at this
  refine ⟨this, ?_⟩
  exact (grow_trans (grow_trans (grow_trans (grow_trans (grow_trans (grow_trans (grow_trans (grow_trans (grow_trans (grow_trans (grow_trans h0.2 h1.2) h2.2) h3.2) h4.2) h5.2) h6.2) h7.2) h8.2) h9.2) h10.2) h11.2)
theorem own_pos {w : World} {B n : Nat} {v : Value} {xs : List Value} (h : w.ownsRow B 50 12 v n xs) (hn : 0 < n) : ∃ g cap arr, v = .slice (some ⟨g, 0, none⟩) n cap ∧ B ≤ g ∧ g < w.heap.size ∧ Blk w g 50 arr ∧ n ≤ cap ∧ cap ≤ 9223372036854775807 := by
  rcases h with ⟨_, ⟨_, h2⟩ | ⟨g, cap, cur, hv, hb, hh, hnc, hcm, _⟩⟩
  · omega
  · exact ⟨g, cap, cur, hv, hb, (Array.getElem?_eq_some_iff.1 hh).1, hh, hnc, by unfold maxLen at hcm; omega⟩
theorem own_shrink {w : World} {B n i g cap sz : Nat} {t : TypeId} {xs : List Value} (h : w.ownsRow B t sz (.slice (some ⟨g, 0, none⟩) n cap) n xs) (hi : i ≤ n) : w.ownsRow B t sz (.slice (some ⟨g, 0, none⟩) i cap) i (xs.take (i * sz)) := by
  rcases h with ⟨h1, ⟨h, _⟩ | ⟨g', cap', cur, hv, hb, hh, hnc, hcm, hcs, htk⟩⟩
  · cases h
  · cases hv
    have hm : i * sz ≤ n * sz := Nat.mul_le_mul_right _ hi
    refine ⟨by rw [List.length_take, h1]; omega, .inr ⟨g, cap, cur, rfl, hb, hh, Nat.le_trans hi hnc, hcm, hcs, ?_⟩⟩
    rw [← htk, List.take_take]
    congr 1; omega
theorem own_setCells {B n g cap sz : Nat} {t : TypeId} : ∀ (vs : List Value) (o : Nat) (w : World) (xs : List Value), w.ownsRow B t sz (.slice (some ⟨g, 0, none⟩) n cap) n xs → ∃ xs', (w.setCells g o vs).ownsRow B t sz (.slice (some ⟨g, 0, none⟩) n cap) n xs' ∧ xs'.take o = xs.take o ∧ w.grownBy (w.setCells g o vs) (some g)
  | [], o, w, xs, h => ⟨xs, h, rfl, World.grownBy.refl w _⟩
  | v :: r, o, w, xs, h => by
    obtain ⟨h1, h2⟩ := h.stored o v
    obtain ⟨xs', k1, k2, k3⟩ := own_setCells r (o + 1) _ _ h1
    refine ⟨xs', k1, ?_, grow_trans h2 k3⟩
    have := congrArg (List.take o) k2
    rw [List.take_take, List.take_take, show min o (o + 1) = o by omega] at this
    rw [this, List.take_set_of_le (Nat.le_refl _)]
theorem Tryz.sizeSer (w : World) : (Go.sizeOf (Tryz.prog.elem 22)).run Tryz.prog w = .ok 12 w := by
  have he : Tryz.prog.elem 22 = 50 := by simp [Program.elem, Tryz.underlying22]
  obtain ⟨i0, hi0, hz0, hz1, hz2⟩ := info_parts Tryz.infoSer
  rw [he]; simp [Go.sizeOf, typeInfo, hi0, hz1]
theorem ser_to (A : Option Addr) (n cap k : Nat) (hk : k ≤ cap) (w : World) :
    (Instr.slice 22 (.slice A n cap) none (some (.int .i64 (k : Int))) none).run Tryz.prog w = .ok (.slice A k cap) w := by
  have ht : Tryz.prog.underlying 22 = some (.slice (Tryz.prog.elem 22)) := by
    have he : Tryz.prog.elem 22 = 50 := by simp [Program.elem, Tryz.underlying22]
    rw [he]; exact Tryz.underlying22
  rw [run_slice_h (P := Tryz.prog) w 22 A n cap ht .i64 (k : Int) (by omega) (by omega), Tryz.sizeSer]
  have e : Option.map (fun x : Addr => x.add 0) A = A := by cases A <;> simp [Addr.add_zero']
  simp [Result.andThen, sliced, e]
def fromS (A : Option Addr) (k cap : Nat) : Option Addr := if cap = k then A else A.map (·.add (k * 12))
theorem ser_from (A : Option Addr) (n cap k : Nat) (hk : k ≤ n) (w : World) :
    (Instr.slice 22 (.slice A n cap) (some (.int .i64 (k : Int))) none none).run Tryz.prog w = .ok (.slice (fromS A k cap) (n - k) (cap - k)) w := by
  have ht : Tryz.prog.underlying 22 = some (.slice (Tryz.prog.elem 22)) := by
    have he : Tryz.prog.elem 22 = 50 := by simp [Program.elem, Tryz.underlying22]
    rw [he]; exact Tryz.underlying22
  rw [run_slice_l (P := Tryz.prog) w 22 A n cap ht .i64 (k : Int) (by omega) (by omega), Tryz.sizeSer]
  simp [Result.andThen, sliced, fromS]
def zeroSer : Array Value := #[.slice none 0 0, .int .i64 0, .int .i64 0, .slice none 0 0, .int .i64 0, .string ⟨#[]⟩, .int .i64 0, .int .i64 0, .slice none 0 0, .int .i64 0, .slice none 0 0, .int .u64 0]
theorem zeroSer_one {n : Nat} : ∀ v ∈ (Builtin.zeroCells zeroSer n).toList, v.oneCell' = true := fun v hv => by
  have h12 : ∀ k, k < 12 → (zeroSer[k]!).oneCell' = true := by decide
  unfold Builtin.zeroCells at hv
  rw [Array.toList_map] at hv
  obtain ⟨i, _, rfl⟩ := List.mem_map.1 hv
  exact h12 _ (Nat.mod_lt _ (by decide))
theorem zeroSer_len (n : Nat) : (Builtin.zeroCells zeroSer n).toList.length = n * 12 := by
  unfold Builtin.zeroCells
  simp
  rfl
/-- clear of the tail of a row of series. -/
theorem run_clear_ser {w : World} {B g n cap k : Nat} {xs : List Value} (h : w.ownsRow B 50 12 (.slice (some ⟨g, 0, none⟩) n cap) n xs) (hk : k ≤ n) (ty : TypeId) :
    ∃ W, (Builtin.clear_ #[22] ty #[.slice (fromS (some ⟨g, 0, none⟩) k cap) (n - k) (cap - k)]).run Tryz.prog w = .ok (.tuple #[]) W ∧ W.ownsRow B 50 12 (.slice (some ⟨g, 0, none⟩) k cap) k (xs.take (k * 12)) ∧ w.grownBy W (some g) := by
  by_cases e : k = n
  · subst e
    refine ⟨w, ?_, own_shrink h (Nat.le_refl _), World.grownBy.refl w _⟩
    rw [Nat.sub_self]
    simp only [Builtin.clear_, Sem.run_bind, run_underlying Tryz.underlying22, Result.andThen]
    cases fromS (some ⟨g, 0, none⟩) k cap <;> simp [run_underlying Tryz.underlying22]
  · have hn : 0 < n := by omega
    obtain ⟨g', cap', arr, e1, hB, hg, hblk, hnc, _⟩ := own_pos h hn
    cases e1
    have ef : fromS (some ⟨g, 0, none⟩) k cap = some ⟨g, k * 12, none⟩ := by
      unfold fromS; rw [if_neg (by omega)]
      show some (Addr.add _ _) = _
      unfold Addr.add
      split
      · rename_i h0; rw [h0]
      · simp
    rw [ef]
    have hlen := zeroSer_len (n - k)
    have hst := run_storeCells_cells (P := Tryz.prog) g (k * 12) (Builtin.zeroCells zeroSer (n - k)).toList 0 w
      (fun j hj => by
        rw [hlen] at hj
        have hlt : k * 12 + 0 + j < n * 12 := by omega
        rw [h.cellAt _ hlt, List.getElem?_eq_getElem (by rw [h.1]; exact hlt)]
        rfl)
      (fun j hj => hblk.frozen _) (zeroSer_one)
    obtain ⟨xs', k1, k2, k3⟩ := own_setCells (Builtin.zeroCells zeroSer (n - k)).toList (k * 12) w xs h
    refine ⟨w.setCells g (k * 12) (Builtin.zeroCells zeroSer (n - k)).toList, ?_, ?_, k3⟩
    · obtain ⟨m, hm⟩ : ∃ m, n - k = m + 1 := ⟨n - k - 1, by omega⟩
      rw [hm] at hst ⊢
      have hz : ∀ w, (zeroValue 50).run Tryz.prog w = .ok (.agg zeroSer) w := fun w => by kernel_rfl
      have hcs : (Value.agg zeroSer).cells = zeroSer := rfl
      simp only [Nat.add_zero] at hst
      simp [Builtin.clear_, run_underlying Tryz.underlying22, hz, hcs, hst]
    · rw [← k2]; exact own_shrink k1 hk
end Go.Proofs.YtoffmclbnobllaaGreatDoor

/-
  Numbers are added to registers at work.
-/
import Derived.Test.YtgbanhjjieagnaaHllWork
import Derived.Test.YtgbanhjjieagnaaIter2
namespace Go.Proofs.Ytgbanhjjieagnaa
open Go.RowKit Go.Shelf
set_option linter.unusedVariables false
attribute [local go_sem] Oper.semAt_some
/-- A register is told a rank. -/
def tellF (l : List Nat) (p r : Nat) : List Nat := l.set p (max (byt l p) r)
def addF (B : Nat) (l : List Nat) (n : Nat) : List Nat := tellF l (atF B n) (rankF B n)
def addAll (B : Nat) (l : List Nat) (ns : List Int) : List Nat := ns.foldl (fun l n => addF B l n.toNat) l
theorem length_addF (B : Nat) (l : List Nat) (n : Nat) : (addF B l n).length = l.length := by simp [addF, tellF]
theorem addAll_snoc (B : Nat) (l : List Nat) (ns : List Int) (n : Int) : addAll B l (ns ++ [n]) = addF B (addAll B l ns) n.toNat := by simp [addAll]
theorem length_addAll (B : Nat) (l : List Nat) (ns : List Int) : (addAll B l ns).length = l.length := by
  induction ns generalizing l with
  | nil => rfl
  | cons n ns ih => exact (ih _).trans (length_addF _ _ _)
/-- Between two rounds of add. -/
def AdI (w : World) (z B g bw cap : Nat) (s : ByteArray) (l : List Nat) (pre : List U64) (W : World) : Prop :=
  By W g (addAll B l (pre.map (·.1))) ∧ Blk W bw 49 (workV B s g l.length cap) ∧ w.grownBy W (some g) ∧ z ≤ W.heap.size
theorem AdI_own {w : World} {z B g bw cap : Nat} {s : ByteArray} {l : List Nat} {Bd : Nat} (hl : 0 < l.length) (hB : w.heap.size ≤ Bd) : OwnFrom Bd (AdI w z B g bw cap s l) := by
  rintro pre W W' row ⟨h1, h2, h4, hz⟩ hg hr
  have hr' : ∀ r, row = some r → ∃ o : Obj, W.heap[r]? = some o ∧ o.isCells = false := fun r e => (hr r e).2
  exact ⟨h1.kept (by rw [length_addAll]; exact hl) hg hr', h2.kept hg hr', ⟨hg.os.trans h4.os, hg.tape.trans h4.tape, hg.output.trans h4.output, Nat.le_trans h4.size hg.size, fun i hi hne => (hg.block i (Nat.lt_of_lt_of_le hi h4.size) (fun e => by have := (hr i e.symm).1; omega)).trans (h4.block i hi hne)⟩, Nat.le_trans hz hg.size⟩
set_option maxRecDepth 100000 in
set_option maxHeartbeats 2000000 in
theorem wadd_in (B g cap capn : Nat) (s : ByteArray) (A : Option Addr) (l : List Nat) (ns : List Int) (hB : 3 ≤ B) (hB8 : B ≤ 8) (hl : l.length = 2 ^ B) (hU : Us ns) (hn : ns.length ≤ 65536) (w : World) (hS : Sl w w.heap.size A ns) (hne : ns ≠ [] → ∀ ad, A = some ad → ad.block ≠ g) (h : By w g l) :
    CallsIn Fence.wide 6 Try.prog 31 #[.agg (workV B s g l.length cap), .slice A ns.length capn] w fun e w' => (∃ v, e = .returned v) ∧ By w' g (addAll B l ns) ∧ w.grownBy w' (some g) := by
  have hl0 : 0 < l.length := by rw [hl]; exact Nat.two_pow_pos B
  have hl256 : l.length ≤ 256 := by rw [hl]; exact Nat.le_trans (Nat.pow_le_pow_right (by decide) hB8) (by decide)
  have HL := Lib.hid hl
  obtain ⟨zs, hzs⟩ := exists_u64 ns hU
  have HZ := Lib.hid hzs
  have zg := h.lt
  clear hl hzs
  refine callsIn_of_wp_marks Try.func31 rfl trivial ?_ rfl
  simp only [Try.ntmps31, List.size_toArray, List.length_cons, List.length_nil, Nat.reduceAdd, Nat.reduceSub, Array.replicate_succ, Array.replicate_zero, List.push_toArray, List.append_toArray, List.nil_append, List.cons_append]
  refine wpIn_wide.2 ?_
  go_wp2_with fail
  refine (values_any _ _ _ _).mono ?_
  rintro e w' ⟨rfl, rfl⟩
  go_wp2_with fail
  have hb0 : Below w.heap.size w ((w.alloc (.cells (workV B s g l.length cap) 49)).alloc (.cells #[.slice A ns.length capn] 24)) := below_al (below_al (below_0 _) _) _
  have hX : Blk ((w.alloc (.cells (workV B s g l.length cap) 49)).alloc (.cells #[.slice A ns.length capn] 24)) w.heap.size 49 (workV B s g l.length cap) := (Blk.new w _ _).alloc _
  have hY : Blk ((w.alloc (.cells (workV B s g l.length cap) 49)).alloc (.cells #[.slice A ns.length capn] 24)) (w.heap.size + 1) 24 #[.slice A ns.length capn] := by
    have := Blk.new (w.alloc (.cells (workV B s g l.length cap) 49)) 24 #[.slice A ns.length capn]
    rwa [World.size_alloc] at this
  have hst : AdI w (w.heap.size + 2) B g w.heap.size cap s l [] ((w.alloc (.cells (workV B s g l.length cap) 49)).alloc (.cells #[.slice A ns.length capn] 24)) := ⟨(h.alloc _).alloc _, hX, grow_of_below hb0 _, by simp⟩
  have hsz : ((w.alloc (.cells (workV B s g l.length cap) 49)).alloc (.cells #[.slice A ns.length capn] 24)).heap.size = w.heap.size + 2 := by simp
  have hS0 := hS.later hb0
  generalize ((w.alloc (.cells (workV B s g l.length cap) 49)).alloc (.cells #[.slice A ns.length capn] 24)) = V at *
  refine (wpIn_wide (n := 6)).1 ?_
  refine wpIn_rangeFunc_ownF rfl (by omega) (gf := 43) (lb := #[.pointer (some ⟨w.heap.size + 1, 0, none⟩)]) rfl trivial (enters_of Try.func43 (by kernel_rfl) rfl)
    (values_stops 5 (by omega) (w.heap.size + 1) g capn A zs ns HZ.out hn V (by omega) hne hY hS0) (fun h k => keepBut_t h k) (keepBut_b (Nat.le_refl _)) (Below.refl _ _) (fun _ => rfl)
    (AdI w (w.heap.size + 2) B g w.heap.size cap s l) (fun _ _ _ => False) (AdI_own hl0 (by omega)) (fun _ _ _ _ _ h _ _ => h) hst
    (fun x => { tmps := #[.agg (workV B s g l.length cap), .slice A ns.length capn, .pointer (some ⟨w.heap.size, 0, none⟩), undef, .int .u64 x.1, undef, undef, .slice A ns.length capn, .func (.func 43) #[] #[.pointer (some ⟨w.heap.size + 1, 0, none⟩)], .int .u64 x.1, undef, undef, undef, undef, undef, undef, undef, undef, undef, undef, undef, undef, undef], defers := [] }) ?assign ?body ?done ?stop
  case assign =>
    intro l x W K hK
    gi_wp2
    exact hK
  case body =>
    rintro l' pre ⟨xi, hxi⟩ W ⟨hG, hw, hgr, hzz⟩ hlt
    obtain ⟨n, rfl⟩ : ∃ n : Nat, xi = n := ⟨xi.toNat, by have := hxi.1; omega⟩
    have hn64 : n < 18446744073709551616 := by have := hxi.2; omega
    obtain ⟨L, hL⟩ : ∃ L, addAll B l (pre.map (·.1)) = L := ⟨_, rfl⟩
    have HLs : Hid (addAll B l ((pre ++ [(⟨(n : Int), hxi⟩ : U64)]).map (·.1)) = addF B L n) := by
      show _ = _
      rw [List.map_append, ← hL]
      exact addAll_snoc B l _ (n : Int)
    have hLl : L.length = l.length := by rw [← hL]; exact length_addAll _ _ _
    rw [hL] at hG
    clear hL
    have hat : atF B n < L.length := by rw [hLl, HL.out]; exact at_lt (by omega) hn64
    obtain ⟨rk1, rk2⟩ := rank_bd hB hB8 n
    have HW := Lib.hid hw
    have HG := Lib.hid hG
    have HLL := Lib.hid hLl
    have c0 : W.cell? ⟨w.heap.size, 0, none⟩ = some (.int .i64 B) := hw.cell 0
    have c1 : W.cell? ⟨w.heap.size, 1, none⟩ = some (.string s) := hw.cell 1
    have c2 : W.cell? ⟨w.heap.size, 2, none⟩ = some (.slice (some ⟨g, 0, none⟩) l.length cap) := hw.cell 2
    have c3 : W.cell? ⟨w.heap.size, 3, none⟩ = some (.func (.func 39) #[] #[]) := hw.cell 3
    clear hG hw hLl
    gi_wp2_with fail
    refine ⟨trivial, ?_⟩
    refine (CallsIn.inRound l' (callsIn_wide.2 (place_good B n hB hB8 hn64 W))).mono ?_
    rintro e w' ⟨rfl, rfl⟩
    gi_wp2_with fail
    refine ⟨trivial, ?_⟩
    have HT : Hid (Calls Try.prog 38 #[.agg (workV B s g l.length cap), .int .i64 ((atF B n : Nat) : Int), .int .u8 ((rankF B n : Nat) : Int)] W fun e w' => (∃ v, e = .returned v) ∧ By w' g (addF B L n) ∧ W.grownBy w' (some g)) := by
      have := tell_any B s g cap (atF B n) (rankF B n) L W hat (by rw [HLL.out]; omega) HG.out
      rw [HLL.out] at this
      exact this
    refine (CallsIn.inRound l' (callsIn_wide.2 HT.out)).mono ?_
    rintro e W2 ⟨⟨v, rfl⟩, hB2, hg2⟩
    gi_wp2_with fail
    refine ⟨KeepsOthers.of_grownBy hg2 (fun j o e ho => by cases e; exact HG.out.cells_ (by omega) ho), keepBut_grow (by omega) hg2, ?_, HW.out.grown hg2 (fun e => by cases e; omega), grow_trans hgr hg2, Nat.le_trans hzz hg2.size⟩
    · rw [HLs.out]; exact hB2
  case done =>
    rintro D ys W hD rfl ⟨hG, hw, hgr, hzz⟩ hK
    rw [HZ.out] at hG
    gi_wp2
    refine ⟨by simp, .inl ⟨_, _, rfl, run_takeDeferred hK, ?_⟩⟩
    have hr' : ∀ r, some D = some r → ∃ o : Obj, W.heap[r]? = some o ∧ o.isCells = false := fun r e => by cases e; exact ⟨_, hK, rfl⟩
    exact ⟨.tuple #[], results_none rfl _ _ _, ⟨_, rfl⟩, hG.kept (by rw [length_addAll]; exact hl0) (grownBy_putObj' _ D (.deferred none)) hr', (AdI_own (Bd := V.heap.size) hl0 (by omega) ys W _ (some D) ⟨by rw [HZ.out]; exact hG, hw, hgr, hzz⟩ (grownBy_putObj' _ D (.deferred none)) (fun r e => by cases e; exact ⟨hD, _, hK, rfl⟩)).2.2.1⟩
  case stop =>
    rintro D c pre W _ _ h _
    exact h.elim
end Go.Proofs.Ytgbanhjjieagnaa

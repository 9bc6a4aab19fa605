/-
  The walk of (hist.work).put: n more at a place of the map.
-/
import Derived.Test.YtopddcabaiicgaaHistRight
import Derived.Test.YtopddcabaiicgaaHistMap
import Derived.Test.YtopddcabaiicgaaHeldU
namespace Go.Proofs.Ytopddcabaiicgaa
open Go.RowKit
set_option linter.unusedVariables false
set_option linter.unusedSimpArgs false
/-- Block B is a map of at most k entries that reads as bins. -/
def Mp (w : World) (B k : Nat) (m : Bins) : Prop := w.ownsMap Try.prog 3 (plainElem Try.prog 22) B k (dm m)
theorem law : Maps.Keyed Try.prog 3 := Maps.int_keyed Try.underlying3
theorem zeroE (w : World) : (zeroValue 22).run Try.prog w = .ok (.int .u64 0) w := by kernel_rfl
theorem wf_i64 {a : Int} (h : I64 a) : (Lit.int .i64 a).wf = true := WalkArith.wf_i64 h
theorem wf_u64 {a : Int} (h : U a) : (Lit.int .u64 a).wf = true := WalkArith.wf_u64 h
theorem getL_U {m : Bins} (h : UB m) (a : Int) : U (getL m a) := by
  induction m with
  | nil => simp [getL, U]
  | cons x m ih =>
    obtain ⟨h1, h2⟩ := h.cons
    unfold getL; split
    · exact h1
    · exact ih h2
theorem Mp.look {w : World} {B k : Nat} {m : Bins} (h : Mp w B k m) {a : Int} (ha : I64 a) : (Instr.lookup 57 (.map (some B)) (.int .i64 a) false).run Try.prog w = .ok (.int .u64 (getL m a)) w := by
  obtain ⟨c, hrun, hat, _⟩ := World.ownsMap.lookup_int h law Try.underlying57 Try.underlying22 (zeroE _) (Maps.keyOf_int_mk Try.underlying3 (wf_i64 ha))
  rw [dm_at] at hat
  have : c = getL m a := (Lit.int.inj (DataW.lit.inj hat)).2.symm
  rw [← this]; exact hrun
theorem Mp.update {w : World} {B k : Nat} {m : Bins} (h : Mp w B k m) (hk : k < maxLen) (hm : Rise m) (hU : UB m) {a n : Int} (ha : I64 a) (hn : U n) :
    ∃ w', (Instr.mapUpdate 57 (.map (some B)) (.int .i64 a) (.int .u64 (sat (getL m a) n))).run Try.prog w = .ok () w' ∧ Mp w' B (k + 1) (putL m a n) ∧ w.grownBy w' (some B) := by
  obtain ⟨w', h1, h2, h3⟩ := World.ownsMap.update h law Try.underlying57 hk (Maps.keyOf_int_mk Try.underlying3 (wf_i64 ha)) (plainElem_int Try.underlying22 (wf_u64 (sat_U (getL_U hU a) hn)))
  exact ⟨w', h1, by unfold Mp; rw [← dm_put hm hn]; exact h2, h3⟩
theorem Mp.alloc {w : World} {B k : Nat} {m : Bins} (h : Mp w B k m) (o : Obj) : Mp (w.alloc o) B k m := World.ownsMap.alloc h o
theorem Mp.lt {w : World} {B k : Nat} {m : Bins} (h : Mp w B k m) : B < w.heap.size := World.ownsMap.lt h
theorem Mp.later {w w' : World} {B k : Nat} {m : Bins} (h : Mp w B k m) (hb : Below w.heap.size w w') : Mp w' B k m := World.ownsMap.kept h (grow_of_below hb none) (by simp)
theorem Mp.mono {w : World} {B k k' : Nat} {m : Bins} (h : Mp w B k m) (hk : k ≤ k') : Mp w B k' m := World.ownsMap.mono h hk
theorem Mp.keep {w w' : World} {B k : Nat} {m : Bins} {row : Option Nat} (h : Mp w B k m) (hg : w.grownBy w' row) (hne : some B ≠ row) : Mp w' B k m := World.ownsMap.kept h hg hne
set_option maxRecDepth 100000 in
set_option maxHeartbeats 2000000 in
theorem put_any (m : Bins) (f a n : Int) (B k : Nat) (hm : Rise m) (hU : UB m) (ha : I64 a) (hn : U n) (w : World) (hM : Mp w B k m) (hk : k < maxLen) :
    Calls Try.prog 38 #[.agg #[.map (some B), .int .i64 f], .int .i64 a, .int .u64 n] w fun e w' => e = .returned (.tuple #[]) ∧ Mp w' B (k + 1) (putL m a n) ∧ w.grownBy w' (some B) := by
  have X := Lib.hid (Blk.new w 59 #[.map (some B), .int .i64 f])
  have M0 := Lib.hid (hM.alloc (.cells #[.map (some B), .int .i64 f] 59))
  have G0 := Lib.hid (below_al (below_0 w) (.cells #[.map (some B), .int .i64 f] 59))
  have hB := hM.lt
  have hg := getL_U hU a
  have HM := Lib.hid hM
  clear hM
  go_enter Try.func38, Try.ntmps38
  go_wp2_with fail
  generalize w.alloc (.cells #[.map (some B), .int .i64 f] 59) = w0 at *
  have x0 := X.out.d0
  have zx := X.out.lt
  refine wp_region_U (S := fun w' => w'.cell? ⟨w.heap.size, 0, none⟩ = some (.map (some B)) ∧ Mp w' B k m) (s := 10) (by kernel_rfl) ?_
  refine wpAnyU_take (i := 0) (v := (.pointer (some ⟨w.heap.size, 0, none⟩))) rfl (by kernel_rfl) (by kernel_rfl) (by kernel_rfl) (by kernel_rfl) (by decide) (by kernel_rfl) (fun _ _ _ h => h) (Or.inl ⟨by rfl, ?_⟩) ⟨x0, M0.out⟩ ?_
  · (intro w hSw; (try dsimp only at hSw); (try obtain ⟨s0, s1⟩ := hSw); go_simp)
  simp only [Act.put, List.setIfInBounds_toArray, List.set_cons_zero, List.set_cons_succ]
  refine wpAnyU_take (i := 1) (v := (.map (some B))) rfl (by kernel_rfl) (by kernel_rfl) (by kernel_rfl) (by kernel_rfl) (by decide) (by kernel_rfl) (fun _ _ _ h => h) (Or.inl ⟨by rfl, ?_⟩) ⟨x0, M0.out⟩ ?_
  · (intro w hSw; (try dsimp only at hSw); (try obtain ⟨s0, s1⟩ := hSw); go_simp)
  simp only [Act.put, List.setIfInBounds_toArray, List.set_cons_zero, List.set_cons_succ]
  refine wpAnyU_take (i := 2) (v := (.int .i64 a)) rfl (by kernel_rfl) (by kernel_rfl) (by kernel_rfl) (by kernel_rfl) (by decide) (by kernel_rfl) (fun _ _ _ h => h) (Or.inl ⟨by rfl, ?_⟩) ⟨x0, M0.out⟩ ?_
  · (intro w hSw; (try dsimp only at hSw); (try obtain ⟨s0, s1⟩ := hSw); go_simp)
  simp only [Act.put, List.setIfInBounds_toArray, List.set_cons_zero, List.set_cons_succ]
  refine wpAnyU_take (i := 3) (v := (.pointer (some ⟨w.heap.size, 0, none⟩))) rfl (by kernel_rfl) (by kernel_rfl) (by kernel_rfl) (by kernel_rfl) (by decide) (by kernel_rfl) (fun _ _ _ h => h) (Or.inl ⟨by rfl, ?_⟩) ⟨x0, M0.out⟩ ?_
  · (intro w hSw; (try dsimp only at hSw); (try obtain ⟨s0, s1⟩ := hSw); go_simp)
  simp only [Act.put, List.setIfInBounds_toArray, List.set_cons_zero, List.set_cons_succ]
  refine wpAnyU_take (i := 4) (v := (.map (some B))) rfl (by kernel_rfl) (by kernel_rfl) (by kernel_rfl) (by kernel_rfl) (by decide) (by kernel_rfl) (fun _ _ _ h => h) (Or.inl ⟨by rfl, ?_⟩) ⟨x0, M0.out⟩ ?_
  · (intro w hSw; (try dsimp only at hSw); (try obtain ⟨s0, s1⟩ := hSw); go_simp)
  simp only [Act.put, List.setIfInBounds_toArray, List.set_cons_zero, List.set_cons_succ]
  refine wpAnyU_take (i := 5) (v := (.int .i64 a)) rfl (by kernel_rfl) (by kernel_rfl) (by kernel_rfl) (by kernel_rfl) (by decide) (by kernel_rfl) (fun _ _ _ h => h) (Or.inl ⟨by rfl, ?_⟩) ⟨x0, M0.out⟩ ?_
  · (intro w hSw; (try dsimp only at hSw); (try obtain ⟨s0, s1⟩ := hSw); go_simp)
  simp only [Act.put, List.setIfInBounds_toArray, List.set_cons_zero, List.set_cons_succ]
  refine wpAnyU_take (i := 6) (v := (.int .u64 (getL m a))) rfl (by kernel_rfl) (by kernel_rfl) (by kernel_rfl) (by kernel_rfl) (by decide) (by kernel_rfl) (fun _ _ _ h => h) (Or.inl ⟨by rfl, ?_⟩) ⟨x0, M0.out⟩ ?_
  · (intro w hSw; obtain ⟨s0, s1⟩ := hSw; have s2 := Mp.look s1 ha; go_simp)
  simp only [Act.put, List.setIfInBounds_toArray, List.set_cons_zero, List.set_cons_succ]
  refine wpAnyU_take (i := 7) (v := (.int .u64 n)) rfl (by kernel_rfl) (by kernel_rfl) (by kernel_rfl) (by kernel_rfl) (by decide) (by kernel_rfl) (fun _ _ _ h => h) (Or.inl ⟨by rfl, ?_⟩) ⟨x0, M0.out⟩ ?_
  · (intro w hSw; (try dsimp only at hSw); (try obtain ⟨s0, s1⟩ := hSw); go_simp)
  simp only [Act.put, List.setIfInBounds_toArray, List.set_cons_zero, List.set_cons_succ]
  refine wpAnyU_one (i := 8) (by kernel_rfl) rfl (fun K hK => ?_)
  go_simp
  have M1 := Lib.hid (M0.out.alloc (.cells #[.int .u64 (getL m a), .int .u64 n] 22))
  have hb1 := below_al (below_0 w0) (.cells #[.int .u64 (getL m a), .int .u64 n] 22)
  have X1 := Lib.hid (X.out.later hb1)
  have Y1 := Lib.hid (Blk.new w0 22 #[.int .u64 (getL m a), .int .u64 n])
  have G1 := Lib.hid (G0.out.trans (hb1.mono (by omega)))
  have G1 := Lib.hid (below_drewN G1.out 1)
  clear hb1
  have M1 : Hid (Mp (w0.alloc (.cells #[.int .u64 (getL m a), .int .u64 n] 22)).drew B k m) := M1
  have X1 : Hid (Blk (w0.alloc (.cells #[.int .u64 (getL m a), .int .u64 n] 22)).drew w.heap.size 59 #[.map (some B), .int .i64 f]) := X1
  have Y1 : Hid (Blk (w0.alloc (.cells #[.int .u64 (getL m a), .int .u64 n] 22)).drew w0.heap.size 22 #[.int .u64 (getL m a), .int .u64 n]) := Y1
  have G1 : Hid (Below w.heap.size w (w0.alloc (.cells #[.int .u64 (getL m a), .int .u64 n] 22)).drew) := G1
  generalize (w0.alloc (.cells #[.int .u64 (getL m a), .int .u64 n] 22)).drew = w1 at *
  have x1 := X1.out.d0
  have y0 := Y1.out.d0
  have y1 := Y1.out.d1
  clear x0
  refine hK.out _ _ (fun _ => ⟨x1, M1.out⟩) ?_
  clear hK K
  try simp only [Act.put, List.setIfInBounds_toArray, List.set_cons_zero, List.set_cons_succ]
  refine wpAnyU_one (i := 9) (by kernel_rfl) rfl (fun K hK => ?_)
  go_simp
  refine (together_any (getL m a) n hg hn _ w0.heap.size 0 2 y0 y1).mono ?_
  rintro e w2 ⟨rfl, rfl⟩
  refine hK.out _ _ (fun _ => ⟨x1, M1.out⟩) ?_
  clear hK K
  try simp only [Act.put, List.setIfInBounds_toArray, List.set_cons_zero, List.set_cons_succ]
  refine wpAnyU_one (i := 10) (by kernel_rfl) rfl (fun K hK => ?_)
  obtain ⟨w3, hrun, M3, G3⟩ := M1.out.update hk hm hU ha hn
  have HM3 := Lib.hid M3
  clear M3
  go_simp
  refine hK.out _ _ (fun h => by cases h) ?_
  clear hK K
  try simp only [Act.put, List.setIfInBounds_toArray, List.set_cons_zero, List.set_cons_succ]
  refine wpAnyU_done (by kernel_rfl) ?_ _
  go_wp2_with fail
  exact bodyPost_end (v := .tuple #[]) (by simp [results, Try.results38, go_sem]) rfl ⟨rfl, HM3.out, grow_trans (grow_of_below G1.out _) G3⟩
end Go.Proofs.Ytopddcabaiicgaa

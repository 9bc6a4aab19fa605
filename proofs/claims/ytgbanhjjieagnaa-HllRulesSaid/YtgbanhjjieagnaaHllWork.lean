/-
  Registers at work: tell, done.
-/
import Derived.Test.YtgbanhjjieagnaaHllWalk1
import Derived.Test.YtgbanhjjieagnaaBytes
import Derived.Deep.RegionHeld3
namespace Go.Proofs.Ytgbanhjjieagnaa
open Go.RowKit
set_option linter.unusedVariables false
set_option linter.unusedSimpArgs false
/-- The cells of registers at work. -/
abbrev workV (b : Int) (s : ByteArray) (g n cap : Nat) : Array Value := #[.int .i64 b, .string s, .slice (some ⟨g, 0, none⟩) n cap, .func (.func 39) #[] #[]]
theorem greater_any (a b : Nat) (w : World) : Calls Try.prog 39 #[.int .u8 (a : Int), .int .u8 (b : Int)] w fun e w' => e = .returned (.int .u8 ((max a b : Nat) : Int)) ∧ w = w' := by
  by_cases h : b < a
  · have e : max a b = a := by omega
    rw [e]
    go_enter Try.func39, Try.ntmps39
    go_wp2
    all_goals go_ret
    all_goals exact ⟨ret_int (by omega), rfl⟩
  · have e : max a b = b := by omega
    rw [e]
    go_enter Try.func39, Try.ntmps39
    go_wp2
    all_goals go_ret
    all_goals exact ⟨ret_int (by omega), rfl⟩
theorem grow_drew2 {a w : World} {row : Option Nat} (h : a.grownBy w row) : a.grownBy w.drew row := ⟨h.os, h.tape, h.output, h.size, h.block⟩
set_option maxHeartbeats 1000000 in
theorem tell_any (b : Int) (s : ByteArray) (g cap p r : Nat) (l : List Nat) (w : World) (hp : p < l.length) (hl : l.length ≤ 65536) (h : By w g l) :
    Calls Try.prog 38 #[.agg (workV b s g l.length cap), .int .i64 p, .int .u8 r] w fun e w' => (∃ v, e = .returned v) ∧ By w' g (l.set p (max (byt l p) r)) ∧ w.grownBy w' (some g) := by
  have X := Blk.new w 49 (workV b s g l.length cap)
  have c2 : (w.alloc (.cells (workV b s g l.length cap) 49)).cell? ⟨w.heap.size, 2, none⟩ = some (.slice (some ⟨g, 0, none⟩) l.length cap) := X.cell 2
  have c3 : (w.alloc (.cells (workV b s g l.length cap) 49)).cell? ⟨w.heap.size, 3, none⟩ = some (.func (.func 39) #[] #[]) := X.cell 3
  have H := Lib.hid (h.alloc (.cells (workV b s g l.length cap) 49))
  have zg := h.lt
  have cg := H.out.cell p hp
  have fg := H.out.free p hp
  have hx1 : (0 : Int) ≤ (p : Int) := by omega
  have hx2 : (p : Int) < (l.length : Int) := by omega
  have HG : Hid (w.grownBy (w.alloc (.cells (workV b s g l.length cap) 49)) (some g)) := grow_of_below (below_al (below_0 _) _) _
  clear X h
  go_enter Try.func38, Try.ntmps38
  go_wp2_with fail
  generalize w.alloc (.cells (workV b s g l.length cap) 49) = V at *
  refine wp_region_held_drew (S := fun w' => w'.cell? ⟨w.heap.size, 2, none⟩ = some (.slice (some ⟨g, 0, none⟩) l.length cap) ∧ w'.cell? ⟨w.heap.size, 3, none⟩ = some (.func (.func 39) #[] #[])) (by kernel_rfl) ⟨c2, c3⟩ (fun hHeld => ?_)
  refine wpAnyH_take (i := 0) (v := (.pointer (some ⟨w.heap.size, 2, none⟩))) rfl (by kernel_rfl) (by kernel_rfl) (by kernel_rfl) (fun _ _ _ h => h) (Or.inl ⟨by rfl, ?_⟩) hHeld ?_
  · (intro w hSw; (try dsimp only at hSw); (try obtain ⟨s0, s1⟩ := hSw); go_simp)
  simp only [Act.put, List.setIfInBounds_toArray, List.set_cons_zero, List.set_cons_succ]
  refine wpAnyH_take (i := 1) (v := (.slice (some ⟨g, 0, none⟩) l.length cap)) rfl (by kernel_rfl) (by kernel_rfl) (by kernel_rfl) (fun _ _ _ h => h) (Or.inl ⟨by rfl, ?_⟩) hHeld ?_
  · (intro w hSw; (try dsimp only at hSw); (try obtain ⟨s0, s1⟩ := hSw); go_simp)
  simp only [Act.put, List.setIfInBounds_toArray, List.set_cons_zero, List.set_cons_succ]
  refine wpAnyH_take (i := 2) (v := (.int .i64 (p : Int))) rfl (by kernel_rfl) (by kernel_rfl) (by kernel_rfl) (fun _ _ _ h => h) (Or.inl ⟨by rfl, ?_⟩) hHeld ?_
  · (intro w hSw; (try dsimp only at hSw); (try obtain ⟨s0, s1⟩ := hSw); go_simp)
  simp only [Act.put, List.setIfInBounds_toArray, List.set_cons_zero, List.set_cons_succ]
  refine wpAnyH_take (i := 3) (v := (.pointer (some ⟨w.heap.size, 3, none⟩))) rfl (by kernel_rfl) (by kernel_rfl) (by kernel_rfl) (fun _ _ _ h => h) (Or.inl ⟨by rfl, ?_⟩) hHeld ?_
  · (intro w hSw; (try dsimp only at hSw); (try obtain ⟨s0, s1⟩ := hSw); go_simp)
  simp only [Act.put, List.setIfInBounds_toArray, List.set_cons_zero, List.set_cons_succ]
  refine wpAnyH_take (i := 4) (v := (.func (.func 39) #[] #[])) rfl (by kernel_rfl) (by kernel_rfl) (by kernel_rfl) (fun _ _ _ h => h) (Or.inl ⟨by rfl, ?_⟩) hHeld ?_
  · (intro w hSw; (try dsimp only at hSw); (try obtain ⟨s0, s1⟩ := hSw); go_simp)
  simp only [Act.put, List.setIfInBounds_toArray, List.set_cons_zero, List.set_cons_succ]
  refine wpAnyH_take (i := 5) (v := (.pointer (some ⟨w.heap.size, 2, none⟩))) rfl (by kernel_rfl) (by kernel_rfl) (by kernel_rfl) (fun _ _ _ h => h) (Or.inl ⟨by rfl, ?_⟩) hHeld ?_
  · (intro w hSw; (try dsimp only at hSw); (try obtain ⟨s0, s1⟩ := hSw); go_simp)
  simp only [Act.put, List.setIfInBounds_toArray, List.set_cons_zero, List.set_cons_succ]
  refine wpAnyH_take (i := 6) (v := (.slice (some ⟨g, 0, none⟩) l.length cap)) rfl (by kernel_rfl) (by kernel_rfl) (by kernel_rfl) (fun _ _ _ h => h) (Or.inl ⟨by rfl, ?_⟩) hHeld ?_
  · (intro w hSw; (try dsimp only at hSw); (try obtain ⟨s0, s1⟩ := hSw); go_simp)
  simp only [Act.put, List.setIfInBounds_toArray, List.set_cons_zero, List.set_cons_succ]
  refine wpAnyH_take (i := 7) (v := (.int .i64 (p : Int))) rfl (by kernel_rfl) (by kernel_rfl) (by kernel_rfl) (fun _ _ _ h => h) (Or.inl ⟨by rfl, ?_⟩) hHeld ?_
  · (intro w hSw; (try dsimp only at hSw); (try obtain ⟨s0, s1⟩ := hSw); go_simp)
  simp only [Act.put, List.setIfInBounds_toArray, List.set_cons_zero, List.set_cons_succ]
  refine wpAnyH_take (i := 8) (v := (.pointer (some ⟨g, p, none⟩))) rfl (by kernel_rfl) (by kernel_rfl) (by kernel_rfl) (fun _ _ _ h => h) (Or.inl ⟨by rfl, ?_⟩) hHeld ?_
  · (intro w hSw; (try dsimp only at hSw); (try obtain ⟨s0, s1⟩ := hSw); go_simp)
  simp only [Act.put, List.setIfInBounds_toArray, List.set_cons_zero, List.set_cons_succ]
  refine wpAnyH_take (i := 10) (v := (.int .u8 (r : Int))) rfl (by kernel_rfl) (by kernel_rfl) (by kernel_rfl) (fun _ _ _ h => h) (Or.inl ⟨by rfl, ?_⟩) hHeld ?_
  · (intro w hSw; (try dsimp only at hSw); (try obtain ⟨s0, s1⟩ := hSw); go_simp)
  simp only [Act.put, List.setIfInBounds_toArray, List.set_cons_zero, List.set_cons_succ]
  refine wpAnyH_ready (rs := [9]) (by kernel_rfl) (by simp) ?_
  refine AllReadyH.cons rfl (fun K hK => ?_) AllReadyH.nil
  go_simp
  refine hK.out _ _ ⟨c2, c3⟩ (fun hHeld => ?_)
  clear hK K
  try simp only [Act.put, List.setIfInBounds_toArray, List.set_cons_zero, List.set_cons_succ]
  refine wpAnyH_ready (rs := [11]) (by kernel_rfl) (by simp) ?_
  refine AllReadyH.cons rfl (fun K hK => ?_) AllReadyH.nil
  go_simp
  refine (greater_any (byt l p) r _).mono ?_
  rintro e w' ⟨rfl, rfl⟩
  refine hK.out _ _ ⟨c2, c3⟩ (fun hHeld => ?_)
  clear hK K
  try simp only [Act.put, List.setIfInBounds_toArray, List.set_cons_zero, List.set_cons_succ]
  refine wpAnyH_take (i := 12) (v := (.pointer (some ⟨g, p, none⟩))) rfl (by kernel_rfl) (by kernel_rfl) (by kernel_rfl) (fun _ _ _ h => h) (Or.inl ⟨by rfl, ?_⟩) hHeld ?_
  · (intro w hSw; (try dsimp only at hSw); (try obtain ⟨s0, s1⟩ := hSw); go_simp)
  simp only [Act.put, List.setIfInBounds_toArray, List.set_cons_zero, List.set_cons_succ]
  refine wpAnyH_ready (rs := [13]) (by kernel_rfl) (by simp) ?_
  refine AllReadyH.cons rfl (fun K hK => ?_) AllReadyH.nil
  go_simp
  refine hK.out _ _ ⟨(by show (V.setCell _ _).cell? _ = _; rw [World.cell?_setCell_other _ _ _ _ (fun e => by injection e with e1 _; omega)]; exact c2), (by show (V.setCell _ _).cell? _ = _; rw [World.cell?_setCell_other _ _ _ _ (fun e => by injection e with e1 _; omega)]; exact c3)⟩ (fun hHeld => ?_)
  clear hK K
  try simp only [Act.put, List.setIfInBounds_toArray, List.set_cons_zero, List.set_cons_succ]
  refine wpAnyH_done (by kernel_rfl) ?_ _
  have HB2 : Hid (By (V.setCell ⟨g, p, none⟩ (.int .u8 ((max (byt l p) r : Nat) : Int))).drew g (l.set p (max (byt l p) r))) := (H.out.set hp (max (byt l p) r)).drew
  have HG2 : Hid (w.grownBy (V.setCell ⟨g, p, none⟩ (.int .u8 ((max (byt l p) r : Nat) : Int))).drew (some g)) := grow_drew2 (grow_trans HG.out (grow_set1 V g p _))
  clear c2 c3 cg fg
  go_wp2_with fail
  go_end0
  exact ⟨⟨_, rfl⟩, HB2.out, HG2.out⟩
theorem done_any (b : Int) (s : ByteArray) (g cap : Nat) (l : List Nat) (w : World) (hB : Bytes l) (h : By w g l) :
    Calls Try.prog 32 #[.agg (workV b s g l.length cap)] w fun e w' => e = .returned (.agg #[.int .i64 b, .string (bs l)]) ∧ Below w.heap.size w w' := by
  have hcv : ∀ W, By W g l → (convert 46 9 (.slice (some ⟨g, 0, none⟩) l.length cap)).run Try.prog W = .ok (.string (bs l)) W := fun W hW => run_string_of W 46 9 5 g cap l Try.underlying46 Try.underlying5 Try.underlying9 hW hB
  have H1 := h.alloc (.cells (workV b s g l.length cap) 49)
  have H2 := H1.alloc (.cells #[.int .i64 0, .string ⟨#[]⟩] 23)
  have hc2 := hcv _ H2
  clear hcv H1 H2
  go_enter Try.func32, Try.ntmps32
  go_wp2_with fail
  exact bodyPost_ret (v := .agg #[.int .i64 b, .string (bs l)]) (by simp [results, Try.results32, go_sem]) rfl ⟨rfl, below_al (below_al (below_0 _) _) _⟩
end Go.Proofs.Ytgbanhjjieagnaa

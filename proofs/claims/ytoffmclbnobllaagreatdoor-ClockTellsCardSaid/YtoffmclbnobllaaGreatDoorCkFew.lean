/-
  The laws' Few of the sketches.
-/
import Derived.Test.YtoffmclbnobllaaGreatDoorCkExpire
namespace Go.Proofs.YtoffmclbnobllaaGreatDoor
open Go.RowKit
set_option linter.unusedVariables false
set_option linter.unusedSimpArgs false
set_option maxRecDepth 100000 in
set_option maxHeartbeats 4000000 in
theorem few6_any (A : Option Addr) (n cap k : Nat) (hk : k = min n 70) (hc : n ≤ cap) (w : World) :
    Calls Tryz.prog 37 #[.agg #[.slice A n cap]] w fun e w' => e = .returned (.agg #[.slice A k cap]) ∧ Below w.heap.size w w' := by
  have hm : min (n : Int) 70 = (k : Int) := by omega
  have h1 : (k : Int) ≤ (cap : Int) := by omega
  have h2 : k ≤ cap := by omega
  have h3 : (k : Int) ≤ (n : Int) := by omega
  clear hk
  go_enter Tryz.func37, Tryz.ntmps37
  go_wp2_with fail
  refine bodyPost_ret (v := .agg #[.slice A k cap]) (by simp [results, Tryz.results37, go_sem]) rfl ?_
  exact ⟨rfl, below_al (below_al (below_0 _) _) _⟩
set_option maxRecDepth 100000 in
set_option maxHeartbeats 4000000 in
theorem few7_any (b : Int) (s : ByteArray) (k : Nat) (hk : k = min s.size 260) (w : World) :
    Calls Tryz.prog 38 #[.agg #[.int .i64 b, .string s]] w fun e w' => e = .returned (.agg #[.int .i64 b, .string (s.extract 0 k)]) ∧ Below w.heap.size w w' := by
  have hm : min (s.size : Int) 260 = (k : Int) := by omega
  have h1 : (0 : Int) ≤ (k : Int) := by omega
  have h3 : (k : Int) ≤ (s.size : Int) := by omega
  clear hk
  have HB := Lib.hid (below_al (below_al (below_0 w) (.cells #[.int .i64 b, .string s] 41)) (.cells #[.int .i64 0, .string ⟨#[]⟩] 41))
  have XB := Lib.hid ((Blk.new w 41 #[.int .i64 b, .string s]).alloc (.cells #[.int .i64 0, .string ⟨#[]⟩] 41))
  have YB : Hid (Blk (World.alloc (w.alloc (.cells #[.int .i64 b, .string s] 41)) (.cells #[.int .i64 0, .string ⟨#[]⟩] 41)) (w.heap.size + 1) 41 #[.int .i64 0, .string ⟨#[]⟩]) := by
    have h : (w.alloc (.cells #[.int .i64 b, .string s] 41)).heap.size = w.heap.size + 1 := by simp
    have := Blk.new (w.alloc (.cells #[.int .i64 b, .string s] 41)) 41 #[.int .i64 0, .string ⟨#[]⟩]
    rw [h] at this
    exact this
  go_enter Tryz.func38, Tryz.ntmps38
  go_wp2_with fail
  generalize (World.alloc (w.alloc (.cells #[.int .i64 b, .string s] 41)) (.cells #[.int .i64 0, .string ⟨#[]⟩] 41)) = V at *
  have x0 := XB.out.cell 0
  have x1 := XB.out.cell 1
  simp only [List.getElem?_toArray, List.getElem?_cons_zero, List.getElem?_cons_succ] at x0 x1
  refine wp_region_held_drew (S := fun w9 => w9.cell? ⟨w.heap.size, 0, none⟩ = some (.int .i64 b) ∧ w9.cell? ⟨w.heap.size, 1, none⟩ = some (.string s)) (by kernel_rfl) ⟨x0, x1⟩ (fun hHeld => ?_)
  have XD := Lib.hid XB.out.drew
  have YD := Lib.hid YB.out.drew
  have HD := Lib.hid HB.out.drew
  clear XB YB HB x0 x1
  generalize V.drew = V2 at *
  refine wpAnyH_take (i := 0) (v := (.pointer (some ⟨w.heap.size, 0, none⟩))) rfl (by kernel_rfl) (by kernel_rfl) (by kernel_rfl) (fun _ _ _ h => h) (Or.inl ⟨by rfl, ?_⟩) hHeld ?_
  · (intro w9 hSw; (try dsimp only at hSw); obtain ⟨s0, s1⟩ := hSw; go_simp)
  simp only [Act.put, List.setIfInBounds_toArray, List.set_cons_zero, List.set_cons_succ]
  refine wpAnyH_take (i := 1) (v := (.int .i64 b)) rfl (by kernel_rfl) (by kernel_rfl) (by kernel_rfl) (fun _ _ _ h => h) (Or.inl ⟨by rfl, ?_⟩) hHeld ?_
  · (intro w9 hSw; (try dsimp only at hSw); obtain ⟨s0, s1⟩ := hSw; go_simp)
  simp only [Act.put, List.setIfInBounds_toArray, List.set_cons_zero, List.set_cons_succ]
  refine wpAnyH_take (i := 2) (v := (.pointer (some ⟨w.heap.size, 1, none⟩))) rfl (by kernel_rfl) (by kernel_rfl) (by kernel_rfl) (fun _ _ _ h => h) (Or.inl ⟨by rfl, ?_⟩) hHeld ?_
  · (intro w9 hSw; (try dsimp only at hSw); obtain ⟨s0, s1⟩ := hSw; go_simp)
  simp only [Act.put, List.setIfInBounds_toArray, List.set_cons_zero, List.set_cons_succ]
  refine wpAnyH_take (i := 3) (v := (.string s)) rfl (by kernel_rfl) (by kernel_rfl) (by kernel_rfl) (fun _ _ _ h => h) (Or.inl ⟨by rfl, ?_⟩) hHeld ?_
  · (intro w9 hSw; (try dsimp only at hSw); obtain ⟨s0, s1⟩ := hSw; go_simp)
  simp only [Act.put, List.setIfInBounds_toArray, List.set_cons_zero, List.set_cons_succ]
  refine wpAnyH_take (i := 4) (v := (.pointer (some ⟨w.heap.size, 1, none⟩))) rfl (by kernel_rfl) (by kernel_rfl) (by kernel_rfl) (fun _ _ _ h => h) (Or.inl ⟨by rfl, ?_⟩) hHeld ?_
  · (intro w9 hSw; (try dsimp only at hSw); obtain ⟨s0, s1⟩ := hSw; go_simp)
  simp only [Act.put, List.setIfInBounds_toArray, List.set_cons_zero, List.set_cons_succ]
  refine wpAnyH_take (i := 5) (v := (.string s)) rfl (by kernel_rfl) (by kernel_rfl) (by kernel_rfl) (fun _ _ _ h => h) (Or.inl ⟨by rfl, ?_⟩) hHeld ?_
  · (intro w9 hSw; (try dsimp only at hSw); obtain ⟨s0, s1⟩ := hSw; go_simp)
  simp only [Act.put, List.setIfInBounds_toArray, List.set_cons_zero, List.set_cons_succ]
  refine wpAnyH_take (i := 6) (v := (.int .i64 (s.size : Int))) rfl (by kernel_rfl) (by kernel_rfl) (by kernel_rfl) (fun _ _ _ h => h) (Or.inl ⟨by rfl, ?_⟩) hHeld ?_
  · (intro w9 hSw; (try dsimp only at hSw); obtain ⟨s0, s1⟩ := hSw; go_simp)
  simp only [Act.put, List.setIfInBounds_toArray, List.set_cons_zero, List.set_cons_succ]
  refine wpAnyH_take (i := 7) (v := (.int .i64 (k : Int))) rfl (by kernel_rfl) (by kernel_rfl) (by kernel_rfl) (fun _ _ _ h => h) (Or.inl ⟨by rfl, ?_⟩) hHeld ?_
  · (intro w9 hSw; (try dsimp only at hSw); obtain ⟨s0, s1⟩ := hSw; go_simp)
  simp only [Act.put, List.setIfInBounds_toArray, List.set_cons_zero, List.set_cons_succ]
  refine wpAnyH_take (i := 8) (v := (.string (s.extract 0 k))) rfl (by kernel_rfl) (by kernel_rfl) (by kernel_rfl) (fun _ _ _ h => h) (Or.inl ⟨by rfl, ?_⟩) hHeld ?_
  · (intro w9 hSw; (try dsimp only at hSw); obtain ⟨s0, s1⟩ := hSw; go_simp)
  simp only [Act.put, List.setIfInBounds_toArray, List.set_cons_zero, List.set_cons_succ]
  refine wpAnyH_take (i := 9) (v := (.agg #[.int .i64 b, .string (s.extract 0 k)])) rfl (by kernel_rfl) (by kernel_rfl) (by kernel_rfl) (fun _ _ _ h => h) (Or.inl ⟨by rfl, ?_⟩) hHeld ?_
  · (intro w9 hSw; (try dsimp only at hSw); obtain ⟨s0, s1⟩ := hSw; go_simp)
  simp only [Act.put, List.setIfInBounds_toArray, List.set_cons_zero, List.set_cons_succ]
  have f0 := YD.out.frozen 0
  have f1 := YD.out.frozen 1
  have y0 := YD.out.cell 0
  have y1 := YD.out.cell 1
  simp only [List.getElem?_toArray, List.getElem?_cons_zero, List.getElem?_cons_succ] at y0 y1
  refine wpAnyH_ready (rs := [10]) (by kernel_rfl) (by simp) ?_
  refine AllReadyH.cons rfl (fun K0 hK => ?_) AllReadyH.nil
  go_simp
  have XS : Blk (World.setCell (World.setCell V2 ⟨w.heap.size + 1, 0, none⟩ (.int .i64 b)) ⟨w.heap.size + 1, 1, none⟩ (.string (s.extract 0 k))) w.heap.size 41 #[.int .i64 b, .string s] := ((XD.out.far (by simp) _).far (by simp) _)
  have RR : Blk (World.setCell (World.setCell V2 ⟨w.heap.size + 1, 0, none⟩ (.int .i64 b)) ⟨w.heap.size + 1, 1, none⟩ (.string (s.extract 0 k))) (w.heap.size + 1) 41 #[.int .i64 b, .string (s.extract 0 k)] := ((YD.out.set_ 0 _).set_ 1 _)
  have HS : Hid (Below w.heap.size w (World.setCell (World.setCell V2 ⟨w.heap.size + 1, 0, none⟩ (.int .i64 b)) ⟨w.heap.size + 1, 1, none⟩ (.string (s.extract 0 k)))) := ((HD.out.setCell (by simp) _).setCell (by simp) _)
  have x0 := XS.cell 0
  have x1 := XS.cell 1
  simp only [List.getElem?_toArray, List.getElem?_cons_zero, List.getElem?_cons_succ] at x0 x1
  have q0 := RR.cell 0
  have q1 := RR.cell 1
  simp only [List.getElem?_toArray, List.getElem?_cons_zero, List.getElem?_cons_succ] at q0 q1
  clear XS RR
  generalize (World.setCell (World.setCell V2 ⟨w.heap.size + 1, 0, none⟩ (.int .i64 b)) ⟨w.heap.size + 1, 1, none⟩ (.string (s.extract 0 k))) = W9 at *
  refine hK.out _ _ ⟨x0, x1⟩ (fun hHeld => ?_)
  clear hK K0
  try simp only [Act.put, List.getElem_toArray, List.getElem_cons_succ, List.getElem_cons_zero, List.setIfInBounds_toArray, List.set_cons_zero, List.set_cons_succ]
  refine wpAnyH_done (by kernel_rfl) ?_ _
  clear hHeld
  go_wp2_with fail
  refine bodyPost_ret (v := .agg #[.int .i64 b, .string (s.extract 0 k)]) (by simp [results, Tryz.results38, go_sem, q0, q1]) rfl ?_
  exact ⟨rfl, HS.out⟩
set_option maxRecDepth 100000 in
set_option maxHeartbeats 4000000 in
theorem few8_any (r c : Int) (A : Option Addr) (n cap k : Nat) (hk : k = min n 200) (hc : n ≤ cap) (w : World) :
    Calls Tryz.prog 39 #[.agg #[.int .i64 r, .int .i64 c, .slice A n cap]] w fun e w' => e = .returned (.agg #[.int .i64 r, .int .i64 c, .slice A k cap]) ∧ Below w.heap.size w w' := by
  have hm : min (n : Int) 200 = (k : Int) := by omega
  have h1 : (k : Int) ≤ (cap : Int) := by omega
  have h2 : k ≤ cap := by omega
  have h3 : (k : Int) ≤ (n : Int) := by omega
  clear hk
  have HB := Lib.hid (below_al (below_al (below_0 w) (.cells #[.int .i64 r, .int .i64 c, .slice A n cap] 43)) (.cells #[.int .i64 0, .int .i64 0, .slice none 0 0] 43))
  have XB := Lib.hid ((Blk.new w 43 #[.int .i64 r, .int .i64 c, .slice A n cap]).alloc (.cells #[.int .i64 0, .int .i64 0, .slice none 0 0] 43))
  have YB : Hid (Blk (World.alloc (w.alloc (.cells #[.int .i64 r, .int .i64 c, .slice A n cap] 43)) (.cells #[.int .i64 0, .int .i64 0, .slice none 0 0] 43)) (w.heap.size + 1) 43 #[.int .i64 0, .int .i64 0, .slice none 0 0]) := by
    have h : (w.alloc (.cells #[.int .i64 r, .int .i64 c, .slice A n cap] 43)).heap.size = w.heap.size + 1 := by simp
    have := Blk.new (w.alloc (.cells #[.int .i64 r, .int .i64 c, .slice A n cap] 43)) 43 #[.int .i64 0, .int .i64 0, .slice none 0 0]
    rw [h] at this
    exact this
  go_enter Tryz.func39, Tryz.ntmps39
  go_wp2_with fail
  generalize (World.alloc (w.alloc (.cells #[.int .i64 r, .int .i64 c, .slice A n cap] 43)) (.cells #[.int .i64 0, .int .i64 0, .slice none 0 0] 43)) = V at *
  have x0 := XB.out.cell 0
  have x1 := XB.out.cell 1
  have x2 := XB.out.cell 2
  simp only [List.getElem?_toArray, List.getElem?_cons_zero, List.getElem?_cons_succ] at x0 x1 x2
  refine wp_region_held_drew (S := fun w9 => w9.cell? ⟨w.heap.size, 0, none⟩ = some (.int .i64 r) ∧ w9.cell? ⟨w.heap.size, 1, none⟩ = some (.int .i64 c) ∧ w9.cell? ⟨w.heap.size, 2, none⟩ = some (.slice A n cap)) (by kernel_rfl) ⟨x0, x1, x2⟩ (fun hHeld => ?_)
  have XD := Lib.hid XB.out.drew
  have YD := Lib.hid YB.out.drew
  have HD := Lib.hid HB.out.drew
  clear XB YB HB x0 x1 x2
  generalize V.drew = V2 at *
  refine wpAnyH_take (i := 0) (v := (.pointer (some ⟨w.heap.size, 0, none⟩))) rfl (by kernel_rfl) (by kernel_rfl) (by kernel_rfl) (fun _ _ _ h => h) (Or.inl ⟨by rfl, ?_⟩) hHeld ?_
  · (intro w9 hSw; (try dsimp only at hSw); obtain ⟨s0, s1, s2⟩ := hSw; go_simp)
  simp only [Act.put, List.setIfInBounds_toArray, List.set_cons_zero, List.set_cons_succ]
  refine wpAnyH_take (i := 1) (v := (.int .i64 r)) rfl (by kernel_rfl) (by kernel_rfl) (by kernel_rfl) (fun _ _ _ h => h) (Or.inl ⟨by rfl, ?_⟩) hHeld ?_
  · (intro w9 hSw; (try dsimp only at hSw); obtain ⟨s0, s1, s2⟩ := hSw; go_simp)
  simp only [Act.put, List.setIfInBounds_toArray, List.set_cons_zero, List.set_cons_succ]
  refine wpAnyH_take (i := 2) (v := (.pointer (some ⟨w.heap.size, 1, none⟩))) rfl (by kernel_rfl) (by kernel_rfl) (by kernel_rfl) (fun _ _ _ h => h) (Or.inl ⟨by rfl, ?_⟩) hHeld ?_
  · (intro w9 hSw; (try dsimp only at hSw); obtain ⟨s0, s1, s2⟩ := hSw; go_simp)
  simp only [Act.put, List.setIfInBounds_toArray, List.set_cons_zero, List.set_cons_succ]
  refine wpAnyH_take (i := 3) (v := (.int .i64 c)) rfl (by kernel_rfl) (by kernel_rfl) (by kernel_rfl) (fun _ _ _ h => h) (Or.inl ⟨by rfl, ?_⟩) hHeld ?_
  · (intro w9 hSw; (try dsimp only at hSw); obtain ⟨s0, s1, s2⟩ := hSw; go_simp)
  simp only [Act.put, List.setIfInBounds_toArray, List.set_cons_zero, List.set_cons_succ]
  refine wpAnyH_take (i := 4) (v := (.pointer (some ⟨w.heap.size, 2, none⟩))) rfl (by kernel_rfl) (by kernel_rfl) (by kernel_rfl) (fun _ _ _ h => h) (Or.inl ⟨by rfl, ?_⟩) hHeld ?_
  · (intro w9 hSw; (try dsimp only at hSw); obtain ⟨s0, s1, s2⟩ := hSw; go_simp)
  simp only [Act.put, List.setIfInBounds_toArray, List.set_cons_zero, List.set_cons_succ]
  refine wpAnyH_take (i := 5) (v := (.slice A n cap)) rfl (by kernel_rfl) (by kernel_rfl) (by kernel_rfl) (fun _ _ _ h => h) (Or.inl ⟨by rfl, ?_⟩) hHeld ?_
  · (intro w9 hSw; (try dsimp only at hSw); obtain ⟨s0, s1, s2⟩ := hSw; go_simp)
  simp only [Act.put, List.setIfInBounds_toArray, List.set_cons_zero, List.set_cons_succ]
  refine wpAnyH_take (i := 6) (v := (.pointer (some ⟨w.heap.size, 2, none⟩))) rfl (by kernel_rfl) (by kernel_rfl) (by kernel_rfl) (fun _ _ _ h => h) (Or.inl ⟨by rfl, ?_⟩) hHeld ?_
  · (intro w9 hSw; (try dsimp only at hSw); obtain ⟨s0, s1, s2⟩ := hSw; go_simp)
  simp only [Act.put, List.setIfInBounds_toArray, List.set_cons_zero, List.set_cons_succ]
  refine wpAnyH_take (i := 7) (v := (.slice A n cap)) rfl (by kernel_rfl) (by kernel_rfl) (by kernel_rfl) (fun _ _ _ h => h) (Or.inl ⟨by rfl, ?_⟩) hHeld ?_
  · (intro w9 hSw; (try dsimp only at hSw); obtain ⟨s0, s1, s2⟩ := hSw; go_simp)
  simp only [Act.put, List.setIfInBounds_toArray, List.set_cons_zero, List.set_cons_succ]
  refine wpAnyH_take (i := 8) (v := (.int .i64 (n : Int))) rfl (by kernel_rfl) (by kernel_rfl) (by kernel_rfl) (fun _ _ _ h => h) (Or.inl ⟨by rfl, ?_⟩) hHeld ?_
  · (intro w9 hSw; (try dsimp only at hSw); obtain ⟨s0, s1, s2⟩ := hSw; go_simp)
  simp only [Act.put, List.setIfInBounds_toArray, List.set_cons_zero, List.set_cons_succ]
  refine wpAnyH_take (i := 9) (v := (.int .i64 (k : Int))) rfl (by kernel_rfl) (by kernel_rfl) (by kernel_rfl) (fun _ _ _ h => h) (Or.inl ⟨by rfl, ?_⟩) hHeld ?_
  · (intro w9 hSw; (try dsimp only at hSw); obtain ⟨s0, s1, s2⟩ := hSw; go_simp)
  simp only [Act.put, List.setIfInBounds_toArray, List.set_cons_zero, List.set_cons_succ]
  refine wpAnyH_take (i := 10) (v := (.slice A k cap)) rfl (by kernel_rfl) (by kernel_rfl) (by kernel_rfl) (fun _ _ _ h => h) (Or.inl ⟨by rfl, ?_⟩) hHeld ?_
  · (intro w9 hSw; (try dsimp only at hSw); obtain ⟨s0, s1, s2⟩ := hSw; go_simp)
  simp only [Act.put, List.setIfInBounds_toArray, List.set_cons_zero, List.set_cons_succ]
  refine wpAnyH_take (i := 11) (v := (.agg #[.int .i64 r, .int .i64 c, .slice A k cap])) rfl (by kernel_rfl) (by kernel_rfl) (by kernel_rfl) (fun _ _ _ h => h) (Or.inl ⟨by rfl, ?_⟩) hHeld ?_
  · (intro w9 hSw; (try dsimp only at hSw); obtain ⟨s0, s1, s2⟩ := hSw; go_simp)
  simp only [Act.put, List.setIfInBounds_toArray, List.set_cons_zero, List.set_cons_succ]
  have f0 := YD.out.frozen 0
  have f1 := YD.out.frozen 1
  have f2 := YD.out.frozen 2
  have y0 := YD.out.cell 0
  have y1 := YD.out.cell 1
  have y2 := YD.out.cell 2
  simp only [List.getElem?_toArray, List.getElem?_cons_zero, List.getElem?_cons_succ] at y0 y1 y2
  refine wpAnyH_ready (rs := [12]) (by kernel_rfl) (by simp) ?_
  refine AllReadyH.cons rfl (fun K0 hK => ?_) AllReadyH.nil
  go_simp
  have XS : Blk (World.setCell (World.setCell (World.setCell V2 ⟨w.heap.size + 1, 0, none⟩ (.int .i64 r)) ⟨w.heap.size + 1, 1, none⟩ (.int .i64 c)) ⟨w.heap.size + 1, 2, none⟩ (.slice A k cap)) w.heap.size 43 #[.int .i64 r, .int .i64 c, .slice A n cap] := (((XD.out.far (by simp) _).far (by simp) _).far (by simp) _)
  have RR : Blk (World.setCell (World.setCell (World.setCell V2 ⟨w.heap.size + 1, 0, none⟩ (.int .i64 r)) ⟨w.heap.size + 1, 1, none⟩ (.int .i64 c)) ⟨w.heap.size + 1, 2, none⟩ (.slice A k cap)) (w.heap.size + 1) 43 #[.int .i64 r, .int .i64 c, .slice A k cap] := (((YD.out.set_ 0 _).set_ 1 _).set_ 2 _)
  have HS : Hid (Below w.heap.size w (World.setCell (World.setCell (World.setCell V2 ⟨w.heap.size + 1, 0, none⟩ (.int .i64 r)) ⟨w.heap.size + 1, 1, none⟩ (.int .i64 c)) ⟨w.heap.size + 1, 2, none⟩ (.slice A k cap))) := (((HD.out.setCell (by simp) _).setCell (by simp) _).setCell (by simp) _)
  have x0 := XS.cell 0
  have x1 := XS.cell 1
  have x2 := XS.cell 2
  simp only [List.getElem?_toArray, List.getElem?_cons_zero, List.getElem?_cons_succ] at x0 x1 x2
  have q0 := RR.cell 0
  have q1 := RR.cell 1
  have q2 := RR.cell 2
  simp only [List.getElem?_toArray, List.getElem?_cons_zero, List.getElem?_cons_succ] at q0 q1 q2
  clear XS RR
  generalize (World.setCell (World.setCell (World.setCell V2 ⟨w.heap.size + 1, 0, none⟩ (.int .i64 r)) ⟨w.heap.size + 1, 1, none⟩ (.int .i64 c)) ⟨w.heap.size + 1, 2, none⟩ (.slice A k cap)) = W9 at *
  refine hK.out _ _ ⟨x0, x1, x2⟩ (fun hHeld => ?_)
  clear hK K0
  try simp only [Act.put, List.getElem_toArray, List.getElem_cons_succ, List.getElem_cons_zero, List.setIfInBounds_toArray, List.set_cons_zero, List.set_cons_succ]
  refine wpAnyH_done (by kernel_rfl) ?_ _
  clear hHeld
  go_wp2_with fail
  refine bodyPost_ret (v := .agg #[.int .i64 r, .int .i64 c, .slice A k cap]) (by simp [results, Tryz.results39, go_sem, q0, q1, q2]) rfl ?_
  exact ⟨rfl, HS.out⟩
set_option maxRecDepth 100000 in
set_option maxHeartbeats 4000000 in
theorem few9_any (f : Int) (A : Option Addr) (n cap k : Nat) (hk : k = min n 300) (hc : n ≤ cap) (w : World) :
    Calls Tryz.prog 40 #[.agg #[.int .i64 f, .slice A n cap]] w fun e w' => e = .returned (.agg #[.int .i64 f, .slice A k cap]) ∧ Below w.heap.size w w' := by
  have hm : min (n : Int) 300 = (k : Int) := by omega
  have h1 : (k : Int) ≤ (cap : Int) := by omega
  have h2 : k ≤ cap := by omega
  have h3 : (k : Int) ≤ (n : Int) := by omega
  clear hk
  have HB := Lib.hid (below_al (below_al (below_0 w) (.cells #[.int .i64 f, .slice A n cap] 46)) (.cells #[.int .i64 0, .slice none 0 0] 46))
  have XB := Lib.hid ((Blk.new w 46 #[.int .i64 f, .slice A n cap]).alloc (.cells #[.int .i64 0, .slice none 0 0] 46))
  have YB : Hid (Blk (World.alloc (w.alloc (.cells #[.int .i64 f, .slice A n cap] 46)) (.cells #[.int .i64 0, .slice none 0 0] 46)) (w.heap.size + 1) 46 #[.int .i64 0, .slice none 0 0]) := by
    have h : (w.alloc (.cells #[.int .i64 f, .slice A n cap] 46)).heap.size = w.heap.size + 1 := by simp
    have := Blk.new (w.alloc (.cells #[.int .i64 f, .slice A n cap] 46)) 46 #[.int .i64 0, .slice none 0 0]
    rw [h] at this
    exact this
  go_enter Tryz.func40, Tryz.ntmps40
  go_wp2_with fail
  generalize (World.alloc (w.alloc (.cells #[.int .i64 f, .slice A n cap] 46)) (.cells #[.int .i64 0, .slice none 0 0] 46)) = V at *
  have x0 := XB.out.cell 0
  have x1 := XB.out.cell 1
  simp only [List.getElem?_toArray, List.getElem?_cons_zero, List.getElem?_cons_succ] at x0 x1
  refine wp_region_held_drew (S := fun w9 => w9.cell? ⟨w.heap.size, 0, none⟩ = some (.int .i64 f) ∧ w9.cell? ⟨w.heap.size, 1, none⟩ = some (.slice A n cap)) (by kernel_rfl) ⟨x0, x1⟩ (fun hHeld => ?_)
  have XD := Lib.hid XB.out.drew
  have YD := Lib.hid YB.out.drew
  have HD := Lib.hid HB.out.drew
  clear XB YB HB x0 x1
  generalize V.drew = V2 at *
  refine wpAnyH_take (i := 0) (v := (.pointer (some ⟨w.heap.size, 0, none⟩))) rfl (by kernel_rfl) (by kernel_rfl) (by kernel_rfl) (fun _ _ _ h => h) (Or.inl ⟨by rfl, ?_⟩) hHeld ?_
  · (intro w9 hSw; (try dsimp only at hSw); obtain ⟨s0, s1⟩ := hSw; go_simp)
  simp only [Act.put, List.setIfInBounds_toArray, List.set_cons_zero, List.set_cons_succ]
  refine wpAnyH_take (i := 1) (v := (.int .i64 f)) rfl (by kernel_rfl) (by kernel_rfl) (by kernel_rfl) (fun _ _ _ h => h) (Or.inl ⟨by rfl, ?_⟩) hHeld ?_
  · (intro w9 hSw; (try dsimp only at hSw); obtain ⟨s0, s1⟩ := hSw; go_simp)
  simp only [Act.put, List.setIfInBounds_toArray, List.set_cons_zero, List.set_cons_succ]
  refine wpAnyH_take (i := 2) (v := (.pointer (some ⟨w.heap.size, 1, none⟩))) rfl (by kernel_rfl) (by kernel_rfl) (by kernel_rfl) (fun _ _ _ h => h) (Or.inl ⟨by rfl, ?_⟩) hHeld ?_
  · (intro w9 hSw; (try dsimp only at hSw); obtain ⟨s0, s1⟩ := hSw; go_simp)
  simp only [Act.put, List.setIfInBounds_toArray, List.set_cons_zero, List.set_cons_succ]
  refine wpAnyH_take (i := 3) (v := (.slice A n cap)) rfl (by kernel_rfl) (by kernel_rfl) (by kernel_rfl) (fun _ _ _ h => h) (Or.inl ⟨by rfl, ?_⟩) hHeld ?_
  · (intro w9 hSw; (try dsimp only at hSw); obtain ⟨s0, s1⟩ := hSw; go_simp)
  simp only [Act.put, List.setIfInBounds_toArray, List.set_cons_zero, List.set_cons_succ]
  refine wpAnyH_take (i := 4) (v := (.pointer (some ⟨w.heap.size, 1, none⟩))) rfl (by kernel_rfl) (by kernel_rfl) (by kernel_rfl) (fun _ _ _ h => h) (Or.inl ⟨by rfl, ?_⟩) hHeld ?_
  · (intro w9 hSw; (try dsimp only at hSw); obtain ⟨s0, s1⟩ := hSw; go_simp)
  simp only [Act.put, List.setIfInBounds_toArray, List.set_cons_zero, List.set_cons_succ]
  refine wpAnyH_take (i := 5) (v := (.slice A n cap)) rfl (by kernel_rfl) (by kernel_rfl) (by kernel_rfl) (fun _ _ _ h => h) (Or.inl ⟨by rfl, ?_⟩) hHeld ?_
  · (intro w9 hSw; (try dsimp only at hSw); obtain ⟨s0, s1⟩ := hSw; go_simp)
  simp only [Act.put, List.setIfInBounds_toArray, List.set_cons_zero, List.set_cons_succ]
  refine wpAnyH_take (i := 6) (v := (.int .i64 (n : Int))) rfl (by kernel_rfl) (by kernel_rfl) (by kernel_rfl) (fun _ _ _ h => h) (Or.inl ⟨by rfl, ?_⟩) hHeld ?_
  · (intro w9 hSw; (try dsimp only at hSw); obtain ⟨s0, s1⟩ := hSw; go_simp)
  simp only [Act.put, List.setIfInBounds_toArray, List.set_cons_zero, List.set_cons_succ]
  refine wpAnyH_take (i := 7) (v := (.int .i64 (k : Int))) rfl (by kernel_rfl) (by kernel_rfl) (by kernel_rfl) (fun _ _ _ h => h) (Or.inl ⟨by rfl, ?_⟩) hHeld ?_
  · (intro w9 hSw; (try dsimp only at hSw); obtain ⟨s0, s1⟩ := hSw; go_simp)
  simp only [Act.put, List.setIfInBounds_toArray, List.set_cons_zero, List.set_cons_succ]
  refine wpAnyH_take (i := 8) (v := (.slice A k cap)) rfl (by kernel_rfl) (by kernel_rfl) (by kernel_rfl) (fun _ _ _ h => h) (Or.inl ⟨by rfl, ?_⟩) hHeld ?_
  · (intro w9 hSw; (try dsimp only at hSw); obtain ⟨s0, s1⟩ := hSw; go_simp)
  simp only [Act.put, List.setIfInBounds_toArray, List.set_cons_zero, List.set_cons_succ]
  refine wpAnyH_take (i := 9) (v := (.agg #[.int .i64 f, .slice A k cap])) rfl (by kernel_rfl) (by kernel_rfl) (by kernel_rfl) (fun _ _ _ h => h) (Or.inl ⟨by rfl, ?_⟩) hHeld ?_
  · (intro w9 hSw; (try dsimp only at hSw); obtain ⟨s0, s1⟩ := hSw; go_simp)
  simp only [Act.put, List.setIfInBounds_toArray, List.set_cons_zero, List.set_cons_succ]
  have f0 := YD.out.frozen 0
  have f1 := YD.out.frozen 1
  have y0 := YD.out.cell 0
  have y1 := YD.out.cell 1
  simp only [List.getElem?_toArray, List.getElem?_cons_zero, List.getElem?_cons_succ] at y0 y1
  refine wpAnyH_ready (rs := [10]) (by kernel_rfl) (by simp) ?_
  refine AllReadyH.cons rfl (fun K0 hK => ?_) AllReadyH.nil
  go_simp
  have XS : Blk (World.setCell (World.setCell V2 ⟨w.heap.size + 1, 0, none⟩ (.int .i64 f)) ⟨w.heap.size + 1, 1, none⟩ (.slice A k cap)) w.heap.size 46 #[.int .i64 f, .slice A n cap] := ((XD.out.far (by simp) _).far (by simp) _)
  have RR : Blk (World.setCell (World.setCell V2 ⟨w.heap.size + 1, 0, none⟩ (.int .i64 f)) ⟨w.heap.size + 1, 1, none⟩ (.slice A k cap)) (w.heap.size + 1) 46 #[.int .i64 f, .slice A k cap] := ((YD.out.set_ 0 _).set_ 1 _)
  have HS : Hid (Below w.heap.size w (World.setCell (World.setCell V2 ⟨w.heap.size + 1, 0, none⟩ (.int .i64 f)) ⟨w.heap.size + 1, 1, none⟩ (.slice A k cap))) := ((HD.out.setCell (by simp) _).setCell (by simp) _)
  have x0 := XS.cell 0
  have x1 := XS.cell 1
  simp only [List.getElem?_toArray, List.getElem?_cons_zero, List.getElem?_cons_succ] at x0 x1
  have q0 := RR.cell 0
  have q1 := RR.cell 1
  simp only [List.getElem?_toArray, List.getElem?_cons_zero, List.getElem?_cons_succ] at q0 q1
  clear XS RR
  generalize (World.setCell (World.setCell V2 ⟨w.heap.size + 1, 0, none⟩ (.int .i64 f)) ⟨w.heap.size + 1, 1, none⟩ (.slice A k cap)) = W9 at *
  refine hK.out _ _ ⟨x0, x1⟩ (fun hHeld => ?_)
  clear hK K0
  try simp only [Act.put, List.getElem_toArray, List.getElem_cons_succ, List.getElem_cons_zero, List.setIfInBounds_toArray, List.set_cons_zero, List.set_cons_succ]
  refine wpAnyH_done (by kernel_rfl) ?_ _
  clear hHeld
  go_wp2_with fail
  refine bodyPost_ret (v := .agg #[.int .i64 f, .slice A k cap]) (by simp [results, Tryz.results40, go_sem, q0, q1]) rfl ?_
  exact ⟨rfl, HS.out⟩
end Go.Proofs.YtoffmclbnobllaaGreatDoor

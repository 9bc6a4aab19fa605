/-
  ladder.open of what is no sketch.
-/
import Derived.Test.YtoffmclbnobllaaGreatDoorCkRight
namespace Go.Proofs.YtoffmclbnobllaaGreatDoor
open Go.RowKit
set_option linter.unusedVariables false
set_option linter.unusedSimpArgs false
theorem find_none {c : Int} (h1 : ¬ c = 1) (h2 : ¬ c = 2) (h3 : ¬ c = 3) : Instr.findNow (.int .i64) (.int .i64 c) kindsO.toList 0 = some none := by
  have e1 : (c == 1) = false := by rw [beq_eq_false_iff_ne]; omega
  have e2 : (c == 2) = false := by rw [beq_eq_false_iff_ne]; omega
  have e3 : (c == 3) = false := by rw [beq_eq_false_iff_ne]; omega
  simp only [kindsO, Instr.findNow, Instr.sameNow, if_true, e1, e2, e3]
set_option maxRecDepth 100000 in
set_option maxHeartbeats 8000000 in
theorem open_neg1 (m : SkM) (hk : m.s.kind = 1) (hl0 : m.s.level < 0) (w : World) (hm : SkOk w w.heap.size m) (hf : SkFit m.s) :
    Calls Tryz.prog 57 #[skV m] w (OpRet w false) := by
  have HM := Lib.hid hm
  clear hm hf
  obtain ⟨⟨kind, level, e, bits, regs, rows, cols, c, fine, g⟩, ea, ec, ca, cc, ga, gc⟩ := m
  simp only at hk hl0
  subst hk
  have hMEM : Hid (∀ w', Below w.heap.size w w' → SkOk w' w'.heap.size _) := fun w' h => HM.out.later h
  go_enter Tryz.func57, Tryz.ntmps57
  unfold skV
  simp only
  go_wp2_with fail
  have XB : Hid (Blk (World.alloc (World.alloc (w.alloc (.cells #[.int .i64 1, .int .i64 level, .slice ea e.length ec, .int .i64 bits, .string regs, .int .i64 rows, .int .i64 cols, .slice ca c.length cc, .int .i64 fine, .slice ga g.length gc] 48)) (.cells #[.nilIface, .int .i64 0, .int .i64 0] 93)) (.cells #[.int .i64 100] 108)) w.heap.size 48 #[.int .i64 1, .int .i64 level, .slice ea e.length ec, .int .i64 bits, .string regs, .int .i64 rows, .int .i64 cols, .slice ca c.length cc, .int .i64 fine, .slice ga g.length gc]) := ((Blk.new w 48 #[.int .i64 1, .int .i64 level, .slice ea e.length ec, .int .i64 bits, .string regs, .int .i64 rows, .int .i64 cols, .slice ca c.length cc, .int .i64 fine, .slice ga g.length gc]).alloc _).alloc _
  have YB : Hid (Blk (World.alloc (World.alloc (w.alloc (.cells #[.int .i64 1, .int .i64 level, .slice ea e.length ec, .int .i64 bits, .string regs, .int .i64 rows, .int .i64 cols, .slice ca c.length cc, .int .i64 fine, .slice ga g.length gc] 48)) (.cells #[.nilIface, .int .i64 0, .int .i64 0] 93)) (.cells #[.int .i64 100] 108)) (w.heap.size + 1) 93 #[.nilIface, .int .i64 0, .int .i64 0]) := by
    have h : (w.alloc (.cells #[.int .i64 1, .int .i64 level, .slice ea e.length ec, .int .i64 bits, .string regs, .int .i64 rows, .int .i64 cols, .slice ca c.length cc, .int .i64 fine, .slice ga g.length gc] 48)).heap.size = w.heap.size + 1 := by simp
    have := (Blk.new (w.alloc (.cells #[.int .i64 1, .int .i64 level, .slice ea e.length ec, .int .i64 bits, .string regs, .int .i64 rows, .int .i64 cols, .slice ca c.length cc, .int .i64 fine, .slice ga g.length gc] 48)) 93 #[.nilIface, .int .i64 0, .int .i64 0]).alloc (.cells #[.int .i64 100] 108)
    rw [h] at this
    exact this
  have HB : Hid (Below w.heap.size w (World.alloc (World.alloc (w.alloc (.cells #[.int .i64 1, .int .i64 level, .slice ea e.length ec, .int .i64 bits, .string regs, .int .i64 rows, .int .i64 cols, .slice ca c.length cc, .int .i64 fine, .slice ga g.length gc] 48)) (.cells #[.nilIface, .int .i64 0, .int .i64 0] 93)) (.cells #[.int .i64 100] 108))) := below_al (below_al (below_al (below_0 w) _) _) _
  have hV : (World.alloc (World.alloc (w.alloc (.cells #[.int .i64 1, .int .i64 level, .slice ea e.length ec, .int .i64 bits, .string regs, .int .i64 rows, .int .i64 cols, .slice ca c.length cc, .int .i64 fine, .slice ga g.length gc] 48)) (.cells #[.nilIface, .int .i64 0, .int .i64 0] 93)) (.cells #[.int .i64 100] 108)).heap.size = w.heap.size + 3 := by simp
  generalize (World.alloc (World.alloc (w.alloc (.cells #[.int .i64 1, .int .i64 level, .slice ea e.length ec, .int .i64 bits, .string regs, .int .i64 rows, .int .i64 cols, .slice ca c.length cc, .int .i64 fine, .slice ga g.length gc] 48)) (.cells #[.nilIface, .int .i64 0, .int .i64 0] 93)) (.cells #[.int .i64 100] 108)) = V at *
  have x0 := XB.out.cell 0
  have x1 := XB.out.cell 1
  simp only [List.getElem?_toArray, List.getElem?_cons_zero, List.getElem?_cons_succ] at x0 x1
  refine wp_region_held_drew (S := fun w' => w'.cell? ⟨w.heap.size, 0, none⟩ = some (.int .i64 1)) (by kernel_rfl) x0 (fun hHeld => ?_)
  have XD := Lib.hid XB.out.drew
  have YD := Lib.hid YB.out.drew
  have HD := Lib.hid HB.out.drew
  have hVD : V.drew.heap.size = w.heap.size + 3 := hV
  clear XB YB HB hV x0 x1
  generalize V.drew = V2 at *
  refine wpAnyH_take (i := 1) (v := (.pointer (some ⟨w.heap.size, 0, none⟩))) rfl (by kernel_rfl) (by kernel_rfl) (by kernel_rfl) (fun _ _ _ h => h) (Or.inl ⟨by rfl, ?_⟩) hHeld ?_
  · (intro w hSw; (try dsimp only at hSw); (try obtain ⟨s0, s1⟩ := hSw); go_simp)
  simp only [Act.put, List.setIfInBounds_toArray, List.set_cons_zero, List.set_cons_succ]
  refine wpAnyH_take (i := 2) (v := (.int .i64 1)) rfl (by kernel_rfl) (by kernel_rfl) (by kernel_rfl) (fun _ _ _ h => h) (Or.inl ⟨by rfl, ?_⟩) hHeld ?_
  · (intro w hSw; (try dsimp only at hSw); (try obtain ⟨s0, s1⟩ := hSw); go_simp)
  simp only [Act.put, List.setIfInBounds_toArray, List.set_cons_zero, List.set_cons_succ]
  refine wpAnyH_ready (rs := [0]) (by kernel_rfl) (by simp) ?_
  refine AllReadyH.cons rfl (fun K0 hK => ?_) AllReadyH.nil
  go_simp
  refine (kinds_any _).mono ?_
  rintro r _ ⟨rfl, rfl⟩
  have HB1 : Hid (Below w.heap.size w (V2.alloc (.map kindsO 3))) := below_al HD.out _
  have XB1 := Lib.hid (XD.out.alloc (.map kindsO 3))
  have YB1 := Lib.hid (YD.out.alloc (.map kindsO 3))
  have kL : (Instr.lookup 111 (.map (some V2.heap.size)) (.int .i64 1) true).run Tryz.prog (V2.alloc (.map kindsO 3)) = .ok (.tuple #[.func (.func 74) #[] #[], .bool true]) (V2.alloc (.map kindsO 3)) := run_look (i := 0) (World.alloc_heap_new V2 _) Tryz.underlying111 Tryz.underlying3 rfl
  have hV1 : (V2.alloc (.map kindsO 3)).heap.size = w.heap.size + 4 := by simp [hVD]
  clear XD YD HD
  rw [hVD] at kL
  generalize V2.alloc (.map kindsO 3) = V1 at *
  have x0 := XB1.out.cell 0
  have x1 := XB1.out.cell 1
  simp only [List.getElem?_toArray, List.getElem?_cons_zero, List.getElem?_cons_succ] at x0 x1
  refine hK.out _ _ x0 (fun hHeld => ?_)
  clear hK K0
  try simp only [Act.put, List.getElem_toArray, List.getElem_cons_succ, List.getElem_cons_zero, List.setIfInBounds_toArray, List.set_cons_zero, List.set_cons_succ]
  refine wpAnyH_ready (rs := [3]) (by kernel_rfl) (by simp) ?_
  refine AllReadyH.cons rfl (fun K0 hK => ?_) AllReadyH.nil
  go_simp
  refine hK.out _ _ x0 (fun hHeld => ?_)
  clear hK K0
  try simp only [Act.put, List.getElem_toArray, List.getElem_cons_succ, List.getElem_cons_zero, List.setIfInBounds_toArray, List.set_cons_zero, List.set_cons_succ]
  refine wpAnyH_take (i := 4) (v := (.tuple #[.func (.func 74) #[] #[], .bool true])) rfl (by kernel_rfl) (by kernel_rfl) (by kernel_rfl) (fun _ _ _ h => h) (Or.inl ⟨by rfl, ?_⟩) hHeld ?_
  · (intro w hSw; (try dsimp only at hSw); (try obtain ⟨s0, s1⟩ := hSw); go_simp)
  simp only [Act.put, List.setIfInBounds_toArray, List.set_cons_zero, List.set_cons_succ]
  refine wpAnyH_take (i := 5) (v := (.func (.func 74) #[] #[])) rfl (by kernel_rfl) (by kernel_rfl) (by kernel_rfl) (fun _ _ _ h => h) (Or.inl ⟨by rfl, ?_⟩) hHeld ?_
  · (intro w hSw; (try dsimp only at hSw); (try obtain ⟨s0, s1⟩ := hSw); go_simp)
  simp only [Act.put, List.setIfInBounds_toArray, List.set_cons_zero, List.set_cons_succ]
  refine wpAnyH_take (i := 6) (v := (.bool true)) rfl (by kernel_rfl) (by kernel_rfl) (by kernel_rfl) (fun _ _ _ h => h) (Or.inl ⟨by rfl, ?_⟩) hHeld ?_
  · (intro w hSw; (try dsimp only at hSw); (try obtain ⟨s0, s1⟩ := hSw); go_simp)
  simp only [Act.put, List.setIfInBounds_toArray, List.set_cons_zero, List.set_cons_succ]
  refine wpAnyH_ready (rs := [7]) (by kernel_rfl) (by simp) ?_
  refine AllReadyH.cons rfl (fun K0 hK => ?_) AllReadyH.nil
  go_simp
  refine hK.out _ _ x0 (fun hHeld => ?_)
  clear hK K0
  try simp only [Act.put, List.getElem_toArray, List.getElem_cons_succ, List.getElem_cons_zero, List.setIfInBounds_toArray, List.set_cons_zero, List.set_cons_succ]
  refine wpAnyH_ready (rs := [8]) (by kernel_rfl) (by simp) ?_
  refine AllReadyH.cons rfl (fun K0 hK => ?_) AllReadyH.nil
  go_simp
  refine hK.out _ _ x0 (fun hHeld => ?_)
  clear hK K0
  try simp only [Act.put, List.getElem_toArray, List.getElem_cons_succ, List.getElem_cons_zero, List.setIfInBounds_toArray, List.set_cons_zero, List.set_cons_succ]
  refine wpAnyH_done (by kernel_rfl) ?_ _
  clear hHeld kL
  have hl2 : decide (level < 0) = true := decide_eq_true hl0
  have hl3 : True := trivial
  have hb4 : bottomF 1 = 4 := by decide
  go_wp2_with fail
  haveI hAW := After.some V1
  have hxw := XB1.out.lt
  have F0 := After.cell x0 hxw
  have F1 := After.cell x1 hxw
  have QB : Hid (∀ y : After V1, Calls Tryz.prog 67 #[.int .i64 1] y.at_ fun r w' => r = .returned (.int .i64 4) ∧ Below y.at_.heap.size y.at_ w') := fun y => (bottom_any 1 y.at_).mono fun _ _ ⟨h1, h2⟩ => ⟨by rw [h1, hb4], h2 ▸ below_0 _⟩
  refine wp_region_below (by kernel_rfl) (by kernel_rfl) ?_
  repeat (go_big_quiet_step (first | with_reducible exact after_calls (QB.out _)))
  refine wpQuiet_nil ?_
  rintro w2 ⟨y2, hy2⟩
  have hb2 : Below V1.heap.size V1 w2 := by rw [hy2]; exact y2.is
  have HB2 := Lib.hid (Below.two HB1.out hb2)
  have XB2 := Lib.hid (XB1.out.later hb2)
  have YB2 := Lib.hid (YB1.out.later hb2)
  clear hy2 y2 hb2 XB1 YB1 HB1 x0 x1 F0 F1 hAW QB hb4 hV1 hxw
  have x0 := XB2.out.cell 0
  have x1 := XB2.out.cell 1
  have x2 := XB2.out.cell 2
  have x3 := XB2.out.cell 3
  have x4 := XB2.out.cell 4
  have x5 := XB2.out.cell 5
  have x6 := XB2.out.cell 6
  have x7 := XB2.out.cell 7
  have x8 := XB2.out.cell 8
  have x9 := XB2.out.cell 9
  have y0 := YB2.out.cell 0
  have y1 := YB2.out.cell 1
  have y2 := YB2.out.cell 2
  simp only [List.getElem?_toArray, List.getElem?_cons_zero, List.getElem?_cons_succ] at x0 x1 x2 x3 x4 x5 x6 x7 x8 x9 y0 y1 y2
  have f0 := YB2.out.frozen 0
  have f1 := YB2.out.frozen 1
  have f2 := YB2.out.frozen 2
  go_wp2_with fail
  have RR9 : Blk (((w2.setCell ⟨w.heap.size + 1, 0, none⟩ .nilIface).setCell ⟨w.heap.size + 1, 1, none⟩ (.int .i64 0)).setCell ⟨w.heap.size + 1, 2, none⟩ (.int .i64 0)) (w.heap.size + 1) 93 #[.nilIface, .int .i64 0, .int .i64 0] := YB2.out.set3
  have HB9 : Hid (Below w.heap.size w (((w2.setCell ⟨w.heap.size + 1, 0, none⟩ .nilIface).setCell ⟨w.heap.size + 1, 1, none⟩ (.int .i64 0)).setCell ⟨w.heap.size + 1, 2, none⟩ (.int .i64 0))) := ((HB2.out.setCell (by simp) _).setCell (by simp) _).setCell (by simp) _
  have q0 := RR9.cell 0
  have q1 := RR9.cell 1
  have q2 := RR9.cell 2
  simp only [List.getElem?_toArray, List.getElem?_cons_zero, List.getElem?_cons_succ] at q0 q1 q2
  clear RR9
  generalize (((w2.setCell ⟨w.heap.size + 1, 0, none⟩ .nilIface).setCell ⟨w.heap.size + 1, 1, none⟩ (.int .i64 0)).setCell ⟨w.heap.size + 1, 2, none⟩ (.int .i64 0)) = W9 at *
  refine bodyPost_ret (v := .tuple #[.agg #[.nilIface, .int .i64 0, .int .i64 0], .iface 106 (.pointer (some ⟨w.heap.size + 1 + 1, 0, none⟩))]) (by simp [results, Tryz.results57, go_sem, q0, q1, q2]) rfl ?_
  exact ⟨_, _, _, _, rfl, .inl rfl, ⟨_, rfl⟩, HB9.out⟩
set_option maxRecDepth 100000 in
set_option maxHeartbeats 8000000 in
theorem open_big1 (m : SkM) (hk : m.s.kind = 1) (hl0 : 0 ≤ m.s.level) (hl1 : 4 < m.s.level) (w : World) (hm : SkOk w w.heap.size m) (hf : SkFit m.s) :
    Calls Tryz.prog 57 #[skV m] w (OpRet w false) := by
  have HM := Lib.hid hm
  clear hm hf
  obtain ⟨⟨kind, level, e, bits, regs, rows, cols, c, fine, g⟩, ea, ec, ca, cc, ga, gc⟩ := m
  simp only at hk hl0 hl1
  subst hk
  have hMEM : Hid (∀ w', Below w.heap.size w w' → SkOk w' w'.heap.size _) := fun w' h => HM.out.later h
  go_enter Tryz.func57, Tryz.ntmps57
  unfold skV
  simp only
  go_wp2_with fail
  have XB : Hid (Blk (World.alloc (World.alloc (w.alloc (.cells #[.int .i64 1, .int .i64 level, .slice ea e.length ec, .int .i64 bits, .string regs, .int .i64 rows, .int .i64 cols, .slice ca c.length cc, .int .i64 fine, .slice ga g.length gc] 48)) (.cells #[.nilIface, .int .i64 0, .int .i64 0] 93)) (.cells #[.int .i64 100] 108)) w.heap.size 48 #[.int .i64 1, .int .i64 level, .slice ea e.length ec, .int .i64 bits, .string regs, .int .i64 rows, .int .i64 cols, .slice ca c.length cc, .int .i64 fine, .slice ga g.length gc]) := ((Blk.new w 48 #[.int .i64 1, .int .i64 level, .slice ea e.length ec, .int .i64 bits, .string regs, .int .i64 rows, .int .i64 cols, .slice ca c.length cc, .int .i64 fine, .slice ga g.length gc]).alloc _).alloc _
  have YB : Hid (Blk (World.alloc (World.alloc (w.alloc (.cells #[.int .i64 1, .int .i64 level, .slice ea e.length ec, .int .i64 bits, .string regs, .int .i64 rows, .int .i64 cols, .slice ca c.length cc, .int .i64 fine, .slice ga g.length gc] 48)) (.cells #[.nilIface, .int .i64 0, .int .i64 0] 93)) (.cells #[.int .i64 100] 108)) (w.heap.size + 1) 93 #[.nilIface, .int .i64 0, .int .i64 0]) := by
    have h : (w.alloc (.cells #[.int .i64 1, .int .i64 level, .slice ea e.length ec, .int .i64 bits, .string regs, .int .i64 rows, .int .i64 cols, .slice ca c.length cc, .int .i64 fine, .slice ga g.length gc] 48)).heap.size = w.heap.size + 1 := by simp
    have := (Blk.new (w.alloc (.cells #[.int .i64 1, .int .i64 level, .slice ea e.length ec, .int .i64 bits, .string regs, .int .i64 rows, .int .i64 cols, .slice ca c.length cc, .int .i64 fine, .slice ga g.length gc] 48)) 93 #[.nilIface, .int .i64 0, .int .i64 0]).alloc (.cells #[.int .i64 100] 108)
    rw [h] at this
    exact this
  have HB : Hid (Below w.heap.size w (World.alloc (World.alloc (w.alloc (.cells #[.int .i64 1, .int .i64 level, .slice ea e.length ec, .int .i64 bits, .string regs, .int .i64 rows, .int .i64 cols, .slice ca c.length cc, .int .i64 fine, .slice ga g.length gc] 48)) (.cells #[.nilIface, .int .i64 0, .int .i64 0] 93)) (.cells #[.int .i64 100] 108))) := below_al (below_al (below_al (below_0 w) _) _) _
  have hV : (World.alloc (World.alloc (w.alloc (.cells #[.int .i64 1, .int .i64 level, .slice ea e.length ec, .int .i64 bits, .string regs, .int .i64 rows, .int .i64 cols, .slice ca c.length cc, .int .i64 fine, .slice ga g.length gc] 48)) (.cells #[.nilIface, .int .i64 0, .int .i64 0] 93)) (.cells #[.int .i64 100] 108)).heap.size = w.heap.size + 3 := by simp
  generalize (World.alloc (World.alloc (w.alloc (.cells #[.int .i64 1, .int .i64 level, .slice ea e.length ec, .int .i64 bits, .string regs, .int .i64 rows, .int .i64 cols, .slice ca c.length cc, .int .i64 fine, .slice ga g.length gc] 48)) (.cells #[.nilIface, .int .i64 0, .int .i64 0] 93)) (.cells #[.int .i64 100] 108)) = V at *
  have x0 := XB.out.cell 0
  have x1 := XB.out.cell 1
  simp only [List.getElem?_toArray, List.getElem?_cons_zero, List.getElem?_cons_succ] at x0 x1
  refine wp_region_held_drew (S := fun w' => w'.cell? ⟨w.heap.size, 0, none⟩ = some (.int .i64 1)) (by kernel_rfl) x0 (fun hHeld => ?_)
  have XD := Lib.hid XB.out.drew
  have YD := Lib.hid YB.out.drew
  have HD := Lib.hid HB.out.drew
  have hVD : V.drew.heap.size = w.heap.size + 3 := hV
  clear XB YB HB hV x0 x1
  generalize V.drew = V2 at *
  refine wpAnyH_take (i := 1) (v := (.pointer (some ⟨w.heap.size, 0, none⟩))) rfl (by kernel_rfl) (by kernel_rfl) (by kernel_rfl) (fun _ _ _ h => h) (Or.inl ⟨by rfl, ?_⟩) hHeld ?_
  · (intro w hSw; (try dsimp only at hSw); (try obtain ⟨s0, s1⟩ := hSw); go_simp)
  simp only [Act.put, List.setIfInBounds_toArray, List.set_cons_zero, List.set_cons_succ]
  refine wpAnyH_take (i := 2) (v := (.int .i64 1)) rfl (by kernel_rfl) (by kernel_rfl) (by kernel_rfl) (fun _ _ _ h => h) (Or.inl ⟨by rfl, ?_⟩) hHeld ?_
  · (intro w hSw; (try dsimp only at hSw); (try obtain ⟨s0, s1⟩ := hSw); go_simp)
  simp only [Act.put, List.setIfInBounds_toArray, List.set_cons_zero, List.set_cons_succ]
  refine wpAnyH_ready (rs := [0]) (by kernel_rfl) (by simp) ?_
  refine AllReadyH.cons rfl (fun K0 hK => ?_) AllReadyH.nil
  go_simp
  refine (kinds_any _).mono ?_
  rintro r _ ⟨rfl, rfl⟩
  have HB1 : Hid (Below w.heap.size w (V2.alloc (.map kindsO 3))) := below_al HD.out _
  have XB1 := Lib.hid (XD.out.alloc (.map kindsO 3))
  have YB1 := Lib.hid (YD.out.alloc (.map kindsO 3))
  have kL : (Instr.lookup 111 (.map (some V2.heap.size)) (.int .i64 1) true).run Tryz.prog (V2.alloc (.map kindsO 3)) = .ok (.tuple #[.func (.func 74) #[] #[], .bool true]) (V2.alloc (.map kindsO 3)) := run_look (i := 0) (World.alloc_heap_new V2 _) Tryz.underlying111 Tryz.underlying3 rfl
  have hV1 : (V2.alloc (.map kindsO 3)).heap.size = w.heap.size + 4 := by simp [hVD]
  clear XD YD HD
  rw [hVD] at kL
  generalize V2.alloc (.map kindsO 3) = V1 at *
  have x0 := XB1.out.cell 0
  have x1 := XB1.out.cell 1
  simp only [List.getElem?_toArray, List.getElem?_cons_zero, List.getElem?_cons_succ] at x0 x1
  refine hK.out _ _ x0 (fun hHeld => ?_)
  clear hK K0
  try simp only [Act.put, List.getElem_toArray, List.getElem_cons_succ, List.getElem_cons_zero, List.setIfInBounds_toArray, List.set_cons_zero, List.set_cons_succ]
  refine wpAnyH_ready (rs := [3]) (by kernel_rfl) (by simp) ?_
  refine AllReadyH.cons rfl (fun K0 hK => ?_) AllReadyH.nil
  go_simp
  refine hK.out _ _ x0 (fun hHeld => ?_)
  clear hK K0
  try simp only [Act.put, List.getElem_toArray, List.getElem_cons_succ, List.getElem_cons_zero, List.setIfInBounds_toArray, List.set_cons_zero, List.set_cons_succ]
  refine wpAnyH_take (i := 4) (v := (.tuple #[.func (.func 74) #[] #[], .bool true])) rfl (by kernel_rfl) (by kernel_rfl) (by kernel_rfl) (fun _ _ _ h => h) (Or.inl ⟨by rfl, ?_⟩) hHeld ?_
  · (intro w hSw; (try dsimp only at hSw); (try obtain ⟨s0, s1⟩ := hSw); go_simp)
  simp only [Act.put, List.setIfInBounds_toArray, List.set_cons_zero, List.set_cons_succ]
  refine wpAnyH_take (i := 5) (v := (.func (.func 74) #[] #[])) rfl (by kernel_rfl) (by kernel_rfl) (by kernel_rfl) (fun _ _ _ h => h) (Or.inl ⟨by rfl, ?_⟩) hHeld ?_
  · (intro w hSw; (try dsimp only at hSw); (try obtain ⟨s0, s1⟩ := hSw); go_simp)
  simp only [Act.put, List.setIfInBounds_toArray, List.set_cons_zero, List.set_cons_succ]
  refine wpAnyH_take (i := 6) (v := (.bool true)) rfl (by kernel_rfl) (by kernel_rfl) (by kernel_rfl) (fun _ _ _ h => h) (Or.inl ⟨by rfl, ?_⟩) hHeld ?_
  · (intro w hSw; (try dsimp only at hSw); (try obtain ⟨s0, s1⟩ := hSw); go_simp)
  simp only [Act.put, List.setIfInBounds_toArray, List.set_cons_zero, List.set_cons_succ]
  refine wpAnyH_ready (rs := [7]) (by kernel_rfl) (by simp) ?_
  refine AllReadyH.cons rfl (fun K0 hK => ?_) AllReadyH.nil
  go_simp
  refine hK.out _ _ x0 (fun hHeld => ?_)
  clear hK K0
  try simp only [Act.put, List.getElem_toArray, List.getElem_cons_succ, List.getElem_cons_zero, List.setIfInBounds_toArray, List.set_cons_zero, List.set_cons_succ]
  refine wpAnyH_ready (rs := [8]) (by kernel_rfl) (by simp) ?_
  refine AllReadyH.cons rfl (fun K0 hK => ?_) AllReadyH.nil
  go_simp
  refine hK.out _ _ x0 (fun hHeld => ?_)
  clear hK K0
  try simp only [Act.put, List.getElem_toArray, List.getElem_cons_succ, List.getElem_cons_zero, List.setIfInBounds_toArray, List.set_cons_zero, List.set_cons_succ]
  refine wpAnyH_done (by kernel_rfl) ?_ _
  clear hHeld kL
  have hl2 : decide (level < 0) = false := decide_eq_false (by omega)
  have hl3 : decide (4 < level) = true := decide_eq_true hl1
  have hb4 : bottomF 1 = 4 := by decide
  go_wp2_with fail
  haveI hAW := After.some V1
  have hxw := XB1.out.lt
  have F0 := After.cell x0 hxw
  have F1 := After.cell x1 hxw
  have QB : Hid (∀ y : After V1, Calls Tryz.prog 67 #[.int .i64 1] y.at_ fun r w' => r = .returned (.int .i64 4) ∧ Below y.at_.heap.size y.at_ w') := fun y => (bottom_any 1 y.at_).mono fun _ _ ⟨h1, h2⟩ => ⟨by rw [h1, hb4], h2 ▸ below_0 _⟩
  refine wp_region_below (by kernel_rfl) (by kernel_rfl) ?_
  repeat (go_big_quiet_step (first | with_reducible exact after_calls (QB.out _)))
  refine wpQuiet_nil ?_
  rintro w2 ⟨y2, hy2⟩
  have hb2 : Below V1.heap.size V1 w2 := by rw [hy2]; exact y2.is
  have HB2 := Lib.hid (Below.two HB1.out hb2)
  have XB2 := Lib.hid (XB1.out.later hb2)
  have YB2 := Lib.hid (YB1.out.later hb2)
  clear hy2 y2 hb2 XB1 YB1 HB1 x0 x1 F0 F1 hAW QB hb4 hV1 hxw
  have x0 := XB2.out.cell 0
  have x1 := XB2.out.cell 1
  have x2 := XB2.out.cell 2
  have x3 := XB2.out.cell 3
  have x4 := XB2.out.cell 4
  have x5 := XB2.out.cell 5
  have x6 := XB2.out.cell 6
  have x7 := XB2.out.cell 7
  have x8 := XB2.out.cell 8
  have x9 := XB2.out.cell 9
  have y0 := YB2.out.cell 0
  have y1 := YB2.out.cell 1
  have y2 := YB2.out.cell 2
  simp only [List.getElem?_toArray, List.getElem?_cons_zero, List.getElem?_cons_succ] at x0 x1 x2 x3 x4 x5 x6 x7 x8 x9 y0 y1 y2
  have f0 := YB2.out.frozen 0
  have f1 := YB2.out.frozen 1
  have f2 := YB2.out.frozen 2
  go_wp2_with fail
  have RR9 : Blk (((w2.setCell ⟨w.heap.size + 1, 0, none⟩ .nilIface).setCell ⟨w.heap.size + 1, 1, none⟩ (.int .i64 0)).setCell ⟨w.heap.size + 1, 2, none⟩ (.int .i64 0)) (w.heap.size + 1) 93 #[.nilIface, .int .i64 0, .int .i64 0] := YB2.out.set3
  have HB9 : Hid (Below w.heap.size w (((w2.setCell ⟨w.heap.size + 1, 0, none⟩ .nilIface).setCell ⟨w.heap.size + 1, 1, none⟩ (.int .i64 0)).setCell ⟨w.heap.size + 1, 2, none⟩ (.int .i64 0))) := ((HB2.out.setCell (by simp) _).setCell (by simp) _).setCell (by simp) _
  have q0 := RR9.cell 0
  have q1 := RR9.cell 1
  have q2 := RR9.cell 2
  simp only [List.getElem?_toArray, List.getElem?_cons_zero, List.getElem?_cons_succ] at q0 q1 q2
  clear RR9
  generalize (((w2.setCell ⟨w.heap.size + 1, 0, none⟩ .nilIface).setCell ⟨w.heap.size + 1, 1, none⟩ (.int .i64 0)).setCell ⟨w.heap.size + 1, 2, none⟩ (.int .i64 0)) = W9 at *
  refine bodyPost_ret (v := .tuple #[.agg #[.nilIface, .int .i64 0, .int .i64 0], .iface 106 (.pointer (some ⟨w.heap.size + 1 + 1, 0, none⟩))]) (by simp [results, Tryz.results57, go_sem, q0, q1, q2]) rfl ?_
  exact ⟨_, _, _, _, rfl, .inl rfl, ⟨_, rfl⟩, HB9.out⟩
set_option maxRecDepth 100000 in
set_option maxHeartbeats 8000000 in
theorem open_neg2 (m : SkM) (hk : m.s.kind = 2) (hl0 : m.s.level < 0) (w : World) (hm : SkOk w w.heap.size m) (hf : SkFit m.s) :
    Calls Tryz.prog 57 #[skV m] w (OpRet w false) := by
  have HM := Lib.hid hm
  clear hm hf
  obtain ⟨⟨kind, level, e, bits, regs, rows, cols, c, fine, g⟩, ea, ec, ca, cc, ga, gc⟩ := m
  simp only at hk hl0
  subst hk
  have hMEM : Hid (∀ w', Below w.heap.size w w' → SkOk w' w'.heap.size _) := fun w' h => HM.out.later h
  go_enter Tryz.func57, Tryz.ntmps57
  unfold skV
  simp only
  go_wp2_with fail
  have XB : Hid (Blk (World.alloc (World.alloc (w.alloc (.cells #[.int .i64 2, .int .i64 level, .slice ea e.length ec, .int .i64 bits, .string regs, .int .i64 rows, .int .i64 cols, .slice ca c.length cc, .int .i64 fine, .slice ga g.length gc] 48)) (.cells #[.nilIface, .int .i64 0, .int .i64 0] 93)) (.cells #[.int .i64 100] 108)) w.heap.size 48 #[.int .i64 2, .int .i64 level, .slice ea e.length ec, .int .i64 bits, .string regs, .int .i64 rows, .int .i64 cols, .slice ca c.length cc, .int .i64 fine, .slice ga g.length gc]) := ((Blk.new w 48 #[.int .i64 2, .int .i64 level, .slice ea e.length ec, .int .i64 bits, .string regs, .int .i64 rows, .int .i64 cols, .slice ca c.length cc, .int .i64 fine, .slice ga g.length gc]).alloc _).alloc _
  have YB : Hid (Blk (World.alloc (World.alloc (w.alloc (.cells #[.int .i64 2, .int .i64 level, .slice ea e.length ec, .int .i64 bits, .string regs, .int .i64 rows, .int .i64 cols, .slice ca c.length cc, .int .i64 fine, .slice ga g.length gc] 48)) (.cells #[.nilIface, .int .i64 0, .int .i64 0] 93)) (.cells #[.int .i64 100] 108)) (w.heap.size + 1) 93 #[.nilIface, .int .i64 0, .int .i64 0]) := by
    have h : (w.alloc (.cells #[.int .i64 2, .int .i64 level, .slice ea e.length ec, .int .i64 bits, .string regs, .int .i64 rows, .int .i64 cols, .slice ca c.length cc, .int .i64 fine, .slice ga g.length gc] 48)).heap.size = w.heap.size + 1 := by simp
    have := (Blk.new (w.alloc (.cells #[.int .i64 2, .int .i64 level, .slice ea e.length ec, .int .i64 bits, .string regs, .int .i64 rows, .int .i64 cols, .slice ca c.length cc, .int .i64 fine, .slice ga g.length gc] 48)) 93 #[.nilIface, .int .i64 0, .int .i64 0]).alloc (.cells #[.int .i64 100] 108)
    rw [h] at this
    exact this
  have HB : Hid (Below w.heap.size w (World.alloc (World.alloc (w.alloc (.cells #[.int .i64 2, .int .i64 level, .slice ea e.length ec, .int .i64 bits, .string regs, .int .i64 rows, .int .i64 cols, .slice ca c.length cc, .int .i64 fine, .slice ga g.length gc] 48)) (.cells #[.nilIface, .int .i64 0, .int .i64 0] 93)) (.cells #[.int .i64 100] 108))) := below_al (below_al (below_al (below_0 w) _) _) _
  have hV : (World.alloc (World.alloc (w.alloc (.cells #[.int .i64 2, .int .i64 level, .slice ea e.length ec, .int .i64 bits, .string regs, .int .i64 rows, .int .i64 cols, .slice ca c.length cc, .int .i64 fine, .slice ga g.length gc] 48)) (.cells #[.nilIface, .int .i64 0, .int .i64 0] 93)) (.cells #[.int .i64 100] 108)).heap.size = w.heap.size + 3 := by simp
  generalize (World.alloc (World.alloc (w.alloc (.cells #[.int .i64 2, .int .i64 level, .slice ea e.length ec, .int .i64 bits, .string regs, .int .i64 rows, .int .i64 cols, .slice ca c.length cc, .int .i64 fine, .slice ga g.length gc] 48)) (.cells #[.nilIface, .int .i64 0, .int .i64 0] 93)) (.cells #[.int .i64 100] 108)) = V at *
  have x0 := XB.out.cell 0
  have x1 := XB.out.cell 1
  simp only [List.getElem?_toArray, List.getElem?_cons_zero, List.getElem?_cons_succ] at x0 x1
  refine wp_region_held_drew (S := fun w' => w'.cell? ⟨w.heap.size, 0, none⟩ = some (.int .i64 2)) (by kernel_rfl) x0 (fun hHeld => ?_)
  have XD := Lib.hid XB.out.drew
  have YD := Lib.hid YB.out.drew
  have HD := Lib.hid HB.out.drew
  have hVD : V.drew.heap.size = w.heap.size + 3 := hV
  clear XB YB HB hV x0 x1
  generalize V.drew = V2 at *
  refine wpAnyH_take (i := 1) (v := (.pointer (some ⟨w.heap.size, 0, none⟩))) rfl (by kernel_rfl) (by kernel_rfl) (by kernel_rfl) (fun _ _ _ h => h) (Or.inl ⟨by rfl, ?_⟩) hHeld ?_
  · (intro w hSw; (try dsimp only at hSw); (try obtain ⟨s0, s1⟩ := hSw); go_simp)
  simp only [Act.put, List.setIfInBounds_toArray, List.set_cons_zero, List.set_cons_succ]
  refine wpAnyH_take (i := 2) (v := (.int .i64 2)) rfl (by kernel_rfl) (by kernel_rfl) (by kernel_rfl) (fun _ _ _ h => h) (Or.inl ⟨by rfl, ?_⟩) hHeld ?_
  · (intro w hSw; (try dsimp only at hSw); (try obtain ⟨s0, s1⟩ := hSw); go_simp)
  simp only [Act.put, List.setIfInBounds_toArray, List.set_cons_zero, List.set_cons_succ]
  refine wpAnyH_ready (rs := [0]) (by kernel_rfl) (by simp) ?_
  refine AllReadyH.cons rfl (fun K0 hK => ?_) AllReadyH.nil
  go_simp
  refine (kinds_any _).mono ?_
  rintro r _ ⟨rfl, rfl⟩
  have HB1 : Hid (Below w.heap.size w (V2.alloc (.map kindsO 3))) := below_al HD.out _
  have XB1 := Lib.hid (XD.out.alloc (.map kindsO 3))
  have YB1 := Lib.hid (YD.out.alloc (.map kindsO 3))
  have kL : (Instr.lookup 111 (.map (some V2.heap.size)) (.int .i64 2) true).run Tryz.prog (V2.alloc (.map kindsO 3)) = .ok (.tuple #[.func (.func 75) #[] #[], .bool true]) (V2.alloc (.map kindsO 3)) := run_look (i := 1) (World.alloc_heap_new V2 _) Tryz.underlying111 Tryz.underlying3 rfl
  have hV1 : (V2.alloc (.map kindsO 3)).heap.size = w.heap.size + 4 := by simp [hVD]
  clear XD YD HD
  rw [hVD] at kL
  generalize V2.alloc (.map kindsO 3) = V1 at *
  have x0 := XB1.out.cell 0
  have x1 := XB1.out.cell 1
  simp only [List.getElem?_toArray, List.getElem?_cons_zero, List.getElem?_cons_succ] at x0 x1
  refine hK.out _ _ x0 (fun hHeld => ?_)
  clear hK K0
  try simp only [Act.put, List.getElem_toArray, List.getElem_cons_succ, List.getElem_cons_zero, List.setIfInBounds_toArray, List.set_cons_zero, List.set_cons_succ]
  refine wpAnyH_ready (rs := [3]) (by kernel_rfl) (by simp) ?_
  refine AllReadyH.cons rfl (fun K0 hK => ?_) AllReadyH.nil
  go_simp
  refine hK.out _ _ x0 (fun hHeld => ?_)
  clear hK K0
  try simp only [Act.put, List.getElem_toArray, List.getElem_cons_succ, List.getElem_cons_zero, List.setIfInBounds_toArray, List.set_cons_zero, List.set_cons_succ]
  refine wpAnyH_take (i := 4) (v := (.tuple #[.func (.func 75) #[] #[], .bool true])) rfl (by kernel_rfl) (by kernel_rfl) (by kernel_rfl) (fun _ _ _ h => h) (Or.inl ⟨by rfl, ?_⟩) hHeld ?_
  · (intro w hSw; (try dsimp only at hSw); (try obtain ⟨s0, s1⟩ := hSw); go_simp)
  simp only [Act.put, List.setIfInBounds_toArray, List.set_cons_zero, List.set_cons_succ]
  refine wpAnyH_take (i := 5) (v := (.func (.func 75) #[] #[])) rfl (by kernel_rfl) (by kernel_rfl) (by kernel_rfl) (fun _ _ _ h => h) (Or.inl ⟨by rfl, ?_⟩) hHeld ?_
  · (intro w hSw; (try dsimp only at hSw); (try obtain ⟨s0, s1⟩ := hSw); go_simp)
  simp only [Act.put, List.setIfInBounds_toArray, List.set_cons_zero, List.set_cons_succ]
  refine wpAnyH_take (i := 6) (v := (.bool true)) rfl (by kernel_rfl) (by kernel_rfl) (by kernel_rfl) (fun _ _ _ h => h) (Or.inl ⟨by rfl, ?_⟩) hHeld ?_
  · (intro w hSw; (try dsimp only at hSw); (try obtain ⟨s0, s1⟩ := hSw); go_simp)
  simp only [Act.put, List.setIfInBounds_toArray, List.set_cons_zero, List.set_cons_succ]
  refine wpAnyH_ready (rs := [7]) (by kernel_rfl) (by simp) ?_
  refine AllReadyH.cons rfl (fun K0 hK => ?_) AllReadyH.nil
  go_simp
  refine hK.out _ _ x0 (fun hHeld => ?_)
  clear hK K0
  try simp only [Act.put, List.getElem_toArray, List.getElem_cons_succ, List.getElem_cons_zero, List.setIfInBounds_toArray, List.set_cons_zero, List.set_cons_succ]
  refine wpAnyH_ready (rs := [8]) (by kernel_rfl) (by simp) ?_
  refine AllReadyH.cons rfl (fun K0 hK => ?_) AllReadyH.nil
  go_simp
  refine hK.out _ _ x0 (fun hHeld => ?_)
  clear hK K0
  try simp only [Act.put, List.getElem_toArray, List.getElem_cons_succ, List.getElem_cons_zero, List.setIfInBounds_toArray, List.set_cons_zero, List.set_cons_succ]
  refine wpAnyH_done (by kernel_rfl) ?_ _
  clear hHeld kL
  have hl2 : decide (level < 0) = true := decide_eq_true hl0
  have hl3 : True := trivial
  have hb4 : bottomF 2 = 3 := by decide
  go_wp2_with fail
  haveI hAW := After.some V1
  have hxw := XB1.out.lt
  have F0 := After.cell x0 hxw
  have F1 := After.cell x1 hxw
  have QB : Hid (∀ y : After V1, Calls Tryz.prog 67 #[.int .i64 2] y.at_ fun r w' => r = .returned (.int .i64 3) ∧ Below y.at_.heap.size y.at_ w') := fun y => (bottom_any 2 y.at_).mono fun _ _ ⟨h1, h2⟩ => ⟨by rw [h1, hb4], h2 ▸ below_0 _⟩
  refine wp_region_below (by kernel_rfl) (by kernel_rfl) ?_
  repeat (go_big_quiet_step (first | with_reducible exact after_calls (QB.out _)))
  refine wpQuiet_nil ?_
  rintro w2 ⟨y2, hy2⟩
  have hb2 : Below V1.heap.size V1 w2 := by rw [hy2]; exact y2.is
  have HB2 := Lib.hid (Below.two HB1.out hb2)
  have XB2 := Lib.hid (XB1.out.later hb2)
  have YB2 := Lib.hid (YB1.out.later hb2)
  clear hy2 y2 hb2 XB1 YB1 HB1 x0 x1 F0 F1 hAW QB hb4 hV1 hxw
  have x0 := XB2.out.cell 0
  have x1 := XB2.out.cell 1
  have x2 := XB2.out.cell 2
  have x3 := XB2.out.cell 3
  have x4 := XB2.out.cell 4
  have x5 := XB2.out.cell 5
  have x6 := XB2.out.cell 6
  have x7 := XB2.out.cell 7
  have x8 := XB2.out.cell 8
  have x9 := XB2.out.cell 9
  have y0 := YB2.out.cell 0
  have y1 := YB2.out.cell 1
  have y2 := YB2.out.cell 2
  simp only [List.getElem?_toArray, List.getElem?_cons_zero, List.getElem?_cons_succ] at x0 x1 x2 x3 x4 x5 x6 x7 x8 x9 y0 y1 y2
  have f0 := YB2.out.frozen 0
  have f1 := YB2.out.frozen 1
  have f2 := YB2.out.frozen 2
  go_wp2_with fail
  have RR9 : Blk (((w2.setCell ⟨w.heap.size + 1, 0, none⟩ .nilIface).setCell ⟨w.heap.size + 1, 1, none⟩ (.int .i64 0)).setCell ⟨w.heap.size + 1, 2, none⟩ (.int .i64 0)) (w.heap.size + 1) 93 #[.nilIface, .int .i64 0, .int .i64 0] := YB2.out.set3
  have HB9 : Hid (Below w.heap.size w (((w2.setCell ⟨w.heap.size + 1, 0, none⟩ .nilIface).setCell ⟨w.heap.size + 1, 1, none⟩ (.int .i64 0)).setCell ⟨w.heap.size + 1, 2, none⟩ (.int .i64 0))) := ((HB2.out.setCell (by simp) _).setCell (by simp) _).setCell (by simp) _
  have q0 := RR9.cell 0
  have q1 := RR9.cell 1
  have q2 := RR9.cell 2
  simp only [List.getElem?_toArray, List.getElem?_cons_zero, List.getElem?_cons_succ] at q0 q1 q2
  clear RR9
  generalize (((w2.setCell ⟨w.heap.size + 1, 0, none⟩ .nilIface).setCell ⟨w.heap.size + 1, 1, none⟩ (.int .i64 0)).setCell ⟨w.heap.size + 1, 2, none⟩ (.int .i64 0)) = W9 at *
  refine bodyPost_ret (v := .tuple #[.agg #[.nilIface, .int .i64 0, .int .i64 0], .iface 106 (.pointer (some ⟨w.heap.size + 1 + 1, 0, none⟩))]) (by simp [results, Tryz.results57, go_sem, q0, q1, q2]) rfl ?_
  exact ⟨_, _, _, _, rfl, .inl rfl, ⟨_, rfl⟩, HB9.out⟩
set_option maxRecDepth 100000 in
set_option maxHeartbeats 8000000 in
theorem open_big2 (m : SkM) (hk : m.s.kind = 2) (hl0 : 0 ≤ m.s.level) (hl1 : 3 < m.s.level) (w : World) (hm : SkOk w w.heap.size m) (hf : SkFit m.s) :
    Calls Tryz.prog 57 #[skV m] w (OpRet w false) := by
  have HM := Lib.hid hm
  clear hm hf
  obtain ⟨⟨kind, level, e, bits, regs, rows, cols, c, fine, g⟩, ea, ec, ca, cc, ga, gc⟩ := m
  simp only at hk hl0 hl1
  subst hk
  have hMEM : Hid (∀ w', Below w.heap.size w w' → SkOk w' w'.heap.size _) := fun w' h => HM.out.later h
  go_enter Tryz.func57, Tryz.ntmps57
  unfold skV
  simp only
  go_wp2_with fail
  have XB : Hid (Blk (World.alloc (World.alloc (w.alloc (.cells #[.int .i64 2, .int .i64 level, .slice ea e.length ec, .int .i64 bits, .string regs, .int .i64 rows, .int .i64 cols, .slice ca c.length cc, .int .i64 fine, .slice ga g.length gc] 48)) (.cells #[.nilIface, .int .i64 0, .int .i64 0] 93)) (.cells #[.int .i64 100] 108)) w.heap.size 48 #[.int .i64 2, .int .i64 level, .slice ea e.length ec, .int .i64 bits, .string regs, .int .i64 rows, .int .i64 cols, .slice ca c.length cc, .int .i64 fine, .slice ga g.length gc]) := ((Blk.new w 48 #[.int .i64 2, .int .i64 level, .slice ea e.length ec, .int .i64 bits, .string regs, .int .i64 rows, .int .i64 cols, .slice ca c.length cc, .int .i64 fine, .slice ga g.length gc]).alloc _).alloc _
  have YB : Hid (Blk (World.alloc (World.alloc (w.alloc (.cells #[.int .i64 2, .int .i64 level, .slice ea e.length ec, .int .i64 bits, .string regs, .int .i64 rows, .int .i64 cols, .slice ca c.length cc, .int .i64 fine, .slice ga g.length gc] 48)) (.cells #[.nilIface, .int .i64 0, .int .i64 0] 93)) (.cells #[.int .i64 100] 108)) (w.heap.size + 1) 93 #[.nilIface, .int .i64 0, .int .i64 0]) := by
    have h : (w.alloc (.cells #[.int .i64 2, .int .i64 level, .slice ea e.length ec, .int .i64 bits, .string regs, .int .i64 rows, .int .i64 cols, .slice ca c.length cc, .int .i64 fine, .slice ga g.length gc] 48)).heap.size = w.heap.size + 1 := by simp
    have := (Blk.new (w.alloc (.cells #[.int .i64 2, .int .i64 level, .slice ea e.length ec, .int .i64 bits, .string regs, .int .i64 rows, .int .i64 cols, .slice ca c.length cc, .int .i64 fine, .slice ga g.length gc] 48)) 93 #[.nilIface, .int .i64 0, .int .i64 0]).alloc (.cells #[.int .i64 100] 108)
    rw [h] at this
    exact this
  have HB : Hid (Below w.heap.size w (World.alloc (World.alloc (w.alloc (.cells #[.int .i64 2, .int .i64 level, .slice ea e.length ec, .int .i64 bits, .string regs, .int .i64 rows, .int .i64 cols, .slice ca c.length cc, .int .i64 fine, .slice ga g.length gc] 48)) (.cells #[.nilIface, .int .i64 0, .int .i64 0] 93)) (.cells #[.int .i64 100] 108))) := below_al (below_al (below_al (below_0 w) _) _) _
  have hV : (World.alloc (World.alloc (w.alloc (.cells #[.int .i64 2, .int .i64 level, .slice ea e.length ec, .int .i64 bits, .string regs, .int .i64 rows, .int .i64 cols, .slice ca c.length cc, .int .i64 fine, .slice ga g.length gc] 48)) (.cells #[.nilIface, .int .i64 0, .int .i64 0] 93)) (.cells #[.int .i64 100] 108)).heap.size = w.heap.size + 3 := by simp
  generalize (World.alloc (World.alloc (w.alloc (.cells #[.int .i64 2, .int .i64 level, .slice ea e.length ec, .int .i64 bits, .string regs, .int .i64 rows, .int .i64 cols, .slice ca c.length cc, .int .i64 fine, .slice ga g.length gc] 48)) (.cells #[.nilIface, .int .i64 0, .int .i64 0] 93)) (.cells #[.int .i64 100] 108)) = V at *
  have x0 := XB.out.cell 0
  have x1 := XB.out.cell 1
  simp only [List.getElem?_toArray, List.getElem?_cons_zero, List.getElem?_cons_succ] at x0 x1
  refine wp_region_held_drew (S := fun w' => w'.cell? ⟨w.heap.size, 0, none⟩ = some (.int .i64 2)) (by kernel_rfl) x0 (fun hHeld => ?_)
  have XD := Lib.hid XB.out.drew
  have YD := Lib.hid YB.out.drew
  have HD := Lib.hid HB.out.drew
  have hVD : V.drew.heap.size = w.heap.size + 3 := hV
  clear XB YB HB hV x0 x1
  generalize V.drew = V2 at *
  refine wpAnyH_take (i := 1) (v := (.pointer (some ⟨w.heap.size, 0, none⟩))) rfl (by kernel_rfl) (by kernel_rfl) (by kernel_rfl) (fun _ _ _ h => h) (Or.inl ⟨by rfl, ?_⟩) hHeld ?_
  · (intro w hSw; (try dsimp only at hSw); (try obtain ⟨s0, s1⟩ := hSw); go_simp)
  simp only [Act.put, List.setIfInBounds_toArray, List.set_cons_zero, List.set_cons_succ]
  refine wpAnyH_take (i := 2) (v := (.int .i64 2)) rfl (by kernel_rfl) (by kernel_rfl) (by kernel_rfl) (fun _ _ _ h => h) (Or.inl ⟨by rfl, ?_⟩) hHeld ?_
  · (intro w hSw; (try dsimp only at hSw); (try obtain ⟨s0, s1⟩ := hSw); go_simp)
  simp only [Act.put, List.setIfInBounds_toArray, List.set_cons_zero, List.set_cons_succ]
  refine wpAnyH_ready (rs := [0]) (by kernel_rfl) (by simp) ?_
  refine AllReadyH.cons rfl (fun K0 hK => ?_) AllReadyH.nil
  go_simp
  refine (kinds_any _).mono ?_
  rintro r _ ⟨rfl, rfl⟩
  have HB1 : Hid (Below w.heap.size w (V2.alloc (.map kindsO 3))) := below_al HD.out _
  have XB1 := Lib.hid (XD.out.alloc (.map kindsO 3))
  have YB1 := Lib.hid (YD.out.alloc (.map kindsO 3))
  have kL : (Instr.lookup 111 (.map (some V2.heap.size)) (.int .i64 2) true).run Tryz.prog (V2.alloc (.map kindsO 3)) = .ok (.tuple #[.func (.func 75) #[] #[], .bool true]) (V2.alloc (.map kindsO 3)) := run_look (i := 1) (World.alloc_heap_new V2 _) Tryz.underlying111 Tryz.underlying3 rfl
  have hV1 : (V2.alloc (.map kindsO 3)).heap.size = w.heap.size + 4 := by simp [hVD]
  clear XD YD HD
  rw [hVD] at kL
  generalize V2.alloc (.map kindsO 3) = V1 at *
  have x0 := XB1.out.cell 0
  have x1 := XB1.out.cell 1
  simp only [List.getElem?_toArray, List.getElem?_cons_zero, List.getElem?_cons_succ] at x0 x1
  refine hK.out _ _ x0 (fun hHeld => ?_)
  clear hK K0
  try simp only [Act.put, List.getElem_toArray, List.getElem_cons_succ, List.getElem_cons_zero, List.setIfInBounds_toArray, List.set_cons_zero, List.set_cons_succ]
  refine wpAnyH_ready (rs := [3]) (by kernel_rfl) (by simp) ?_
  refine AllReadyH.cons rfl (fun K0 hK => ?_) AllReadyH.nil
  go_simp
  refine hK.out _ _ x0 (fun hHeld => ?_)
  clear hK K0
  try simp only [Act.put, List.getElem_toArray, List.getElem_cons_succ, List.getElem_cons_zero, List.setIfInBounds_toArray, List.set_cons_zero, List.set_cons_succ]
  refine wpAnyH_take (i := 4) (v := (.tuple #[.func (.func 75) #[] #[], .bool true])) rfl (by kernel_rfl) (by kernel_rfl) (by kernel_rfl) (fun _ _ _ h => h) (Or.inl ⟨by rfl, ?_⟩) hHeld ?_
  · (intro w hSw; (try dsimp only at hSw); (try obtain ⟨s0, s1⟩ := hSw); go_simp)
  simp only [Act.put, List.setIfInBounds_toArray, List.set_cons_zero, List.set_cons_succ]
  refine wpAnyH_take (i := 5) (v := (.func (.func 75) #[] #[])) rfl (by kernel_rfl) (by kernel_rfl) (by kernel_rfl) (fun _ _ _ h => h) (Or.inl ⟨by rfl, ?_⟩) hHeld ?_
  · (intro w hSw; (try dsimp only at hSw); (try obtain ⟨s0, s1⟩ := hSw); go_simp)
  simp only [Act.put, List.setIfInBounds_toArray, List.set_cons_zero, List.set_cons_succ]
  refine wpAnyH_take (i := 6) (v := (.bool true)) rfl (by kernel_rfl) (by kernel_rfl) (by kernel_rfl) (fun _ _ _ h => h) (Or.inl ⟨by rfl, ?_⟩) hHeld ?_
  · (intro w hSw; (try dsimp only at hSw); (try obtain ⟨s0, s1⟩ := hSw); go_simp)
  simp only [Act.put, List.setIfInBounds_toArray, List.set_cons_zero, List.set_cons_succ]
  refine wpAnyH_ready (rs := [7]) (by kernel_rfl) (by simp) ?_
  refine AllReadyH.cons rfl (fun K0 hK => ?_) AllReadyH.nil
  go_simp
  refine hK.out _ _ x0 (fun hHeld => ?_)
  clear hK K0
  try simp only [Act.put, List.getElem_toArray, List.getElem_cons_succ, List.getElem_cons_zero, List.setIfInBounds_toArray, List.set_cons_zero, List.set_cons_succ]
  refine wpAnyH_ready (rs := [8]) (by kernel_rfl) (by simp) ?_
  refine AllReadyH.cons rfl (fun K0 hK => ?_) AllReadyH.nil
  go_simp
  refine hK.out _ _ x0 (fun hHeld => ?_)
  clear hK K0
  try simp only [Act.put, List.getElem_toArray, List.getElem_cons_succ, List.getElem_cons_zero, List.setIfInBounds_toArray, List.set_cons_zero, List.set_cons_succ]
  refine wpAnyH_done (by kernel_rfl) ?_ _
  clear hHeld kL
  have hl2 : decide (level < 0) = false := decide_eq_false (by omega)
  have hl3 : decide (3 < level) = true := decide_eq_true hl1
  have hb4 : bottomF 2 = 3 := by decide
  go_wp2_with fail
  haveI hAW := After.some V1
  have hxw := XB1.out.lt
  have F0 := After.cell x0 hxw
  have F1 := After.cell x1 hxw
  have QB : Hid (∀ y : After V1, Calls Tryz.prog 67 #[.int .i64 2] y.at_ fun r w' => r = .returned (.int .i64 3) ∧ Below y.at_.heap.size y.at_ w') := fun y => (bottom_any 2 y.at_).mono fun _ _ ⟨h1, h2⟩ => ⟨by rw [h1, hb4], h2 ▸ below_0 _⟩
  refine wp_region_below (by kernel_rfl) (by kernel_rfl) ?_
  repeat (go_big_quiet_step (first | with_reducible exact after_calls (QB.out _)))
  refine wpQuiet_nil ?_
  rintro w2 ⟨y2, hy2⟩
  have hb2 : Below V1.heap.size V1 w2 := by rw [hy2]; exact y2.is
  have HB2 := Lib.hid (Below.two HB1.out hb2)
  have XB2 := Lib.hid (XB1.out.later hb2)
  have YB2 := Lib.hid (YB1.out.later hb2)
  clear hy2 y2 hb2 XB1 YB1 HB1 x0 x1 F0 F1 hAW QB hb4 hV1 hxw
  have x0 := XB2.out.cell 0
  have x1 := XB2.out.cell 1
  have x2 := XB2.out.cell 2
  have x3 := XB2.out.cell 3
  have x4 := XB2.out.cell 4
  have x5 := XB2.out.cell 5
  have x6 := XB2.out.cell 6
  have x7 := XB2.out.cell 7
  have x8 := XB2.out.cell 8
  have x9 := XB2.out.cell 9
  have y0 := YB2.out.cell 0
  have y1 := YB2.out.cell 1
  have y2 := YB2.out.cell 2
  simp only [List.getElem?_toArray, List.getElem?_cons_zero, List.getElem?_cons_succ] at x0 x1 x2 x3 x4 x5 x6 x7 x8 x9 y0 y1 y2
  have f0 := YB2.out.frozen 0
  have f1 := YB2.out.frozen 1
  have f2 := YB2.out.frozen 2
  go_wp2_with fail
  have RR9 : Blk (((w2.setCell ⟨w.heap.size + 1, 0, none⟩ .nilIface).setCell ⟨w.heap.size + 1, 1, none⟩ (.int .i64 0)).setCell ⟨w.heap.size + 1, 2, none⟩ (.int .i64 0)) (w.heap.size + 1) 93 #[.nilIface, .int .i64 0, .int .i64 0] := YB2.out.set3
  have HB9 : Hid (Below w.heap.size w (((w2.setCell ⟨w.heap.size + 1, 0, none⟩ .nilIface).setCell ⟨w.heap.size + 1, 1, none⟩ (.int .i64 0)).setCell ⟨w.heap.size + 1, 2, none⟩ (.int .i64 0))) := ((HB2.out.setCell (by simp) _).setCell (by simp) _).setCell (by simp) _
  have q0 := RR9.cell 0
  have q1 := RR9.cell 1
  have q2 := RR9.cell 2
  simp only [List.getElem?_toArray, List.getElem?_cons_zero, List.getElem?_cons_succ] at q0 q1 q2
  clear RR9
  generalize (((w2.setCell ⟨w.heap.size + 1, 0, none⟩ .nilIface).setCell ⟨w.heap.size + 1, 1, none⟩ (.int .i64 0)).setCell ⟨w.heap.size + 1, 2, none⟩ (.int .i64 0)) = W9 at *
  refine bodyPost_ret (v := .tuple #[.agg #[.nilIface, .int .i64 0, .int .i64 0], .iface 106 (.pointer (some ⟨w.heap.size + 1 + 1, 0, none⟩))]) (by simp [results, Tryz.results57, go_sem, q0, q1, q2]) rfl ?_
  exact ⟨_, _, _, _, rfl, .inl rfl, ⟨_, rfl⟩, HB9.out⟩
set_option maxRecDepth 100000 in
set_option maxHeartbeats 8000000 in
theorem open_neg3 (m : SkM) (hk : m.s.kind = 3) (hl0 : m.s.level < 0) (w : World) (hm : SkOk w w.heap.size m) (hf : SkFit m.s) :
    Calls Tryz.prog 57 #[skV m] w (OpRet w false) := by
  have HM := Lib.hid hm
  clear hm hf
  obtain ⟨⟨kind, level, e, bits, regs, rows, cols, c, fine, g⟩, ea, ec, ca, cc, ga, gc⟩ := m
  simp only at hk hl0
  subst hk
  have hMEM : Hid (∀ w', Below w.heap.size w w' → SkOk w' w'.heap.size _) := fun w' h => HM.out.later h
  go_enter Tryz.func57, Tryz.ntmps57
  unfold skV
  simp only
  go_wp2_with fail
  have XB : Hid (Blk (World.alloc (World.alloc (w.alloc (.cells #[.int .i64 3, .int .i64 level, .slice ea e.length ec, .int .i64 bits, .string regs, .int .i64 rows, .int .i64 cols, .slice ca c.length cc, .int .i64 fine, .slice ga g.length gc] 48)) (.cells #[.nilIface, .int .i64 0, .int .i64 0] 93)) (.cells #[.int .i64 100] 108)) w.heap.size 48 #[.int .i64 3, .int .i64 level, .slice ea e.length ec, .int .i64 bits, .string regs, .int .i64 rows, .int .i64 cols, .slice ca c.length cc, .int .i64 fine, .slice ga g.length gc]) := ((Blk.new w 48 #[.int .i64 3, .int .i64 level, .slice ea e.length ec, .int .i64 bits, .string regs, .int .i64 rows, .int .i64 cols, .slice ca c.length cc, .int .i64 fine, .slice ga g.length gc]).alloc _).alloc _
  have YB : Hid (Blk (World.alloc (World.alloc (w.alloc (.cells #[.int .i64 3, .int .i64 level, .slice ea e.length ec, .int .i64 bits, .string regs, .int .i64 rows, .int .i64 cols, .slice ca c.length cc, .int .i64 fine, .slice ga g.length gc] 48)) (.cells #[.nilIface, .int .i64 0, .int .i64 0] 93)) (.cells #[.int .i64 100] 108)) (w.heap.size + 1) 93 #[.nilIface, .int .i64 0, .int .i64 0]) := by
    have h : (w.alloc (.cells #[.int .i64 3, .int .i64 level, .slice ea e.length ec, .int .i64 bits, .string regs, .int .i64 rows, .int .i64 cols, .slice ca c.length cc, .int .i64 fine, .slice ga g.length gc] 48)).heap.size = w.heap.size + 1 := by simp
    have := (Blk.new (w.alloc (.cells #[.int .i64 3, .int .i64 level, .slice ea e.length ec, .int .i64 bits, .string regs, .int .i64 rows, .int .i64 cols, .slice ca c.length cc, .int .i64 fine, .slice ga g.length gc] 48)) 93 #[.nilIface, .int .i64 0, .int .i64 0]).alloc (.cells #[.int .i64 100] 108)
    rw [h] at this
    exact this
  have HB : Hid (Below w.heap.size w (World.alloc (World.alloc (w.alloc (.cells #[.int .i64 3, .int .i64 level, .slice ea e.length ec, .int .i64 bits, .string regs, .int .i64 rows, .int .i64 cols, .slice ca c.length cc, .int .i64 fine, .slice ga g.length gc] 48)) (.cells #[.nilIface, .int .i64 0, .int .i64 0] 93)) (.cells #[.int .i64 100] 108))) := below_al (below_al (below_al (below_0 w) _) _) _
  have hV : (World.alloc (World.alloc (w.alloc (.cells #[.int .i64 3, .int .i64 level, .slice ea e.length ec, .int .i64 bits, .string regs, .int .i64 rows, .int .i64 cols, .slice ca c.length cc, .int .i64 fine, .slice ga g.length gc] 48)) (.cells #[.nilIface, .int .i64 0, .int .i64 0] 93)) (.cells #[.int .i64 100] 108)).heap.size = w.heap.size + 3 := by simp
  generalize (World.alloc (World.alloc (w.alloc (.cells #[.int .i64 3, .int .i64 level, .slice ea e.length ec, .int .i64 bits, .string regs, .int .i64 rows, .int .i64 cols, .slice ca c.length cc, .int .i64 fine, .slice ga g.length gc] 48)) (.cells #[.nilIface, .int .i64 0, .int .i64 0] 93)) (.cells #[.int .i64 100] 108)) = V at *
  have x0 := XB.out.cell 0
  have x1 := XB.out.cell 1
  simp only [List.getElem?_toArray, List.getElem?_cons_zero, List.getElem?_cons_succ] at x0 x1
  refine wp_region_held_drew (S := fun w' => w'.cell? ⟨w.heap.size, 0, none⟩ = some (.int .i64 3)) (by kernel_rfl) x0 (fun hHeld => ?_)
  have XD := Lib.hid XB.out.drew
  have YD := Lib.hid YB.out.drew
  have HD := Lib.hid HB.out.drew
  have hVD : V.drew.heap.size = w.heap.size + 3 := hV
  clear XB YB HB hV x0 x1
  generalize V.drew = V2 at *
  refine wpAnyH_take (i := 1) (v := (.pointer (some ⟨w.heap.size, 0, none⟩))) rfl (by kernel_rfl) (by kernel_rfl) (by kernel_rfl) (fun _ _ _ h => h) (Or.inl ⟨by rfl, ?_⟩) hHeld ?_
  · (intro w hSw; (try dsimp only at hSw); (try obtain ⟨s0, s1⟩ := hSw); go_simp)
  simp only [Act.put, List.setIfInBounds_toArray, List.set_cons_zero, List.set_cons_succ]
  refine wpAnyH_take (i := 2) (v := (.int .i64 3)) rfl (by kernel_rfl) (by kernel_rfl) (by kernel_rfl) (fun _ _ _ h => h) (Or.inl ⟨by rfl, ?_⟩) hHeld ?_
  · (intro w hSw; (try dsimp only at hSw); (try obtain ⟨s0, s1⟩ := hSw); go_simp)
  simp only [Act.put, List.setIfInBounds_toArray, List.set_cons_zero, List.set_cons_succ]
  refine wpAnyH_ready (rs := [0]) (by kernel_rfl) (by simp) ?_
  refine AllReadyH.cons rfl (fun K0 hK => ?_) AllReadyH.nil
  go_simp
  refine (kinds_any _).mono ?_
  rintro r _ ⟨rfl, rfl⟩
  have HB1 : Hid (Below w.heap.size w (V2.alloc (.map kindsO 3))) := below_al HD.out _
  have XB1 := Lib.hid (XD.out.alloc (.map kindsO 3))
  have YB1 := Lib.hid (YD.out.alloc (.map kindsO 3))
  have kL : (Instr.lookup 111 (.map (some V2.heap.size)) (.int .i64 3) true).run Tryz.prog (V2.alloc (.map kindsO 3)) = .ok (.tuple #[.func (.func 76) #[] #[], .bool true]) (V2.alloc (.map kindsO 3)) := run_look (i := 2) (World.alloc_heap_new V2 _) Tryz.underlying111 Tryz.underlying3 rfl
  have hV1 : (V2.alloc (.map kindsO 3)).heap.size = w.heap.size + 4 := by simp [hVD]
  clear XD YD HD
  rw [hVD] at kL
  generalize V2.alloc (.map kindsO 3) = V1 at *
  have x0 := XB1.out.cell 0
  have x1 := XB1.out.cell 1
  simp only [List.getElem?_toArray, List.getElem?_cons_zero, List.getElem?_cons_succ] at x0 x1
  refine hK.out _ _ x0 (fun hHeld => ?_)
  clear hK K0
  try simp only [Act.put, List.getElem_toArray, List.getElem_cons_succ, List.getElem_cons_zero, List.setIfInBounds_toArray, List.set_cons_zero, List.set_cons_succ]
  refine wpAnyH_ready (rs := [3]) (by kernel_rfl) (by simp) ?_
  refine AllReadyH.cons rfl (fun K0 hK => ?_) AllReadyH.nil
  go_simp
  refine hK.out _ _ x0 (fun hHeld => ?_)
  clear hK K0
  try simp only [Act.put, List.getElem_toArray, List.getElem_cons_succ, List.getElem_cons_zero, List.setIfInBounds_toArray, List.set_cons_zero, List.set_cons_succ]
  refine wpAnyH_take (i := 4) (v := (.tuple #[.func (.func 76) #[] #[], .bool true])) rfl (by kernel_rfl) (by kernel_rfl) (by kernel_rfl) (fun _ _ _ h => h) (Or.inl ⟨by rfl, ?_⟩) hHeld ?_
  · (intro w hSw; (try dsimp only at hSw); (try obtain ⟨s0, s1⟩ := hSw); go_simp)
  simp only [Act.put, List.setIfInBounds_toArray, List.set_cons_zero, List.set_cons_succ]
  refine wpAnyH_take (i := 5) (v := (.func (.func 76) #[] #[])) rfl (by kernel_rfl) (by kernel_rfl) (by kernel_rfl) (fun _ _ _ h => h) (Or.inl ⟨by rfl, ?_⟩) hHeld ?_
  · (intro w hSw; (try dsimp only at hSw); (try obtain ⟨s0, s1⟩ := hSw); go_simp)
  simp only [Act.put, List.setIfInBounds_toArray, List.set_cons_zero, List.set_cons_succ]
  refine wpAnyH_take (i := 6) (v := (.bool true)) rfl (by kernel_rfl) (by kernel_rfl) (by kernel_rfl) (fun _ _ _ h => h) (Or.inl ⟨by rfl, ?_⟩) hHeld ?_
  · (intro w hSw; (try dsimp only at hSw); (try obtain ⟨s0, s1⟩ := hSw); go_simp)
  simp only [Act.put, List.setIfInBounds_toArray, List.set_cons_zero, List.set_cons_succ]
  refine wpAnyH_ready (rs := [7]) (by kernel_rfl) (by simp) ?_
  refine AllReadyH.cons rfl (fun K0 hK => ?_) AllReadyH.nil
  go_simp
  refine hK.out _ _ x0 (fun hHeld => ?_)
  clear hK K0
  try simp only [Act.put, List.getElem_toArray, List.getElem_cons_succ, List.getElem_cons_zero, List.setIfInBounds_toArray, List.set_cons_zero, List.set_cons_succ]
  refine wpAnyH_ready (rs := [8]) (by kernel_rfl) (by simp) ?_
  refine AllReadyH.cons rfl (fun K0 hK => ?_) AllReadyH.nil
  go_simp
  refine hK.out _ _ x0 (fun hHeld => ?_)
  clear hK K0
  try simp only [Act.put, List.getElem_toArray, List.getElem_cons_succ, List.getElem_cons_zero, List.setIfInBounds_toArray, List.set_cons_zero, List.set_cons_succ]
  refine wpAnyH_done (by kernel_rfl) ?_ _
  clear hHeld kL
  have hl2 : decide (level < 0) = true := decide_eq_true hl0
  have hl3 : True := trivial
  have hb4 : bottomF 3 = 3 := by decide
  go_wp2_with fail
  haveI hAW := After.some V1
  have hxw := XB1.out.lt
  have F0 := After.cell x0 hxw
  have F1 := After.cell x1 hxw
  have QB : Hid (∀ y : After V1, Calls Tryz.prog 67 #[.int .i64 3] y.at_ fun r w' => r = .returned (.int .i64 3) ∧ Below y.at_.heap.size y.at_ w') := fun y => (bottom_any 3 y.at_).mono fun _ _ ⟨h1, h2⟩ => ⟨by rw [h1, hb4], h2 ▸ below_0 _⟩
  refine wp_region_below (by kernel_rfl) (by kernel_rfl) ?_
  repeat (go_big_quiet_step (first | with_reducible exact after_calls (QB.out _)))
  refine wpQuiet_nil ?_
  rintro w2 ⟨y2, hy2⟩
  have hb2 : Below V1.heap.size V1 w2 := by rw [hy2]; exact y2.is
  have HB2 := Lib.hid (Below.two HB1.out hb2)
  have XB2 := Lib.hid (XB1.out.later hb2)
  have YB2 := Lib.hid (YB1.out.later hb2)
  clear hy2 y2 hb2 XB1 YB1 HB1 x0 x1 F0 F1 hAW QB hb4 hV1 hxw
  have x0 := XB2.out.cell 0
  have x1 := XB2.out.cell 1
  have x2 := XB2.out.cell 2
  have x3 := XB2.out.cell 3
  have x4 := XB2.out.cell 4
  have x5 := XB2.out.cell 5
  have x6 := XB2.out.cell 6
  have x7 := XB2.out.cell 7
  have x8 := XB2.out.cell 8
  have x9 := XB2.out.cell 9
  have y0 := YB2.out.cell 0
  have y1 := YB2.out.cell 1
  have y2 := YB2.out.cell 2
  simp only [List.getElem?_toArray, List.getElem?_cons_zero, List.getElem?_cons_succ] at x0 x1 x2 x3 x4 x5 x6 x7 x8 x9 y0 y1 y2
  have f0 := YB2.out.frozen 0
  have f1 := YB2.out.frozen 1
  have f2 := YB2.out.frozen 2
  go_wp2_with fail
  have RR9 : Blk (((w2.setCell ⟨w.heap.size + 1, 0, none⟩ .nilIface).setCell ⟨w.heap.size + 1, 1, none⟩ (.int .i64 0)).setCell ⟨w.heap.size + 1, 2, none⟩ (.int .i64 0)) (w.heap.size + 1) 93 #[.nilIface, .int .i64 0, .int .i64 0] := YB2.out.set3
  have HB9 : Hid (Below w.heap.size w (((w2.setCell ⟨w.heap.size + 1, 0, none⟩ .nilIface).setCell ⟨w.heap.size + 1, 1, none⟩ (.int .i64 0)).setCell ⟨w.heap.size + 1, 2, none⟩ (.int .i64 0))) := ((HB2.out.setCell (by simp) _).setCell (by simp) _).setCell (by simp) _
  have q0 := RR9.cell 0
  have q1 := RR9.cell 1
  have q2 := RR9.cell 2
  simp only [List.getElem?_toArray, List.getElem?_cons_zero, List.getElem?_cons_succ] at q0 q1 q2
  clear RR9
  generalize (((w2.setCell ⟨w.heap.size + 1, 0, none⟩ .nilIface).setCell ⟨w.heap.size + 1, 1, none⟩ (.int .i64 0)).setCell ⟨w.heap.size + 1, 2, none⟩ (.int .i64 0)) = W9 at *
  refine bodyPost_ret (v := .tuple #[.agg #[.nilIface, .int .i64 0, .int .i64 0], .iface 106 (.pointer (some ⟨w.heap.size + 1 + 1, 0, none⟩))]) (by simp [results, Tryz.results57, go_sem, q0, q1, q2]) rfl ?_
  exact ⟨_, _, _, _, rfl, .inl rfl, ⟨_, rfl⟩, HB9.out⟩
set_option maxRecDepth 100000 in
set_option maxHeartbeats 8000000 in
theorem open_big3 (m : SkM) (hk : m.s.kind = 3) (hl0 : 0 ≤ m.s.level) (hl1 : 3 < m.s.level) (w : World) (hm : SkOk w w.heap.size m) (hf : SkFit m.s) :
    Calls Tryz.prog 57 #[skV m] w (OpRet w false) := by
  have HM := Lib.hid hm
  clear hm hf
  obtain ⟨⟨kind, level, e, bits, regs, rows, cols, c, fine, g⟩, ea, ec, ca, cc, ga, gc⟩ := m
  simp only at hk hl0 hl1
  subst hk
  have hMEM : Hid (∀ w', Below w.heap.size w w' → SkOk w' w'.heap.size _) := fun w' h => HM.out.later h
  go_enter Tryz.func57, Tryz.ntmps57
  unfold skV
  simp only
  go_wp2_with fail
  have XB : Hid (Blk (World.alloc (World.alloc (w.alloc (.cells #[.int .i64 3, .int .i64 level, .slice ea e.length ec, .int .i64 bits, .string regs, .int .i64 rows, .int .i64 cols, .slice ca c.length cc, .int .i64 fine, .slice ga g.length gc] 48)) (.cells #[.nilIface, .int .i64 0, .int .i64 0] 93)) (.cells #[.int .i64 100] 108)) w.heap.size 48 #[.int .i64 3, .int .i64 level, .slice ea e.length ec, .int .i64 bits, .string regs, .int .i64 rows, .int .i64 cols, .slice ca c.length cc, .int .i64 fine, .slice ga g.length gc]) := ((Blk.new w 48 #[.int .i64 3, .int .i64 level, .slice ea e.length ec, .int .i64 bits, .string regs, .int .i64 rows, .int .i64 cols, .slice ca c.length cc, .int .i64 fine, .slice ga g.length gc]).alloc _).alloc _
  have YB : Hid (Blk (World.alloc (World.alloc (w.alloc (.cells #[.int .i64 3, .int .i64 level, .slice ea e.length ec, .int .i64 bits, .string regs, .int .i64 rows, .int .i64 cols, .slice ca c.length cc, .int .i64 fine, .slice ga g.length gc] 48)) (.cells #[.nilIface, .int .i64 0, .int .i64 0] 93)) (.cells #[.int .i64 100] 108)) (w.heap.size + 1) 93 #[.nilIface, .int .i64 0, .int .i64 0]) := by
    have h : (w.alloc (.cells #[.int .i64 3, .int .i64 level, .slice ea e.length ec, .int .i64 bits, .string regs, .int .i64 rows, .int .i64 cols, .slice ca c.length cc, .int .i64 fine, .slice ga g.length gc] 48)).heap.size = w.heap.size + 1 := by simp
    have := (Blk.new (w.alloc (.cells #[.int .i64 3, .int .i64 level, .slice ea e.length ec, .int .i64 bits, .string regs, .int .i64 rows, .int .i64 cols, .slice ca c.length cc, .int .i64 fine, .slice ga g.length gc] 48)) 93 #[.nilIface, .int .i64 0, .int .i64 0]).alloc (.cells #[.int .i64 100] 108)
    rw [h] at this
    exact this
  have HB : Hid (Below w.heap.size w (World.alloc (World.alloc (w.alloc (.cells #[.int .i64 3, .int .i64 level, .slice ea e.length ec, .int .i64 bits, .string regs, .int .i64 rows, .int .i64 cols, .slice ca c.length cc, .int .i64 fine, .slice ga g.length gc] 48)) (.cells #[.nilIface, .int .i64 0, .int .i64 0] 93)) (.cells #[.int .i64 100] 108))) := below_al (below_al (below_al (below_0 w) _) _) _
  have hV : (World.alloc (World.alloc (w.alloc (.cells #[.int .i64 3, .int .i64 level, .slice ea e.length ec, .int .i64 bits, .string regs, .int .i64 rows, .int .i64 cols, .slice ca c.length cc, .int .i64 fine, .slice ga g.length gc] 48)) (.cells #[.nilIface, .int .i64 0, .int .i64 0] 93)) (.cells #[.int .i64 100] 108)).heap.size = w.heap.size + 3 := by simp
  generalize (World.alloc (World.alloc (w.alloc (.cells #[.int .i64 3, .int .i64 level, .slice ea e.length ec, .int .i64 bits, .string regs, .int .i64 rows, .int .i64 cols, .slice ca c.length cc, .int .i64 fine, .slice ga g.length gc] 48)) (.cells #[.nilIface, .int .i64 0, .int .i64 0] 93)) (.cells #[.int .i64 100] 108)) = V at *
  have x0 := XB.out.cell 0
  have x1 := XB.out.cell 1
  simp only [List.getElem?_toArray, List.getElem?_cons_zero, List.getElem?_cons_succ] at x0 x1
  refine wp_region_held_drew (S := fun w' => w'.cell? ⟨w.heap.size, 0, none⟩ = some (.int .i64 3)) (by kernel_rfl) x0 (fun hHeld => ?_)
  have XD := Lib.hid XB.out.drew
  have YD := Lib.hid YB.out.drew
  have HD := Lib.hid HB.out.drew
  have hVD : V.drew.heap.size = w.heap.size + 3 := hV
  clear XB YB HB hV x0 x1
  generalize V.drew = V2 at *
  refine wpAnyH_take (i := 1) (v := (.pointer (some ⟨w.heap.size, 0, none⟩))) rfl (by kernel_rfl) (by kernel_rfl) (by kernel_rfl) (fun _ _ _ h => h) (Or.inl ⟨by rfl, ?_⟩) hHeld ?_
  · (intro w hSw; (try dsimp only at hSw); (try obtain ⟨s0, s1⟩ := hSw); go_simp)
  simp only [Act.put, List.setIfInBounds_toArray, List.set_cons_zero, List.set_cons_succ]
  refine wpAnyH_take (i := 2) (v := (.int .i64 3)) rfl (by kernel_rfl) (by kernel_rfl) (by kernel_rfl) (fun _ _ _ h => h) (Or.inl ⟨by rfl, ?_⟩) hHeld ?_
  · (intro w hSw; (try dsimp only at hSw); (try obtain ⟨s0, s1⟩ := hSw); go_simp)
  simp only [Act.put, List.setIfInBounds_toArray, List.set_cons_zero, List.set_cons_succ]
  refine wpAnyH_ready (rs := [0]) (by kernel_rfl) (by simp) ?_
  refine AllReadyH.cons rfl (fun K0 hK => ?_) AllReadyH.nil
  go_simp
  refine (kinds_any _).mono ?_
  rintro r _ ⟨rfl, rfl⟩
  have HB1 : Hid (Below w.heap.size w (V2.alloc (.map kindsO 3))) := below_al HD.out _
  have XB1 := Lib.hid (XD.out.alloc (.map kindsO 3))
  have YB1 := Lib.hid (YD.out.alloc (.map kindsO 3))
  have kL : (Instr.lookup 111 (.map (some V2.heap.size)) (.int .i64 3) true).run Tryz.prog (V2.alloc (.map kindsO 3)) = .ok (.tuple #[.func (.func 76) #[] #[], .bool true]) (V2.alloc (.map kindsO 3)) := run_look (i := 2) (World.alloc_heap_new V2 _) Tryz.underlying111 Tryz.underlying3 rfl
  have hV1 : (V2.alloc (.map kindsO 3)).heap.size = w.heap.size + 4 := by simp [hVD]
  clear XD YD HD
  rw [hVD] at kL
  generalize V2.alloc (.map kindsO 3) = V1 at *
  have x0 := XB1.out.cell 0
  have x1 := XB1.out.cell 1
  simp only [List.getElem?_toArray, List.getElem?_cons_zero, List.getElem?_cons_succ] at x0 x1
  refine hK.out _ _ x0 (fun hHeld => ?_)
  clear hK K0
  try simp only [Act.put, List.getElem_toArray, List.getElem_cons_succ, List.getElem_cons_zero, List.setIfInBounds_toArray, List.set_cons_zero, List.set_cons_succ]
  refine wpAnyH_ready (rs := [3]) (by kernel_rfl) (by simp) ?_
  refine AllReadyH.cons rfl (fun K0 hK => ?_) AllReadyH.nil
  go_simp
  refine hK.out _ _ x0 (fun hHeld => ?_)
  clear hK K0
  try simp only [Act.put, List.getElem_toArray, List.getElem_cons_succ, List.getElem_cons_zero, List.setIfInBounds_toArray, List.set_cons_zero, List.set_cons_succ]
  refine wpAnyH_take (i := 4) (v := (.tuple #[.func (.func 76) #[] #[], .bool true])) rfl (by kernel_rfl) (by kernel_rfl) (by kernel_rfl) (fun _ _ _ h => h) (Or.inl ⟨by rfl, ?_⟩) hHeld ?_
  · (intro w hSw; (try dsimp only at hSw); (try obtain ⟨s0, s1⟩ := hSw); go_simp)
  simp only [Act.put, List.setIfInBounds_toArray, List.set_cons_zero, List.set_cons_succ]
  refine wpAnyH_take (i := 5) (v := (.func (.func 76) #[] #[])) rfl (by kernel_rfl) (by kernel_rfl) (by kernel_rfl) (fun _ _ _ h => h) (Or.inl ⟨by rfl, ?_⟩) hHeld ?_
  · (intro w hSw; (try dsimp only at hSw); (try obtain ⟨s0, s1⟩ := hSw); go_simp)
  simp only [Act.put, List.setIfInBounds_toArray, List.set_cons_zero, List.set_cons_succ]
  refine wpAnyH_take (i := 6) (v := (.bool true)) rfl (by kernel_rfl) (by kernel_rfl) (by kernel_rfl) (fun _ _ _ h => h) (Or.inl ⟨by rfl, ?_⟩) hHeld ?_
  · (intro w hSw; (try dsimp only at hSw); (try obtain ⟨s0, s1⟩ := hSw); go_simp)
  simp only [Act.put, List.setIfInBounds_toArray, List.set_cons_zero, List.set_cons_succ]
  refine wpAnyH_ready (rs := [7]) (by kernel_rfl) (by simp) ?_
  refine AllReadyH.cons rfl (fun K0 hK => ?_) AllReadyH.nil
  go_simp
  refine hK.out _ _ x0 (fun hHeld => ?_)
  clear hK K0
  try simp only [Act.put, List.getElem_toArray, List.getElem_cons_succ, List.getElem_cons_zero, List.setIfInBounds_toArray, List.set_cons_zero, List.set_cons_succ]
  refine wpAnyH_ready (rs := [8]) (by kernel_rfl) (by simp) ?_
  refine AllReadyH.cons rfl (fun K0 hK => ?_) AllReadyH.nil
  go_simp
  refine hK.out _ _ x0 (fun hHeld => ?_)
  clear hK K0
  try simp only [Act.put, List.getElem_toArray, List.getElem_cons_succ, List.getElem_cons_zero, List.setIfInBounds_toArray, List.set_cons_zero, List.set_cons_succ]
  refine wpAnyH_done (by kernel_rfl) ?_ _
  clear hHeld kL
  have hl2 : decide (level < 0) = false := decide_eq_false (by omega)
  have hl3 : decide (3 < level) = true := decide_eq_true hl1
  have hb4 : bottomF 3 = 3 := by decide
  go_wp2_with fail
  haveI hAW := After.some V1
  have hxw := XB1.out.lt
  have F0 := After.cell x0 hxw
  have F1 := After.cell x1 hxw
  have QB : Hid (∀ y : After V1, Calls Tryz.prog 67 #[.int .i64 3] y.at_ fun r w' => r = .returned (.int .i64 3) ∧ Below y.at_.heap.size y.at_ w') := fun y => (bottom_any 3 y.at_).mono fun _ _ ⟨h1, h2⟩ => ⟨by rw [h1, hb4], h2 ▸ below_0 _⟩
  refine wp_region_below (by kernel_rfl) (by kernel_rfl) ?_
  repeat (go_big_quiet_step (first | with_reducible exact after_calls (QB.out _)))
  refine wpQuiet_nil ?_
  rintro w2 ⟨y2, hy2⟩
  have hb2 : Below V1.heap.size V1 w2 := by rw [hy2]; exact y2.is
  have HB2 := Lib.hid (Below.two HB1.out hb2)
  have XB2 := Lib.hid (XB1.out.later hb2)
  have YB2 := Lib.hid (YB1.out.later hb2)
  clear hy2 y2 hb2 XB1 YB1 HB1 x0 x1 F0 F1 hAW QB hb4 hV1 hxw
  have x0 := XB2.out.cell 0
  have x1 := XB2.out.cell 1
  have x2 := XB2.out.cell 2
  have x3 := XB2.out.cell 3
  have x4 := XB2.out.cell 4
  have x5 := XB2.out.cell 5
  have x6 := XB2.out.cell 6
  have x7 := XB2.out.cell 7
  have x8 := XB2.out.cell 8
  have x9 := XB2.out.cell 9
  have y0 := YB2.out.cell 0
  have y1 := YB2.out.cell 1
  have y2 := YB2.out.cell 2
  simp only [List.getElem?_toArray, List.getElem?_cons_zero, List.getElem?_cons_succ] at x0 x1 x2 x3 x4 x5 x6 x7 x8 x9 y0 y1 y2
  have f0 := YB2.out.frozen 0
  have f1 := YB2.out.frozen 1
  have f2 := YB2.out.frozen 2
  go_wp2_with fail
  have RR9 : Blk (((w2.setCell ⟨w.heap.size + 1, 0, none⟩ .nilIface).setCell ⟨w.heap.size + 1, 1, none⟩ (.int .i64 0)).setCell ⟨w.heap.size + 1, 2, none⟩ (.int .i64 0)) (w.heap.size + 1) 93 #[.nilIface, .int .i64 0, .int .i64 0] := YB2.out.set3
  have HB9 : Hid (Below w.heap.size w (((w2.setCell ⟨w.heap.size + 1, 0, none⟩ .nilIface).setCell ⟨w.heap.size + 1, 1, none⟩ (.int .i64 0)).setCell ⟨w.heap.size + 1, 2, none⟩ (.int .i64 0))) := ((HB2.out.setCell (by simp) _).setCell (by simp) _).setCell (by simp) _
  have q0 := RR9.cell 0
  have q1 := RR9.cell 1
  have q2 := RR9.cell 2
  simp only [List.getElem?_toArray, List.getElem?_cons_zero, List.getElem?_cons_succ] at q0 q1 q2
  clear RR9
  generalize (((w2.setCell ⟨w.heap.size + 1, 0, none⟩ .nilIface).setCell ⟨w.heap.size + 1, 1, none⟩ (.int .i64 0)).setCell ⟨w.heap.size + 1, 2, none⟩ (.int .i64 0)) = W9 at *
  refine bodyPost_ret (v := .tuple #[.agg #[.nilIface, .int .i64 0, .int .i64 0], .iface 106 (.pointer (some ⟨w.heap.size + 1 + 1, 0, none⟩))]) (by simp [results, Tryz.results57, go_sem, q0, q1, q2]) rfl ?_
  exact ⟨_, _, _, _, rfl, .inl rfl, ⟨_, rfl⟩, HB9.out⟩
set_option maxRecDepth 100000 in
set_option maxHeartbeats 8000000 in
theorem open_none (m : SkM) (hk1 : ¬ m.s.kind = 1) (hk2 : ¬ m.s.kind = 2) (hk3 : ¬ m.s.kind = 3) (w : World) (hm : SkOk w w.heap.size m) (hf : SkFit m.s) :
    Calls Tryz.prog 57 #[skV m] w (OpRet w false) := by
  have HM := Lib.hid hm
  clear hm hf
  obtain ⟨⟨kind, level, e, bits, regs, rows, cols, c, fine, g⟩, ea, ec, ca, cc, ga, gc⟩ := m
  simp only at hk1 hk2 hk3
  have hMEM : Hid (∀ w', Below w.heap.size w w' → SkOk w' w'.heap.size _) := fun w' h => HM.out.later h
  go_enter Tryz.func57, Tryz.ntmps57
  unfold skV
  simp only
  go_wp2_with fail
  have XB : Hid (Blk (World.alloc (World.alloc (w.alloc (.cells #[.int .i64 kind, .int .i64 level, .slice ea e.length ec, .int .i64 bits, .string regs, .int .i64 rows, .int .i64 cols, .slice ca c.length cc, .int .i64 fine, .slice ga g.length gc] 48)) (.cells #[.nilIface, .int .i64 0, .int .i64 0] 93)) (.cells #[.int .i64 100] 108)) w.heap.size 48 #[.int .i64 kind, .int .i64 level, .slice ea e.length ec, .int .i64 bits, .string regs, .int .i64 rows, .int .i64 cols, .slice ca c.length cc, .int .i64 fine, .slice ga g.length gc]) := ((Blk.new w 48 #[.int .i64 kind, .int .i64 level, .slice ea e.length ec, .int .i64 bits, .string regs, .int .i64 rows, .int .i64 cols, .slice ca c.length cc, .int .i64 fine, .slice ga g.length gc]).alloc _).alloc _
  have YB : Hid (Blk (World.alloc (World.alloc (w.alloc (.cells #[.int .i64 kind, .int .i64 level, .slice ea e.length ec, .int .i64 bits, .string regs, .int .i64 rows, .int .i64 cols, .slice ca c.length cc, .int .i64 fine, .slice ga g.length gc] 48)) (.cells #[.nilIface, .int .i64 0, .int .i64 0] 93)) (.cells #[.int .i64 100] 108)) (w.heap.size + 1) 93 #[.nilIface, .int .i64 0, .int .i64 0]) := by
    have h : (w.alloc (.cells #[.int .i64 kind, .int .i64 level, .slice ea e.length ec, .int .i64 bits, .string regs, .int .i64 rows, .int .i64 cols, .slice ca c.length cc, .int .i64 fine, .slice ga g.length gc] 48)).heap.size = w.heap.size + 1 := by simp
    have := (Blk.new (w.alloc (.cells #[.int .i64 kind, .int .i64 level, .slice ea e.length ec, .int .i64 bits, .string regs, .int .i64 rows, .int .i64 cols, .slice ca c.length cc, .int .i64 fine, .slice ga g.length gc] 48)) 93 #[.nilIface, .int .i64 0, .int .i64 0]).alloc (.cells #[.int .i64 100] 108)
    rw [h] at this
    exact this
  have HB : Hid (Below w.heap.size w (World.alloc (World.alloc (w.alloc (.cells #[.int .i64 kind, .int .i64 level, .slice ea e.length ec, .int .i64 bits, .string regs, .int .i64 rows, .int .i64 cols, .slice ca c.length cc, .int .i64 fine, .slice ga g.length gc] 48)) (.cells #[.nilIface, .int .i64 0, .int .i64 0] 93)) (.cells #[.int .i64 100] 108))) := below_al (below_al (below_al (below_0 w) _) _) _
  have hV : (World.alloc (World.alloc (w.alloc (.cells #[.int .i64 kind, .int .i64 level, .slice ea e.length ec, .int .i64 bits, .string regs, .int .i64 rows, .int .i64 cols, .slice ca c.length cc, .int .i64 fine, .slice ga g.length gc] 48)) (.cells #[.nilIface, .int .i64 0, .int .i64 0] 93)) (.cells #[.int .i64 100] 108)).heap.size = w.heap.size + 3 := by simp
  generalize (World.alloc (World.alloc (w.alloc (.cells #[.int .i64 kind, .int .i64 level, .slice ea e.length ec, .int .i64 bits, .string regs, .int .i64 rows, .int .i64 cols, .slice ca c.length cc, .int .i64 fine, .slice ga g.length gc] 48)) (.cells #[.nilIface, .int .i64 0, .int .i64 0] 93)) (.cells #[.int .i64 100] 108)) = V at *
  have x0 := XB.out.cell 0
  have x1 := XB.out.cell 1
  simp only [List.getElem?_toArray, List.getElem?_cons_zero, List.getElem?_cons_succ] at x0 x1
  refine wp_region_held_drew (S := fun w' => w'.cell? ⟨w.heap.size, 0, none⟩ = some (.int .i64 kind)) (by kernel_rfl) x0 (fun hHeld => ?_)
  have XD := Lib.hid XB.out.drew
  have YD := Lib.hid YB.out.drew
  have HD := Lib.hid HB.out.drew
  have hVD : V.drew.heap.size = w.heap.size + 3 := hV
  clear XB YB HB hV x0 x1
  generalize V.drew = V2 at *
  refine wpAnyH_take (i := 1) (v := (.pointer (some ⟨w.heap.size, 0, none⟩))) rfl (by kernel_rfl) (by kernel_rfl) (by kernel_rfl) (fun _ _ _ h => h) (Or.inl ⟨by rfl, ?_⟩) hHeld ?_
  · (intro w hSw; (try dsimp only at hSw); (try obtain ⟨s0, s1⟩ := hSw); go_simp)
  simp only [Act.put, List.setIfInBounds_toArray, List.set_cons_zero, List.set_cons_succ]
  refine wpAnyH_take (i := 2) (v := (.int .i64 kind)) rfl (by kernel_rfl) (by kernel_rfl) (by kernel_rfl) (fun _ _ _ h => h) (Or.inl ⟨by rfl, ?_⟩) hHeld ?_
  · (intro w hSw; (try dsimp only at hSw); (try obtain ⟨s0, s1⟩ := hSw); go_simp)
  simp only [Act.put, List.setIfInBounds_toArray, List.set_cons_zero, List.set_cons_succ]
  refine wpAnyH_ready (rs := [0]) (by kernel_rfl) (by simp) ?_
  refine AllReadyH.cons rfl (fun K0 hK => ?_) AllReadyH.nil
  go_simp
  refine (kinds_any _).mono ?_
  rintro r _ ⟨rfl, rfl⟩
  have HB1 : Hid (Below w.heap.size w (V2.alloc (.map kindsO 3))) := below_al HD.out _
  have XB1 := Lib.hid (XD.out.alloc (.map kindsO 3))
  have YB1 := Lib.hid (YD.out.alloc (.map kindsO 3))
  have kL : (Instr.lookup 111 (.map (some V2.heap.size)) (.int .i64 kind) true).run Tryz.prog (V2.alloc (.map kindsO 3)) = .ok (.tuple #[.nilFunc, .bool false]) (V2.alloc (.map kindsO 3)) := run_look_none (World.alloc_heap_new V2 _) Tryz.underlying111 Tryz.underlying3 (find_none hk1 hk2 hk3) (by kernel_rfl)
  have hV1 : (V2.alloc (.map kindsO 3)).heap.size = w.heap.size + 4 := by simp [hVD]
  clear XD YD HD
  rw [hVD] at kL
  generalize V2.alloc (.map kindsO 3) = V1 at *
  have x0 := XB1.out.cell 0
  have x1 := XB1.out.cell 1
  simp only [List.getElem?_toArray, List.getElem?_cons_zero, List.getElem?_cons_succ] at x0 x1
  refine hK.out _ _ x0 (fun hHeld => ?_)
  clear hK K0
  try simp only [Act.put, List.getElem_toArray, List.getElem_cons_succ, List.getElem_cons_zero, List.setIfInBounds_toArray, List.set_cons_zero, List.set_cons_succ]
  refine wpAnyH_ready (rs := [3]) (by kernel_rfl) (by simp) ?_
  refine AllReadyH.cons rfl (fun K0 hK => ?_) AllReadyH.nil
  go_simp
  refine hK.out _ _ x0 (fun hHeld => ?_)
  clear hK K0
  try simp only [Act.put, List.getElem_toArray, List.getElem_cons_succ, List.getElem_cons_zero, List.setIfInBounds_toArray, List.set_cons_zero, List.set_cons_succ]
  refine wpAnyH_take (i := 4) (v := (.tuple #[.nilFunc, .bool false])) rfl (by kernel_rfl) (by kernel_rfl) (by kernel_rfl) (fun _ _ _ h => h) (Or.inl ⟨by rfl, ?_⟩) hHeld ?_
  · (intro w hSw; (try dsimp only at hSw); (try obtain ⟨s0, s1⟩ := hSw); go_simp)
  simp only [Act.put, List.setIfInBounds_toArray, List.set_cons_zero, List.set_cons_succ]
  refine wpAnyH_take (i := 5) (v := (.nilFunc)) rfl (by kernel_rfl) (by kernel_rfl) (by kernel_rfl) (fun _ _ _ h => h) (Or.inl ⟨by rfl, ?_⟩) hHeld ?_
  · (intro w hSw; (try dsimp only at hSw); (try obtain ⟨s0, s1⟩ := hSw); go_simp)
  simp only [Act.put, List.setIfInBounds_toArray, List.set_cons_zero, List.set_cons_succ]
  refine wpAnyH_take (i := 6) (v := (.bool false)) rfl (by kernel_rfl) (by kernel_rfl) (by kernel_rfl) (fun _ _ _ h => h) (Or.inl ⟨by rfl, ?_⟩) hHeld ?_
  · (intro w hSw; (try dsimp only at hSw); (try obtain ⟨s0, s1⟩ := hSw); go_simp)
  simp only [Act.put, List.setIfInBounds_toArray, List.set_cons_zero, List.set_cons_succ]
  refine wpAnyH_ready (rs := [7]) (by kernel_rfl) (by simp) ?_
  refine AllReadyH.cons rfl (fun K0 hK => ?_) AllReadyH.nil
  go_simp
  refine hK.out _ _ x0 (fun hHeld => ?_)
  clear hK K0
  try simp only [Act.put, List.getElem_toArray, List.getElem_cons_succ, List.getElem_cons_zero, List.setIfInBounds_toArray, List.set_cons_zero, List.set_cons_succ]
  refine wpAnyH_ready (rs := [8]) (by kernel_rfl) (by simp) ?_
  refine AllReadyH.cons rfl (fun K0 hK => ?_) AllReadyH.nil
  go_simp
  refine hK.out _ _ x0 (fun hHeld => ?_)
  clear hK K0
  try simp only [Act.put, List.getElem_toArray, List.getElem_cons_succ, List.getElem_cons_zero, List.setIfInBounds_toArray, List.set_cons_zero, List.set_cons_succ]
  refine wpAnyH_done (by kernel_rfl) ?_ _
  clear hHeld kL
  have hl2 : True := trivial
  have hl3 : True := trivial
  go_wp2_with fail
  haveI hAW := After.some V1
  have hxw := XB1.out.lt
  have F0 := After.cell x0 hxw
  have F1 := After.cell x1 hxw
  have QB : Hid (∀ y : After V1, True) := fun _ => trivial
  refine wp_region_below (by kernel_rfl) (by kernel_rfl) ?_
  repeat (go_big_quiet_step (first | fail))
  refine wpQuiet_nil ?_
  rintro w2 ⟨y2, hy2⟩
  have hb2 : Below V1.heap.size V1 w2 := by rw [hy2]; exact y2.is
  have HB2 := Lib.hid (Below.two HB1.out hb2)
  have XB2 := Lib.hid (XB1.out.later hb2)
  have YB2 := Lib.hid (YB1.out.later hb2)
  clear hy2 y2 hb2 XB1 YB1 HB1 x0 x1 F0 F1 hAW QB hV1 hxw
  have x0 := XB2.out.cell 0
  have x1 := XB2.out.cell 1
  have x2 := XB2.out.cell 2
  have x3 := XB2.out.cell 3
  have x4 := XB2.out.cell 4
  have x5 := XB2.out.cell 5
  have x6 := XB2.out.cell 6
  have x7 := XB2.out.cell 7
  have x8 := XB2.out.cell 8
  have x9 := XB2.out.cell 9
  have y0 := YB2.out.cell 0
  have y1 := YB2.out.cell 1
  have y2 := YB2.out.cell 2
  simp only [List.getElem?_toArray, List.getElem?_cons_zero, List.getElem?_cons_succ] at x0 x1 x2 x3 x4 x5 x6 x7 x8 x9 y0 y1 y2
  have f0 := YB2.out.frozen 0
  have f1 := YB2.out.frozen 1
  have f2 := YB2.out.frozen 2
  go_wp2_with fail
  have RR9 : Blk (((w2.setCell ⟨w.heap.size + 1, 0, none⟩ .nilIface).setCell ⟨w.heap.size + 1, 1, none⟩ (.int .i64 0)).setCell ⟨w.heap.size + 1, 2, none⟩ (.int .i64 0)) (w.heap.size + 1) 93 #[.nilIface, .int .i64 0, .int .i64 0] := YB2.out.set3
  have HB9 : Hid (Below w.heap.size w (((w2.setCell ⟨w.heap.size + 1, 0, none⟩ .nilIface).setCell ⟨w.heap.size + 1, 1, none⟩ (.int .i64 0)).setCell ⟨w.heap.size + 1, 2, none⟩ (.int .i64 0))) := ((HB2.out.setCell (by simp) _).setCell (by simp) _).setCell (by simp) _
  have q0 := RR9.cell 0
  have q1 := RR9.cell 1
  have q2 := RR9.cell 2
  simp only [List.getElem?_toArray, List.getElem?_cons_zero, List.getElem?_cons_succ] at q0 q1 q2
  clear RR9
  generalize (((w2.setCell ⟨w.heap.size + 1, 0, none⟩ .nilIface).setCell ⟨w.heap.size + 1, 1, none⟩ (.int .i64 0)).setCell ⟨w.heap.size + 1, 2, none⟩ (.int .i64 0)) = W9 at *
  refine bodyPost_ret (v := .tuple #[.agg #[.nilIface, .int .i64 0, .int .i64 0], .iface 106 (.pointer (some ⟨w.heap.size + 1 + 1, 0, none⟩))]) (by simp [results, Tryz.results57, go_sem, q0, q1, q2]) rfl ?_
  exact ⟨_, _, _, _, rfl, .inl rfl, ⟨_, rfl⟩, HB9.out⟩
end Go.Proofs.YtoffmclbnobllaaGreatDoor

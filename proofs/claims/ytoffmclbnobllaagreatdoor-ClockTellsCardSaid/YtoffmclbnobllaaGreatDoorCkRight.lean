/-
  ladder.open and ladder.Right.
-/
import Derived.Test.YtoffmclbnobllaaGreatDoorCkSketch
namespace Go.Proofs.YtoffmclbnobllaaGreatDoor
open Go.RowKit
set_option linter.unusedVariables false
set_option linter.unusedSimpArgs false
/-- What open hands back: a work, and an error or none. -/
def OpRet (w : World) (ok : Bool) (e : Ending) (w' : World) : Prop :=
  ∃ (a : Value) (b c : Int) (err : Value), e = .returned (.tuple #[.agg #[a, .int .i64 b, .int .i64 c], err]) ∧ (a = .nilIface ∨ ∃ T v, a = .iface T v) ∧ (if ok = true then err = .nilIface else ∃ p, err = .iface 106 (.pointer (some p))) ∧ Below w.heap.size w w'
set_option maxRecDepth 100000 in
set_option maxHeartbeats 8000000 in
theorem open_1 (m : SkM) (T : TypeId) (bv : Value) (ok : Bool) (part : Sk) (hk : m.s.kind = 1) (hl0 : 0 ≤ m.s.level) (hl1 : m.s.level ≤ 4) (w : World) (hm : SkOk w w.heap.size m) (hf : SkFit m.s) (hp : SkFit part)
    (hcall : ∀ w', SkOk w' w'.heap.size m → Calls Tryz.prog 74 #[skV m] w' fun r w'' => r = .returned (.tuple #[.iface T bv, .bool ok]) ∧ Below w'.heap.size w' w'')
    (hsk : ∀ w', SkOk w' w'.heap.size m → Calls Tryz.prog 69 #[.agg #[.iface T bv, .int .i64 m.s.kind, .int .i64 m.s.level]] w' (SkRet w' part)) :
    Calls Tryz.prog 57 #[skV m] w (OpRet w (ok && decide (m.s = part))) := by
  have HM := Lib.hid hm
  have HF := Lib.hid hf
  have HCALL := Lib.hid hcall
  have HP := Lib.hid hp
  have HSK := Lib.hid hsk
  clear hm hf hcall hsk hp
  obtain ⟨⟨kind, level, e, bits, regs, rows, cols, c, fine, g⟩, ea, ec, ca, cc, ga, gc⟩ := m
  simp only at hk hl0 hl1 HF HSK
  subst hk
  have hMEM : Hid (∀ w', Below w.heap.size w w' → SkOk w' w'.heap.size _) := fun w' h => HM.out.later h
  go_enter Tryz.func57, Tryz.ntmps57
  unfold skV at *
  simp only at HCALL ⊢
  go_wp2_with fail
  have XB : Hid (Blk (World.alloc (World.alloc (w.alloc (.cells #[.int .i64 1, .int .i64 level, .slice ea e.length ec, .int .i64 bits, .string regs, .int .i64 rows, .int .i64 cols, .slice ca c.length cc, .int .i64 fine, .slice ga g.length gc] 48)) (.cells #[.nilIface, .int .i64 0, .int .i64 0] 93)) (.cells #[.int .i64 100] 108)) w.heap.size 48 #[.int .i64 1, .int .i64 level, .slice ea e.length ec, .int .i64 bits, .string regs, .int .i64 rows, .int .i64 cols, .slice ca c.length cc, .int .i64 fine, .slice ga g.length gc]) := ((Blk.new w 48 #[.int .i64 1, .int .i64 level, .slice ea e.length ec, .int .i64 bits, .string regs, .int .i64 rows, .int .i64 cols, .slice ca c.length cc, .int .i64 fine, .slice ga g.length gc]).alloc _).alloc _
  have YB : Hid (Blk (World.alloc (World.alloc (w.alloc (.cells #[.int .i64 1, .int .i64 level, .slice ea e.length ec, .int .i64 bits, .string regs, .int .i64 rows, .int .i64 cols, .slice ca c.length cc, .int .i64 fine, .slice ga g.length gc] 48)) (.cells #[.nilIface, .int .i64 0, .int .i64 0] 93)) (.cells #[.int .i64 100] 108)) (w.heap.size + 1) 93 #[.nilIface, .int .i64 0, .int .i64 0]) := by
    have h : (w.alloc (.cells #[.int .i64 1, .int .i64 level, .slice ea e.length ec, .int .i64 bits, .string regs, .int .i64 rows, .int .i64 cols, .slice ca c.length cc, .int .i64 fine, .slice ga g.length gc] 48)).heap.size = w.heap.size + 1 := by simp
    have := (Blk.new (w.alloc (.cells #[.int .i64 1, .int .i64 level, .slice ea e.length ec, .int .i64 bits, .string regs, .int .i64 rows, .int .i64 cols, .slice ca c.length cc, .int .i64 fine, .slice ga g.length gc] 48)) 93 #[.nilIface, .int .i64 0, .int .i64 0]).alloc (.cells #[.int .i64 100] 108)
    rw [h] at this
    exact this
  have HB : Hid (Below w.heap.size w (World.alloc (World.alloc (w.alloc (.cells #[.int .i64 1, .int .i64 level, .slice ea e.length ec, .int .i64 bits, .string regs, .int .i64 rows, .int .i64 cols, .slice ca c.length cc, .int .i64 fine, .slice ga g.length gc] 48)) (.cells #[.nilIface, .int .i64 0, .int .i64 0] 93)) (.cells #[.int .i64 100] 108))) := below_al (below_al (below_al (below_0 w) _) _) _
  have hV : (World.alloc (World.alloc (w.alloc (.cells #[.int .i64 1, .int .i64 level, .slice ea e.length ec, .int .i64 bits, .string regs, .int .i64 rows, .int .i64 cols, .slice ca c.length cc, .int .i64 fine, .slice ga g.length gc] 48)) (.cells #[.nilIface, .int .i64 0, .int .i64 0] 93)) (.cells #[.int .i64 100] 108)).heap.size = w.heap.size + 3 := by simp
  generalize (World.alloc (World.alloc (w.alloc (.cells #[.int .i64 1, .int .i64 level, .slice ea e.length ec, .int .i64 bits, .string regs, .int .i64 rows, .int .i64 cols, .slice ca c.length cc, .int .i64 fine, .slice ga g.length gc] 48)) (.cells #[.nilIface, .int .i64 0, .int .i64 0] 93)) (.cells #[.int .i64 100] 108)) = V at *
  have x0 := XB.out.cell 0
  have x1 := XB.out.cell 1
  simp only [List.getElem?_toArray, List.getElem?_cons_zero, List.getElem?_cons_succ] at x0 x1
  refine wp_region_held_drew (S := fun w' => w'.cell? ⟨w.heap.size, 0, none⟩ = some (.int .i64 1)) (by kernel_rfl) x0 (fun hHeld => ?_)
  have XD := Lib.hid XB.out.drew
  have YD := Lib.hid YB.out.drew
  have HD := Lib.hid HB.out.drew
  have hVD : V.drew.heap.size = w.heap.size + 3 := hV
  clear XB YB HB hV x0 x1
  generalize V.drew = V2 at *
  refine wpAnyH_take (i := 1) (v := (.pointer (some ⟨w.heap.size, 0, none⟩))) rfl (by kernel_rfl) (by kernel_rfl) (by kernel_rfl) (fun _ _ _ h => h) (Or.inl ⟨by rfl, ?_⟩) hHeld ?_
  · (intro w hSw; (try dsimp only at hSw); (try obtain ⟨s0, s1⟩ := hSw); go_simp)
  simp only [Act.put, List.setIfInBounds_toArray, List.set_cons_zero, List.set_cons_succ]
  refine wpAnyH_take (i := 2) (v := (.int .i64 1)) rfl (by kernel_rfl) (by kernel_rfl) (by kernel_rfl) (fun _ _ _ h => h) (Or.inl ⟨by rfl, ?_⟩) hHeld ?_
  · (intro w hSw; (try dsimp only at hSw); (try obtain ⟨s0, s1⟩ := hSw); go_simp)
  simp only [Act.put, List.setIfInBounds_toArray, List.set_cons_zero, List.set_cons_succ]
  refine wpAnyH_ready (rs := [0]) (by kernel_rfl) (by simp) ?_
  refine AllReadyH.cons rfl (fun K0 hK => ?_) AllReadyH.nil
  go_simp
  refine (kinds_any _).mono ?_
  rintro r _ ⟨rfl, rfl⟩
  have HB1 : Hid (Below w.heap.size w (V2.alloc (.map kindsO 3))) := below_al HD.out _
  have XB1 := Lib.hid (XD.out.alloc (.map kindsO 3))
  have YB1 := Lib.hid (YD.out.alloc (.map kindsO 3))
  have kL : (Instr.lookup 111 (.map (some V2.heap.size)) (.int .i64 1) true).run Tryz.prog (V2.alloc (.map kindsO 3)) = .ok (.tuple #[.func (.func 74) #[] #[], .bool true]) (V2.alloc (.map kindsO 3)) := run_look (i := 0) (World.alloc_heap_new V2 _) Tryz.underlying111 Tryz.underlying3 rfl
  have hV1 : (V2.alloc (.map kindsO 3)).heap.size = w.heap.size + 4 := by simp [hVD]
  clear XD YD HD
  rw [hVD] at kL
  generalize V2.alloc (.map kindsO 3) = V1 at *
  have x0 := XB1.out.cell 0
  have x1 := XB1.out.cell 1
  simp only [List.getElem?_toArray, List.getElem?_cons_zero, List.getElem?_cons_succ] at x0 x1
  refine hK.out _ _ x0 (fun hHeld => ?_)
  clear hK K0
  try simp only [Act.put, List.getElem_toArray, List.getElem_cons_succ, List.getElem_cons_zero, List.setIfInBounds_toArray, List.set_cons_zero, List.set_cons_succ]
  refine wpAnyH_ready (rs := [3]) (by kernel_rfl) (by simp) ?_
  refine AllReadyH.cons rfl (fun K0 hK => ?_) AllReadyH.nil
  go_simp
  refine hK.out _ _ x0 (fun hHeld => ?_)
  clear hK K0
  try simp only [Act.put, List.getElem_toArray, List.getElem_cons_succ, List.getElem_cons_zero, List.setIfInBounds_toArray, List.set_cons_zero, List.set_cons_succ]
  refine wpAnyH_take (i := 4) (v := (.tuple #[.func (.func 74) #[] #[], .bool true])) rfl (by kernel_rfl) (by kernel_rfl) (by kernel_rfl) (fun _ _ _ h => h) (Or.inl ⟨by rfl, ?_⟩) hHeld ?_
  · (intro w hSw; (try dsimp only at hSw); (try obtain ⟨s0, s1⟩ := hSw); go_simp)
  simp only [Act.put, List.setIfInBounds_toArray, List.set_cons_zero, List.set_cons_succ]
  refine wpAnyH_take (i := 5) (v := (.func (.func 74) #[] #[])) rfl (by kernel_rfl) (by kernel_rfl) (by kernel_rfl) (fun _ _ _ h => h) (Or.inl ⟨by rfl, ?_⟩) hHeld ?_
  · (intro w hSw; (try dsimp only at hSw); (try obtain ⟨s0, s1⟩ := hSw); go_simp)
  simp only [Act.put, List.setIfInBounds_toArray, List.set_cons_zero, List.set_cons_succ]
  refine wpAnyH_take (i := 6) (v := (.bool true)) rfl (by kernel_rfl) (by kernel_rfl) (by kernel_rfl) (fun _ _ _ h => h) (Or.inl ⟨by rfl, ?_⟩) hHeld ?_
  · (intro w hSw; (try dsimp only at hSw); (try obtain ⟨s0, s1⟩ := hSw); go_simp)
  simp only [Act.put, List.setIfInBounds_toArray, List.set_cons_zero, List.set_cons_succ]
  refine wpAnyH_ready (rs := [7]) (by kernel_rfl) (by simp) ?_
  refine AllReadyH.cons rfl (fun K0 hK => ?_) AllReadyH.nil
  go_simp
  refine hK.out _ _ x0 (fun hHeld => ?_)
  clear hK K0
  try simp only [Act.put, List.getElem_toArray, List.getElem_cons_succ, List.getElem_cons_zero, List.setIfInBounds_toArray, List.set_cons_zero, List.set_cons_succ]
  refine wpAnyH_ready (rs := [8]) (by kernel_rfl) (by simp) ?_
  refine AllReadyH.cons rfl (fun K0 hK => ?_) AllReadyH.nil
  go_simp
  refine hK.out _ _ x0 (fun hHeld => ?_)
  clear hK K0
  try simp only [Act.put, List.getElem_toArray, List.getElem_cons_succ, List.getElem_cons_zero, List.setIfInBounds_toArray, List.set_cons_zero, List.set_cons_succ]
  refine wpAnyH_done (by kernel_rfl) ?_ _
  clear hHeld kL
  have hl2 : decide (level < 0) = false := decide_eq_false (by omega)
  have hl3 : decide (4 < level) = false := decide_eq_false (by omega)
  have hb4 : bottomF 1 = 4 := by decide
  go_wp2_with fail
  haveI hAW := After.some V1
  have hxw := XB1.out.lt
  have F0 := After.cell x0 hxw
  have F1 := After.cell x1 hxw
  have QB : Hid (∀ y : After V1, Calls Tryz.prog 67 #[.int .i64 1] y.at_ fun r w' => r = .returned (.int .i64 4) ∧ Below y.at_.heap.size y.at_ w') := fun y => (bottom_any 1 y.at_).mono fun _ _ ⟨h1, h2⟩ => ⟨by rw [h1, hb4], h2 ▸ below_0 _⟩
  refine wp_region_below (by kernel_rfl) (by kernel_rfl) ?_
  repeat (go_big_quiet_step (first | with_reducible exact after_calls (QB.out _)))
  refine wpQuiet_nil ?_
  rintro w2 ⟨y2, hy2⟩
  have hb2 : Below V1.heap.size V1 w2 := by rw [hy2]; exact y2.is
  have HB2 := Lib.hid (Below.two HB1.out hb2)
  have XB2 := Lib.hid (XB1.out.later hb2)
  have YB2 := Lib.hid (YB1.out.later hb2)
  clear hy2 y2 hb2 XB1 YB1 HB1 x0 x1 F0 F1 hAW QB hb4 hV1 hxw
  have x0 := XB2.out.cell 0
  have x1 := XB2.out.cell 1
  have x2 := XB2.out.cell 2
  have x3 := XB2.out.cell 3
  have x4 := XB2.out.cell 4
  have x5 := XB2.out.cell 5
  have x6 := XB2.out.cell 6
  have x7 := XB2.out.cell 7
  have x8 := XB2.out.cell 8
  have x9 := XB2.out.cell 9
  have y0 := YB2.out.cell 0
  have y1 := YB2.out.cell 1
  have y2 := YB2.out.cell 2
  simp only [List.getElem?_toArray, List.getElem?_cons_zero, List.getElem?_cons_succ] at x0 x1 x2 x3 x4 x5 x6 x7 x8 x9 y0 y1 y2
  go_wp2_with fail
  refine (HCALL.out _ (hMEM.out _ HB2.out)).mono ?_
  rintro r w3 ⟨rfl, hb3⟩
  have HB3 := Lib.hid (Below.two HB2.out hb3)
  have XB3 := Lib.hid (XB2.out.later hb3)
  have YB3 := Lib.hid (YB2.out.later hb3)
  clear hb3 XB2 YB2 HB2 x0 x1 x2 x3 x4 x5 x6 x7 x8 x9 y0 y1 y2
  have y0 := YB3.out.cell 0
  have y1 := YB3.out.cell 1
  have y2 := YB3.out.cell 2
  simp only [List.getElem?_toArray, List.getElem?_cons_zero, List.getElem?_cons_succ] at y0 y1 y2
  have f0 := YB3.out.frozen 0
  have f1 := YB3.out.frozen 1
  have f2 := YB3.out.frozen 2
  cases ok with
  | false =>
    go_wp2_with fail
    have RR9 : Blk (((w3.setCell ⟨w.heap.size + 1, 0, none⟩ .nilIface).setCell ⟨w.heap.size + 1, 1, none⟩ (.int .i64 0)).setCell ⟨w.heap.size + 1, 2, none⟩ (.int .i64 0)) (w.heap.size + 1) 93 #[.nilIface, .int .i64 0, .int .i64 0] := YB3.out.set3
    have HB9 : Hid (Below w.heap.size w (((w3.setCell ⟨w.heap.size + 1, 0, none⟩ .nilIface).setCell ⟨w.heap.size + 1, 1, none⟩ (.int .i64 0)).setCell ⟨w.heap.size + 1, 2, none⟩ (.int .i64 0))) := ((HB3.out.setCell (by simp) _).setCell (by simp) _).setCell (by simp) _
    have q0 := RR9.cell 0
    have q1 := RR9.cell 1
    have q2 := RR9.cell 2
    simp only [List.getElem?_toArray, List.getElem?_cons_zero, List.getElem?_cons_succ] at q0 q1 q2
    clear RR9
    generalize (((w3.setCell ⟨w.heap.size + 1, 0, none⟩ .nilIface).setCell ⟨w.heap.size + 1, 1, none⟩ (.int .i64 0)).setCell ⟨w.heap.size + 1, 2, none⟩ (.int .i64 0)) = W9 at *
    refine bodyPost_ret (v := .tuple #[.agg #[.nilIface, .int .i64 0, .int .i64 0], .iface 106 (.pointer (some ⟨w.heap.size + 1 + 1, 0, none⟩))]) (by simp [results, Tryz.results57, go_sem, q0, q1, q2]) rfl ?_
    exact ⟨_, _, _, _, rfl, .inl rfl, by rw [Bool.false_and]; exact ⟨_, rfl⟩, HB9.out⟩
  | true =>
    have x0 := XB3.out.cell 0
    have x1 := XB3.out.cell 1
    have x2 := XB3.out.cell 2
    have x3 := XB3.out.cell 3
    have x4 := XB3.out.cell 4
    have x5 := XB3.out.cell 5
    have x6 := XB3.out.cell 6
    have x7 := XB3.out.cell 7
    have x8 := XB3.out.cell 8
    have x9 := XB3.out.cell 9
    simp only [List.getElem?_toArray, List.getElem?_cons_zero, List.getElem?_cons_succ] at x0 x1 x2 x3 x4 x5 x6 x7 x8 x9
    go_wp2_with fail
    clear x0 x1 x2 x3 x4 x5 x6 x7 x8 x9 y0 y1 y2 f0 f1 f2
    have hb4 := below_al (below_0 w3) (.cells #[.iface T bv, .int .i64 1, .int .i64 level] 93)
    have WB := Lib.hid (Blk.new w3 93 #[.iface T bv, .int .i64 1, .int .i64 level])
    have HB4 := Lib.hid (Below.two HB3.out hb4)
    have XB4 := Lib.hid (XB3.out.later hb4)
    have YB4 := Lib.hid (YB3.out.later hb4)
    have hz3 := HB3.out.size
    have hzy := YB3.out.lt
    clear hb4 XB3 YB3 HB3
    generalize w3.heap.size = bx at *
    generalize w3.alloc (.cells #[.iface T bv, .int .i64 1, .int .i64 level] 93) = V4 at *
    have x0 := XB4.out.cell 0
    have x1 := XB4.out.cell 1
    have x2 := XB4.out.cell 2
    have x3 := XB4.out.cell 3
    have x4 := XB4.out.cell 4
    have x5 := XB4.out.cell 5
    have x6 := XB4.out.cell 6
    have x7 := XB4.out.cell 7
    have x8 := XB4.out.cell 8
    have x9 := XB4.out.cell 9
    simp only [List.getElem?_toArray, List.getElem?_cons_zero, List.getElem?_cons_succ] at x0 x1 x2 x3 x4 x5 x6 x7 x8 x9
    have v0 := WB.out.cell 0
    have v1 := WB.out.cell 1
    have v2 := WB.out.cell 2
    simp only [List.getElem?_toArray, List.getElem?_cons_zero, List.getElem?_cons_succ] at v0 v1 v2
    refine wp_region_held_drew (S := fun w9 => w9.cell? ⟨w.heap.size, 0, none⟩ = some (.int .i64 1) ∧ w9.cell? ⟨w.heap.size, 1, none⟩ = some (.int .i64 level) ∧ w9.cell? ⟨w.heap.size, 2, none⟩ = some (.slice ea e.length ec) ∧ w9.cell? ⟨w.heap.size, 3, none⟩ = some (.int .i64 bits) ∧ w9.cell? ⟨w.heap.size, 4, none⟩ = some (.string regs) ∧ w9.cell? ⟨w.heap.size, 5, none⟩ = some (.int .i64 rows) ∧ w9.cell? ⟨w.heap.size, 6, none⟩ = some (.int .i64 cols) ∧ w9.cell? ⟨w.heap.size, 7, none⟩ = some (.slice ca c.length cc) ∧ w9.cell? ⟨w.heap.size, 8, none⟩ = some (.int .i64 fine) ∧ w9.cell? ⟨w.heap.size, 9, none⟩ = some (.slice ga g.length gc) ∧ w9.cell? ⟨bx, 0, none⟩ = some (.iface T bv) ∧ w9.cell? ⟨bx, 1, none⟩ = some (.int .i64 1) ∧ w9.cell? ⟨bx, 2, none⟩ = some (.int .i64 level)) (by kernel_rfl) ⟨x0, x1, x2, x3, x4, x5, x6, x7, x8, x9, v0, v1, v2⟩ (fun hHeld => ?_)
    have WD := Lib.hid WB.out.drew
    have XD := Lib.hid XB4.out.drew
    have YD := Lib.hid YB4.out.drew
    have HD := Lib.hid HB4.out.drew
    clear XB4 YB4 HB4 WB x0 x1 x2 x3 x4 x5 x6 x7 x8 x9 v0 v1 v2
    generalize V4.drew = V5 at *
    refine wpAnyH_take (i := 0) (v := (.agg #[.int .i64 1, .int .i64 level, .slice ea e.length ec, .int .i64 bits, .string regs, .int .i64 rows, .int .i64 cols, .slice ca c.length cc, .int .i64 fine, .slice ga g.length gc])) rfl (by kernel_rfl) (by kernel_rfl) (by kernel_rfl) (fun _ _ _ h => h) (Or.inl ⟨by rfl, ?_⟩) hHeld ?_
    · (intro w9 hSw; (try dsimp only at hSw); obtain ⟨s0, s1, s2, s3, s4, s5, s6, s7, s8, s9, t0, t1, t2⟩ := hSw; go_simp)
    simp only [Act.put, List.setIfInBounds_toArray, List.set_cons_zero, List.set_cons_succ]
    refine wpAnyH_take (i := 1) (v := (.agg #[.iface T bv, .int .i64 1, .int .i64 level])) rfl (by kernel_rfl) (by kernel_rfl) (by kernel_rfl) (fun _ _ _ h => h) (Or.inl ⟨by rfl, ?_⟩) hHeld ?_
    · (intro w9 hSw; (try dsimp only at hSw); obtain ⟨s0, s1, s2, s3, s4, s5, s6, s7, s8, s9, t0, t1, t2⟩ := hSw; go_simp)
    simp only [Act.put, List.setIfInBounds_toArray, List.set_cons_zero, List.set_cons_succ]
    refine wpAnyH_ready (rs := [2]) (by kernel_rfl) (by simp) ?_
    refine AllReadyH.cons rfl (fun K0 hK => ?_) AllReadyH.nil
    go_simp
    refine (HSK.out V5 (hMEM.out _ HD.out)).mono ?_
    rintro r w6 ⟨mp, hmp, rfl, hok6, hb6⟩
    have HB6 := Lib.hid (Below.two HD.out hb6)
    have WB6 := Lib.hid (WD.out.later hb6)
    have XB6 := Lib.hid (XD.out.later hb6)
    have YB6 := Lib.hid (YD.out.later hb6)
    clear hb6 WD XD YD HD
    have x0 := XB6.out.cell 0
    have x1 := XB6.out.cell 1
    have x2 := XB6.out.cell 2
    have x3 := XB6.out.cell 3
    have x4 := XB6.out.cell 4
    have x5 := XB6.out.cell 5
    have x6 := XB6.out.cell 6
    have x7 := XB6.out.cell 7
    have x8 := XB6.out.cell 8
    have x9 := XB6.out.cell 9
    simp only [List.getElem?_toArray, List.getElem?_cons_zero, List.getElem?_cons_succ] at x0 x1 x2 x3 x4 x5 x6 x7 x8 x9
    have v0 := WB6.out.cell 0
    have v1 := WB6.out.cell 1
    have v2 := WB6.out.cell 2
    simp only [List.getElem?_toArray, List.getElem?_cons_zero, List.getElem?_cons_succ] at v0 v1 v2
    refine hK.out _ _ ⟨x0, x1, x2, x3, x4, x5, x6, x7, x8, x9, v0, v1, v2⟩ (fun hHeld => ?_)
    clear hK K0
    try simp only [Act.put, List.getElem_toArray, List.getElem_cons_succ, List.getElem_cons_zero, List.setIfInBounds_toArray, List.set_cons_zero, List.set_cons_succ]
    refine wpAnyH_ready (rs := [3]) (by kernel_rfl) (by simp) ?_
    refine AllReadyH.cons rfl (fun K0 hK => ?_) AllReadyH.nil
    go_simp
    refine (ksame_any ⟨⟨1, level, e, bits, regs, rows, cols, c, fine, g⟩, ea, ec, ca, cc, ga, gc⟩ mp w6 (hMEM.out _ HB6.out) hok6 HF.out (hmp ▸ HP.out)).mono ?_
    rintro r w7 ⟨rfl, hb7⟩
    rw [hmp]
    have HB7 := Lib.hid (Below.two HB6.out hb7)
    have WB7 := Lib.hid (WB6.out.later hb7)
    have XB7 := Lib.hid (XB6.out.later hb7)
    have YB7 := Lib.hid (YB6.out.later hb7)
    clear hb7 WB6 XB6 YB6 HB6 hok6 hmp x0 x1 x2 x3 x4 x5 x6 x7 x8 x9 v0 v1 v2
    have x0 := XB7.out.cell 0
    have x1 := XB7.out.cell 1
    have x2 := XB7.out.cell 2
    have x3 := XB7.out.cell 3
    have x4 := XB7.out.cell 4
    have x5 := XB7.out.cell 5
    have x6 := XB7.out.cell 6
    have x7 := XB7.out.cell 7
    have x8 := XB7.out.cell 8
    have x9 := XB7.out.cell 9
    simp only [List.getElem?_toArray, List.getElem?_cons_zero, List.getElem?_cons_succ] at x0 x1 x2 x3 x4 x5 x6 x7 x8 x9
    have v0 := WB7.out.cell 0
    have v1 := WB7.out.cell 1
    have v2 := WB7.out.cell 2
    simp only [List.getElem?_toArray, List.getElem?_cons_zero, List.getElem?_cons_succ] at v0 v1 v2
    refine hK.out _ _ ⟨x0, x1, x2, x3, x4, x5, x6, x7, x8, x9, v0, v1, v2⟩ (fun hHeld => ?_)
    clear hK K0
    try simp only [Act.put, List.getElem_toArray, List.getElem_cons_succ, List.getElem_cons_zero, List.setIfInBounds_toArray, List.set_cons_zero, List.set_cons_succ]
    refine wpAnyH_ready (rs := [4]) (by kernel_rfl) (by simp) ?_
    refine AllReadyH.cons rfl (fun K0 hK => ?_) AllReadyH.nil
    go_simp
    refine hK.out _ _ ⟨x0, x1, x2, x3, x4, x5, x6, x7, x8, x9, v0, v1, v2⟩ (fun hHeld => ?_)
    clear hK K0
    try simp only [Act.put, List.getElem_toArray, List.getElem_cons_succ, List.getElem_cons_zero, List.setIfInBounds_toArray, List.set_cons_zero, List.set_cons_succ]
    refine wpAnyH_done (by kernel_rfl) ?_ _
    clear hHeld x0 x1 x2 x3 x4 x5 x6 x7 x8 x9 HSK HCALL XB7
    rw [Bool.true_and]
    generalize decide ((⟨1, level, e, bits, regs, rows, cols, c, fine, g⟩ : Sk) = part) = b at *
    have y0 := YB7.out.cell 0
    have y1 := YB7.out.cell 1
    have y2 := YB7.out.cell 2
    simp only [List.getElem?_toArray, List.getElem?_cons_zero, List.getElem?_cons_succ] at y0 y1 y2
    have f0 := YB7.out.frozen 0
    have f1 := YB7.out.frozen 1
    have f2 := YB7.out.frozen 2
    cases b with
    | false =>
      go_wp2_with fail
      have RR9 : Blk (((w7.setCell ⟨w.heap.size + 1, 0, none⟩ .nilIface).setCell ⟨w.heap.size + 1, 1, none⟩ (.int .i64 0)).setCell ⟨w.heap.size + 1, 2, none⟩ (.int .i64 0)) (w.heap.size + 1) 93 #[.nilIface, .int .i64 0, .int .i64 0] := YB7.out.set3
      have HB9 : Hid (Below w.heap.size w (((w7.setCell ⟨w.heap.size + 1, 0, none⟩ .nilIface).setCell ⟨w.heap.size + 1, 1, none⟩ (.int .i64 0)).setCell ⟨w.heap.size + 1, 2, none⟩ (.int .i64 0))) := ((HB7.out.setCell (by simp) _).setCell (by simp) _).setCell (by simp) _
      have q0 := RR9.cell 0
      have q1 := RR9.cell 1
      have q2 := RR9.cell 2
      simp only [List.getElem?_toArray, List.getElem?_cons_zero, List.getElem?_cons_succ] at q0 q1 q2
      clear RR9
      generalize (((w7.setCell ⟨w.heap.size + 1, 0, none⟩ .nilIface).setCell ⟨w.heap.size + 1, 1, none⟩ (.int .i64 0)).setCell ⟨w.heap.size + 1, 2, none⟩ (.int .i64 0)) = W9 at *
      refine bodyPost_ret (v := .tuple #[.agg #[.nilIface, .int .i64 0, .int .i64 0], .iface 106 (.pointer (some ⟨w.heap.size + 1 + 1, 0, none⟩))]) (by simp [results, Tryz.results57, go_sem, q0, q1, q2]) rfl ?_
      exact ⟨_, _, _, _, rfl, .inl rfl, ⟨_, rfl⟩, HB9.out⟩
    | true =>
      go_wp2_with fail
      have RR9 : Blk (((w7.setCell ⟨w.heap.size + 1, 0, none⟩ (.iface T bv)).setCell ⟨w.heap.size + 1, 1, none⟩ (.int .i64 1)).setCell ⟨w.heap.size + 1, 2, none⟩ (.int .i64 level)) (w.heap.size + 1) 93 #[.iface T bv, .int .i64 1, .int .i64 level] := YB7.out.set3
      have HB9 : Hid (Below w.heap.size w (((w7.setCell ⟨w.heap.size + 1, 0, none⟩ (.iface T bv)).setCell ⟨w.heap.size + 1, 1, none⟩ (.int .i64 1)).setCell ⟨w.heap.size + 1, 2, none⟩ (.int .i64 level))) := ((HB7.out.setCell (by simp) _).setCell (by simp) _).setCell (by simp) _
      have q0 := RR9.cell 0
      have q1 := RR9.cell 1
      have q2 := RR9.cell 2
      simp only [List.getElem?_toArray, List.getElem?_cons_zero, List.getElem?_cons_succ] at q0 q1 q2
      clear RR9
      generalize (((w7.setCell ⟨w.heap.size + 1, 0, none⟩ (.iface T bv)).setCell ⟨w.heap.size + 1, 1, none⟩ (.int .i64 1)).setCell ⟨w.heap.size + 1, 2, none⟩ (.int .i64 level)) = W9 at *
      refine bodyPost_ret (v := .tuple #[.agg #[.iface T bv, .int .i64 1, .int .i64 level], .nilIface]) (by simp [results, Tryz.results57, go_sem, q0, q1, q2]) rfl ?_
      exact ⟨_, _, _, _, rfl, .inr ⟨_, _, rfl⟩, rfl, HB9.out⟩
set_option maxRecDepth 100000 in
set_option maxHeartbeats 8000000 in
theorem open_2 (m : SkM) (T : TypeId) (bv : Value) (ok : Bool) (part : Sk) (hk : m.s.kind = 2) (hl0 : 0 ≤ m.s.level) (hl1 : m.s.level ≤ 3) (w : World) (hm : SkOk w w.heap.size m) (hf : SkFit m.s) (hp : SkFit part)
    (hcall : ∀ w', SkOk w' w'.heap.size m → Calls Tryz.prog 75 #[skV m] w' fun r w'' => r = .returned (.tuple #[.iface T bv, .bool ok]) ∧ Below w'.heap.size w' w'')
    (hsk : ∀ w', SkOk w' w'.heap.size m → Calls Tryz.prog 69 #[.agg #[.iface T bv, .int .i64 m.s.kind, .int .i64 m.s.level]] w' (SkRet w' part)) :
    Calls Tryz.prog 57 #[skV m] w (OpRet w (ok && decide (m.s = part))) := by
  have HM := Lib.hid hm
  have HF := Lib.hid hf
  have HCALL := Lib.hid hcall
  have HP := Lib.hid hp
  have HSK := Lib.hid hsk
  clear hm hf hcall hsk hp
  obtain ⟨⟨kind, level, e, bits, regs, rows, cols, c, fine, g⟩, ea, ec, ca, cc, ga, gc⟩ := m
  simp only at hk hl0 hl1 HF HSK
  subst hk
  have hMEM : Hid (∀ w', Below w.heap.size w w' → SkOk w' w'.heap.size _) := fun w' h => HM.out.later h
  go_enter Tryz.func57, Tryz.ntmps57
  unfold skV at *
  simp only at HCALL ⊢
  go_wp2_with fail
  have XB : Hid (Blk (World.alloc (World.alloc (w.alloc (.cells #[.int .i64 2, .int .i64 level, .slice ea e.length ec, .int .i64 bits, .string regs, .int .i64 rows, .int .i64 cols, .slice ca c.length cc, .int .i64 fine, .slice ga g.length gc] 48)) (.cells #[.nilIface, .int .i64 0, .int .i64 0] 93)) (.cells #[.int .i64 100] 108)) w.heap.size 48 #[.int .i64 2, .int .i64 level, .slice ea e.length ec, .int .i64 bits, .string regs, .int .i64 rows, .int .i64 cols, .slice ca c.length cc, .int .i64 fine, .slice ga g.length gc]) := ((Blk.new w 48 #[.int .i64 2, .int .i64 level, .slice ea e.length ec, .int .i64 bits, .string regs, .int .i64 rows, .int .i64 cols, .slice ca c.length cc, .int .i64 fine, .slice ga g.length gc]).alloc _).alloc _
  have YB : Hid (Blk (World.alloc (World.alloc (w.alloc (.cells #[.int .i64 2, .int .i64 level, .slice ea e.length ec, .int .i64 bits, .string regs, .int .i64 rows, .int .i64 cols, .slice ca c.length cc, .int .i64 fine, .slice ga g.length gc] 48)) (.cells #[.nilIface, .int .i64 0, .int .i64 0] 93)) (.cells #[.int .i64 100] 108)) (w.heap.size + 1) 93 #[.nilIface, .int .i64 0, .int .i64 0]) := by
    have h : (w.alloc (.cells #[.int .i64 2, .int .i64 level, .slice ea e.length ec, .int .i64 bits, .string regs, .int .i64 rows, .int .i64 cols, .slice ca c.length cc, .int .i64 fine, .slice ga g.length gc] 48)).heap.size = w.heap.size + 1 := by simp
    have := (Blk.new (w.alloc (.cells #[.int .i64 2, .int .i64 level, .slice ea e.length ec, .int .i64 bits, .string regs, .int .i64 rows, .int .i64 cols, .slice ca c.length cc, .int .i64 fine, .slice ga g.length gc] 48)) 93 #[.nilIface, .int .i64 0, .int .i64 0]).alloc (.cells #[.int .i64 100] 108)
    rw [h] at this
    exact this
  have HB : Hid (Below w.heap.size w (World.alloc (World.alloc (w.alloc (.cells #[.int .i64 2, .int .i64 level, .slice ea e.length ec, .int .i64 bits, .string regs, .int .i64 rows, .int .i64 cols, .slice ca c.length cc, .int .i64 fine, .slice ga g.length gc] 48)) (.cells #[.nilIface, .int .i64 0, .int .i64 0] 93)) (.cells #[.int .i64 100] 108))) := below_al (below_al (below_al (below_0 w) _) _) _
  have hV : (World.alloc (World.alloc (w.alloc (.cells #[.int .i64 2, .int .i64 level, .slice ea e.length ec, .int .i64 bits, .string regs, .int .i64 rows, .int .i64 cols, .slice ca c.length cc, .int .i64 fine, .slice ga g.length gc] 48)) (.cells #[.nilIface, .int .i64 0, .int .i64 0] 93)) (.cells #[.int .i64 100] 108)).heap.size = w.heap.size + 3 := by simp
  generalize (World.alloc (World.alloc (w.alloc (.cells #[.int .i64 2, .int .i64 level, .slice ea e.length ec, .int .i64 bits, .string regs, .int .i64 rows, .int .i64 cols, .slice ca c.length cc, .int .i64 fine, .slice ga g.length gc] 48)) (.cells #[.nilIface, .int .i64 0, .int .i64 0] 93)) (.cells #[.int .i64 100] 108)) = V at *
  have x0 := XB.out.cell 0
  have x1 := XB.out.cell 1
  simp only [List.getElem?_toArray, List.getElem?_cons_zero, List.getElem?_cons_succ] at x0 x1
  refine wp_region_held_drew (S := fun w' => w'.cell? ⟨w.heap.size, 0, none⟩ = some (.int .i64 2)) (by kernel_rfl) x0 (fun hHeld => ?_)
  have XD := Lib.hid XB.out.drew
  have YD := Lib.hid YB.out.drew
  have HD := Lib.hid HB.out.drew
  have hVD : V.drew.heap.size = w.heap.size + 3 := hV
  clear XB YB HB hV x0 x1
  generalize V.drew = V2 at *
  refine wpAnyH_take (i := 1) (v := (.pointer (some ⟨w.heap.size, 0, none⟩))) rfl (by kernel_rfl) (by kernel_rfl) (by kernel_rfl) (fun _ _ _ h => h) (Or.inl ⟨by rfl, ?_⟩) hHeld ?_
  · (intro w hSw; (try dsimp only at hSw); (try obtain ⟨s0, s1⟩ := hSw); go_simp)
  simp only [Act.put, List.setIfInBounds_toArray, List.set_cons_zero, List.set_cons_succ]
  refine wpAnyH_take (i := 2) (v := (.int .i64 2)) rfl (by kernel_rfl) (by kernel_rfl) (by kernel_rfl) (fun _ _ _ h => h) (Or.inl ⟨by rfl, ?_⟩) hHeld ?_
  · (intro w hSw; (try dsimp only at hSw); (try obtain ⟨s0, s1⟩ := hSw); go_simp)
  simp only [Act.put, List.setIfInBounds_toArray, List.set_cons_zero, List.set_cons_succ]
  refine wpAnyH_ready (rs := [0]) (by kernel_rfl) (by simp) ?_
  refine AllReadyH.cons rfl (fun K0 hK => ?_) AllReadyH.nil
  go_simp
  refine (kinds_any _).mono ?_
  rintro r _ ⟨rfl, rfl⟩
  have HB1 : Hid (Below w.heap.size w (V2.alloc (.map kindsO 3))) := below_al HD.out _
  have XB1 := Lib.hid (XD.out.alloc (.map kindsO 3))
  have YB1 := Lib.hid (YD.out.alloc (.map kindsO 3))
  have kL : (Instr.lookup 111 (.map (some V2.heap.size)) (.int .i64 2) true).run Tryz.prog (V2.alloc (.map kindsO 3)) = .ok (.tuple #[.func (.func 75) #[] #[], .bool true]) (V2.alloc (.map kindsO 3)) := run_look (i := 1) (World.alloc_heap_new V2 _) Tryz.underlying111 Tryz.underlying3 rfl
  have hV1 : (V2.alloc (.map kindsO 3)).heap.size = w.heap.size + 4 := by simp [hVD]
  clear XD YD HD
  rw [hVD] at kL
  generalize V2.alloc (.map kindsO 3) = V1 at *
  have x0 := XB1.out.cell 0
  have x1 := XB1.out.cell 1
  simp only [List.getElem?_toArray, List.getElem?_cons_zero, List.getElem?_cons_succ] at x0 x1
  refine hK.out _ _ x0 (fun hHeld => ?_)
  clear hK K0
  try simp only [Act.put, List.getElem_toArray, List.getElem_cons_succ, List.getElem_cons_zero, List.setIfInBounds_toArray, List.set_cons_zero, List.set_cons_succ]
  refine wpAnyH_ready (rs := [3]) (by kernel_rfl) (by simp) ?_
  refine AllReadyH.cons rfl (fun K0 hK => ?_) AllReadyH.nil
  go_simp
  refine hK.out _ _ x0 (fun hHeld => ?_)
  clear hK K0
  try simp only [Act.put, List.getElem_toArray, List.getElem_cons_succ, List.getElem_cons_zero, List.setIfInBounds_toArray, List.set_cons_zero, List.set_cons_succ]
  refine wpAnyH_take (i := 4) (v := (.tuple #[.func (.func 75) #[] #[], .bool true])) rfl (by kernel_rfl) (by kernel_rfl) (by kernel_rfl) (fun _ _ _ h => h) (Or.inl ⟨by rfl, ?_⟩) hHeld ?_
  · (intro w hSw; (try dsimp only at hSw); (try obtain ⟨s0, s1⟩ := hSw); go_simp)
  simp only [Act.put, List.setIfInBounds_toArray, List.set_cons_zero, List.set_cons_succ]
  refine wpAnyH_take (i := 5) (v := (.func (.func 75) #[] #[])) rfl (by kernel_rfl) (by kernel_rfl) (by kernel_rfl) (fun _ _ _ h => h) (Or.inl ⟨by rfl, ?_⟩) hHeld ?_
  · (intro w hSw; (try dsimp only at hSw); (try obtain ⟨s0, s1⟩ := hSw); go_simp)
  simp only [Act.put, List.setIfInBounds_toArray, List.set_cons_zero, List.set_cons_succ]
  refine wpAnyH_take (i := 6) (v := (.bool true)) rfl (by kernel_rfl) (by kernel_rfl) (by kernel_rfl) (fun _ _ _ h => h) (Or.inl ⟨by rfl, ?_⟩) hHeld ?_
  · (intro w hSw; (try dsimp only at hSw); (try obtain ⟨s0, s1⟩ := hSw); go_simp)
  simp only [Act.put, List.setIfInBounds_toArray, List.set_cons_zero, List.set_cons_succ]
  refine wpAnyH_ready (rs := [7]) (by kernel_rfl) (by simp) ?_
  refine AllReadyH.cons rfl (fun K0 hK => ?_) AllReadyH.nil
  go_simp
  refine hK.out _ _ x0 (fun hHeld => ?_)
  clear hK K0
  try simp only [Act.put, List.getElem_toArray, List.getElem_cons_succ, List.getElem_cons_zero, List.setIfInBounds_toArray, List.set_cons_zero, List.set_cons_succ]
  refine wpAnyH_ready (rs := [8]) (by kernel_rfl) (by simp) ?_
  refine AllReadyH.cons rfl (fun K0 hK => ?_) AllReadyH.nil
  go_simp
  refine hK.out _ _ x0 (fun hHeld => ?_)
  clear hK K0
  try simp only [Act.put, List.getElem_toArray, List.getElem_cons_succ, List.getElem_cons_zero, List.setIfInBounds_toArray, List.set_cons_zero, List.set_cons_succ]
  refine wpAnyH_done (by kernel_rfl) ?_ _
  clear hHeld kL
  have hl2 : decide (level < 0) = false := decide_eq_false (by omega)
  have hl3 : decide (3 < level) = false := decide_eq_false (by omega)
  have hb4 : bottomF 2 = 3 := by decide
  go_wp2_with fail
  haveI hAW := After.some V1
  have hxw := XB1.out.lt
  have F0 := After.cell x0 hxw
  have F1 := After.cell x1 hxw
  have QB : Hid (∀ y : After V1, Calls Tryz.prog 67 #[.int .i64 2] y.at_ fun r w' => r = .returned (.int .i64 3) ∧ Below y.at_.heap.size y.at_ w') := fun y => (bottom_any 2 y.at_).mono fun _ _ ⟨h1, h2⟩ => ⟨by rw [h1, hb4], h2 ▸ below_0 _⟩
  refine wp_region_below (by kernel_rfl) (by kernel_rfl) ?_
  repeat (go_big_quiet_step (first | with_reducible exact after_calls (QB.out _)))
  refine wpQuiet_nil ?_
  rintro w2 ⟨y2, hy2⟩
  have hb2 : Below V1.heap.size V1 w2 := by rw [hy2]; exact y2.is
  have HB2 := Lib.hid (Below.two HB1.out hb2)
  have XB2 := Lib.hid (XB1.out.later hb2)
  have YB2 := Lib.hid (YB1.out.later hb2)
  clear hy2 y2 hb2 XB1 YB1 HB1 x0 x1 F0 F1 hAW QB hb4 hV1 hxw
  have x0 := XB2.out.cell 0
  have x1 := XB2.out.cell 1
  have x2 := XB2.out.cell 2
  have x3 := XB2.out.cell 3
  have x4 := XB2.out.cell 4
  have x5 := XB2.out.cell 5
  have x6 := XB2.out.cell 6
  have x7 := XB2.out.cell 7
  have x8 := XB2.out.cell 8
  have x9 := XB2.out.cell 9
  have y0 := YB2.out.cell 0
  have y1 := YB2.out.cell 1
  have y2 := YB2.out.cell 2
  simp only [List.getElem?_toArray, List.getElem?_cons_zero, List.getElem?_cons_succ] at x0 x1 x2 x3 x4 x5 x6 x7 x8 x9 y0 y1 y2
  go_wp2_with fail
  refine (HCALL.out _ (hMEM.out _ HB2.out)).mono ?_
  rintro r w3 ⟨rfl, hb3⟩
  have HB3 := Lib.hid (Below.two HB2.out hb3)
  have XB3 := Lib.hid (XB2.out.later hb3)
  have YB3 := Lib.hid (YB2.out.later hb3)
  clear hb3 XB2 YB2 HB2 x0 x1 x2 x3 x4 x5 x6 x7 x8 x9 y0 y1 y2
  have y0 := YB3.out.cell 0
  have y1 := YB3.out.cell 1
  have y2 := YB3.out.cell 2
  simp only [List.getElem?_toArray, List.getElem?_cons_zero, List.getElem?_cons_succ] at y0 y1 y2
  have f0 := YB3.out.frozen 0
  have f1 := YB3.out.frozen 1
  have f2 := YB3.out.frozen 2
  cases ok with
  | false =>
    go_wp2_with fail
    have RR9 : Blk (((w3.setCell ⟨w.heap.size + 1, 0, none⟩ .nilIface).setCell ⟨w.heap.size + 1, 1, none⟩ (.int .i64 0)).setCell ⟨w.heap.size + 1, 2, none⟩ (.int .i64 0)) (w.heap.size + 1) 93 #[.nilIface, .int .i64 0, .int .i64 0] := YB3.out.set3
    have HB9 : Hid (Below w.heap.size w (((w3.setCell ⟨w.heap.size + 1, 0, none⟩ .nilIface).setCell ⟨w.heap.size + 1, 1, none⟩ (.int .i64 0)).setCell ⟨w.heap.size + 1, 2, none⟩ (.int .i64 0))) := ((HB3.out.setCell (by simp) _).setCell (by simp) _).setCell (by simp) _
    have q0 := RR9.cell 0
    have q1 := RR9.cell 1
    have q2 := RR9.cell 2
    simp only [List.getElem?_toArray, List.getElem?_cons_zero, List.getElem?_cons_succ] at q0 q1 q2
    clear RR9
    generalize (((w3.setCell ⟨w.heap.size + 1, 0, none⟩ .nilIface).setCell ⟨w.heap.size + 1, 1, none⟩ (.int .i64 0)).setCell ⟨w.heap.size + 1, 2, none⟩ (.int .i64 0)) = W9 at *
    refine bodyPost_ret (v := .tuple #[.agg #[.nilIface, .int .i64 0, .int .i64 0], .iface 106 (.pointer (some ⟨w.heap.size + 1 + 1, 0, none⟩))]) (by simp [results, Tryz.results57, go_sem, q0, q1, q2]) rfl ?_
    exact ⟨_, _, _, _, rfl, .inl rfl, by rw [Bool.false_and]; exact ⟨_, rfl⟩, HB9.out⟩
  | true =>
    have x0 := XB3.out.cell 0
    have x1 := XB3.out.cell 1
    have x2 := XB3.out.cell 2
    have x3 := XB3.out.cell 3
    have x4 := XB3.out.cell 4
    have x5 := XB3.out.cell 5
    have x6 := XB3.out.cell 6
    have x7 := XB3.out.cell 7
    have x8 := XB3.out.cell 8
    have x9 := XB3.out.cell 9
    simp only [List.getElem?_toArray, List.getElem?_cons_zero, List.getElem?_cons_succ] at x0 x1 x2 x3 x4 x5 x6 x7 x8 x9
    go_wp2_with fail
    clear x0 x1 x2 x3 x4 x5 x6 x7 x8 x9 y0 y1 y2 f0 f1 f2
    have hb4 := below_al (below_0 w3) (.cells #[.iface T bv, .int .i64 2, .int .i64 level] 93)
    have WB := Lib.hid (Blk.new w3 93 #[.iface T bv, .int .i64 2, .int .i64 level])
    have HB4 := Lib.hid (Below.two HB3.out hb4)
    have XB4 := Lib.hid (XB3.out.later hb4)
    have YB4 := Lib.hid (YB3.out.later hb4)
    have hz3 := HB3.out.size
    have hzy := YB3.out.lt
    clear hb4 XB3 YB3 HB3
    generalize w3.heap.size = bx at *
    generalize w3.alloc (.cells #[.iface T bv, .int .i64 2, .int .i64 level] 93) = V4 at *
    have x0 := XB4.out.cell 0
    have x1 := XB4.out.cell 1
    have x2 := XB4.out.cell 2
    have x3 := XB4.out.cell 3
    have x4 := XB4.out.cell 4
    have x5 := XB4.out.cell 5
    have x6 := XB4.out.cell 6
    have x7 := XB4.out.cell 7
    have x8 := XB4.out.cell 8
    have x9 := XB4.out.cell 9
    simp only [List.getElem?_toArray, List.getElem?_cons_zero, List.getElem?_cons_succ] at x0 x1 x2 x3 x4 x5 x6 x7 x8 x9
    have v0 := WB.out.cell 0
    have v1 := WB.out.cell 1
    have v2 := WB.out.cell 2
    simp only [List.getElem?_toArray, List.getElem?_cons_zero, List.getElem?_cons_succ] at v0 v1 v2
    refine wp_region_held_drew (S := fun w9 => w9.cell? ⟨w.heap.size, 0, none⟩ = some (.int .i64 2) ∧ w9.cell? ⟨w.heap.size, 1, none⟩ = some (.int .i64 level) ∧ w9.cell? ⟨w.heap.size, 2, none⟩ = some (.slice ea e.length ec) ∧ w9.cell? ⟨w.heap.size, 3, none⟩ = some (.int .i64 bits) ∧ w9.cell? ⟨w.heap.size, 4, none⟩ = some (.string regs) ∧ w9.cell? ⟨w.heap.size, 5, none⟩ = some (.int .i64 rows) ∧ w9.cell? ⟨w.heap.size, 6, none⟩ = some (.int .i64 cols) ∧ w9.cell? ⟨w.heap.size, 7, none⟩ = some (.slice ca c.length cc) ∧ w9.cell? ⟨w.heap.size, 8, none⟩ = some (.int .i64 fine) ∧ w9.cell? ⟨w.heap.size, 9, none⟩ = some (.slice ga g.length gc) ∧ w9.cell? ⟨bx, 0, none⟩ = some (.iface T bv) ∧ w9.cell? ⟨bx, 1, none⟩ = some (.int .i64 2) ∧ w9.cell? ⟨bx, 2, none⟩ = some (.int .i64 level)) (by kernel_rfl) ⟨x0, x1, x2, x3, x4, x5, x6, x7, x8, x9, v0, v1, v2⟩ (fun hHeld => ?_)
    have WD := Lib.hid WB.out.drew
    have XD := Lib.hid XB4.out.drew
    have YD := Lib.hid YB4.out.drew
    have HD := Lib.hid HB4.out.drew
    clear XB4 YB4 HB4 WB x0 x1 x2 x3 x4 x5 x6 x7 x8 x9 v0 v1 v2
    generalize V4.drew = V5 at *
    refine wpAnyH_take (i := 0) (v := (.agg #[.int .i64 2, .int .i64 level, .slice ea e.length ec, .int .i64 bits, .string regs, .int .i64 rows, .int .i64 cols, .slice ca c.length cc, .int .i64 fine, .slice ga g.length gc])) rfl (by kernel_rfl) (by kernel_rfl) (by kernel_rfl) (fun _ _ _ h => h) (Or.inl ⟨by rfl, ?_⟩) hHeld ?_
    · (intro w9 hSw; (try dsimp only at hSw); obtain ⟨s0, s1, s2, s3, s4, s5, s6, s7, s8, s9, t0, t1, t2⟩ := hSw; go_simp)
    simp only [Act.put, List.setIfInBounds_toArray, List.set_cons_zero, List.set_cons_succ]
    refine wpAnyH_take (i := 1) (v := (.agg #[.iface T bv, .int .i64 2, .int .i64 level])) rfl (by kernel_rfl) (by kernel_rfl) (by kernel_rfl) (fun _ _ _ h => h) (Or.inl ⟨by rfl, ?_⟩) hHeld ?_
    · (intro w9 hSw; (try dsimp only at hSw); obtain ⟨s0, s1, s2, s3, s4, s5, s6, s7, s8, s9, t0, t1, t2⟩ := hSw; go_simp)
    simp only [Act.put, List.setIfInBounds_toArray, List.set_cons_zero, List.set_cons_succ]
    refine wpAnyH_ready (rs := [2]) (by kernel_rfl) (by simp) ?_
    refine AllReadyH.cons rfl (fun K0 hK => ?_) AllReadyH.nil
    go_simp
    refine (HSK.out V5 (hMEM.out _ HD.out)).mono ?_
    rintro r w6 ⟨mp, hmp, rfl, hok6, hb6⟩
    have HB6 := Lib.hid (Below.two HD.out hb6)
    have WB6 := Lib.hid (WD.out.later hb6)
    have XB6 := Lib.hid (XD.out.later hb6)
    have YB6 := Lib.hid (YD.out.later hb6)
    clear hb6 WD XD YD HD
    have x0 := XB6.out.cell 0
    have x1 := XB6.out.cell 1
    have x2 := XB6.out.cell 2
    have x3 := XB6.out.cell 3
    have x4 := XB6.out.cell 4
    have x5 := XB6.out.cell 5
    have x6 := XB6.out.cell 6
    have x7 := XB6.out.cell 7
    have x8 := XB6.out.cell 8
    have x9 := XB6.out.cell 9
    simp only [List.getElem?_toArray, List.getElem?_cons_zero, List.getElem?_cons_succ] at x0 x1 x2 x3 x4 x5 x6 x7 x8 x9
    have v0 := WB6.out.cell 0
    have v1 := WB6.out.cell 1
    have v2 := WB6.out.cell 2
    simp only [List.getElem?_toArray, List.getElem?_cons_zero, List.getElem?_cons_succ] at v0 v1 v2
    refine hK.out _ _ ⟨x0, x1, x2, x3, x4, x5, x6, x7, x8, x9, v0, v1, v2⟩ (fun hHeld => ?_)
    clear hK K0
    try simp only [Act.put, List.getElem_toArray, List.getElem_cons_succ, List.getElem_cons_zero, List.setIfInBounds_toArray, List.set_cons_zero, List.set_cons_succ]
    refine wpAnyH_ready (rs := [3]) (by kernel_rfl) (by simp) ?_
    refine AllReadyH.cons rfl (fun K0 hK => ?_) AllReadyH.nil
    go_simp
    refine (ksame_any ⟨⟨2, level, e, bits, regs, rows, cols, c, fine, g⟩, ea, ec, ca, cc, ga, gc⟩ mp w6 (hMEM.out _ HB6.out) hok6 HF.out (hmp ▸ HP.out)).mono ?_
    rintro r w7 ⟨rfl, hb7⟩
    rw [hmp]
    have HB7 := Lib.hid (Below.two HB6.out hb7)
    have WB7 := Lib.hid (WB6.out.later hb7)
    have XB7 := Lib.hid (XB6.out.later hb7)
    have YB7 := Lib.hid (YB6.out.later hb7)
    clear hb7 WB6 XB6 YB6 HB6 hok6 hmp x0 x1 x2 x3 x4 x5 x6 x7 x8 x9 v0 v1 v2
    have x0 := XB7.out.cell 0
    have x1 := XB7.out.cell 1
    have x2 := XB7.out.cell 2
    have x3 := XB7.out.cell 3
    have x4 := XB7.out.cell 4
    have x5 := XB7.out.cell 5
    have x6 := XB7.out.cell 6
    have x7 := XB7.out.cell 7
    have x8 := XB7.out.cell 8
    have x9 := XB7.out.cell 9
    simp only [List.getElem?_toArray, List.getElem?_cons_zero, List.getElem?_cons_succ] at x0 x1 x2 x3 x4 x5 x6 x7 x8 x9
    have v0 := WB7.out.cell 0
    have v1 := WB7.out.cell 1
    have v2 := WB7.out.cell 2
    simp only [List.getElem?_toArray, List.getElem?_cons_zero, List.getElem?_cons_succ] at v0 v1 v2
    refine hK.out _ _ ⟨x0, x1, x2, x3, x4, x5, x6, x7, x8, x9, v0, v1, v2⟩ (fun hHeld => ?_)
    clear hK K0
    try simp only [Act.put, List.getElem_toArray, List.getElem_cons_succ, List.getElem_cons_zero, List.setIfInBounds_toArray, List.set_cons_zero, List.set_cons_succ]
    refine wpAnyH_ready (rs := [4]) (by kernel_rfl) (by simp) ?_
    refine AllReadyH.cons rfl (fun K0 hK => ?_) AllReadyH.nil
    go_simp
    refine hK.out _ _ ⟨x0, x1, x2, x3, x4, x5, x6, x7, x8, x9, v0, v1, v2⟩ (fun hHeld => ?_)
    clear hK K0
    try simp only [Act.put, List.getElem_toArray, List.getElem_cons_succ, List.getElem_cons_zero, List.setIfInBounds_toArray, List.set_cons_zero, List.set_cons_succ]
    refine wpAnyH_done (by kernel_rfl) ?_ _
    clear hHeld x0 x1 x2 x3 x4 x5 x6 x7 x8 x9 HSK HCALL XB7
    rw [Bool.true_and]
    generalize decide ((⟨2, level, e, bits, regs, rows, cols, c, fine, g⟩ : Sk) = part) = b at *
    have y0 := YB7.out.cell 0
    have y1 := YB7.out.cell 1
    have y2 := YB7.out.cell 2
    simp only [List.getElem?_toArray, List.getElem?_cons_zero, List.getElem?_cons_succ] at y0 y1 y2
    have f0 := YB7.out.frozen 0
    have f1 := YB7.out.frozen 1
    have f2 := YB7.out.frozen 2
    cases b with
    | false =>
      go_wp2_with fail
      have RR9 : Blk (((w7.setCell ⟨w.heap.size + 1, 0, none⟩ .nilIface).setCell ⟨w.heap.size + 1, 1, none⟩ (.int .i64 0)).setCell ⟨w.heap.size + 1, 2, none⟩ (.int .i64 0)) (w.heap.size + 1) 93 #[.nilIface, .int .i64 0, .int .i64 0] := YB7.out.set3
      have HB9 : Hid (Below w.heap.size w (((w7.setCell ⟨w.heap.size + 1, 0, none⟩ .nilIface).setCell ⟨w.heap.size + 1, 1, none⟩ (.int .i64 0)).setCell ⟨w.heap.size + 1, 2, none⟩ (.int .i64 0))) := ((HB7.out.setCell (by simp) _).setCell (by simp) _).setCell (by simp) _
      have q0 := RR9.cell 0
      have q1 := RR9.cell 1
      have q2 := RR9.cell 2
      simp only [List.getElem?_toArray, List.getElem?_cons_zero, List.getElem?_cons_succ] at q0 q1 q2
      clear RR9
      generalize (((w7.setCell ⟨w.heap.size + 1, 0, none⟩ .nilIface).setCell ⟨w.heap.size + 1, 1, none⟩ (.int .i64 0)).setCell ⟨w.heap.size + 1, 2, none⟩ (.int .i64 0)) = W9 at *
      refine bodyPost_ret (v := .tuple #[.agg #[.nilIface, .int .i64 0, .int .i64 0], .iface 106 (.pointer (some ⟨w.heap.size + 1 + 1, 0, none⟩))]) (by simp [results, Tryz.results57, go_sem, q0, q1, q2]) rfl ?_
      exact ⟨_, _, _, _, rfl, .inl rfl, ⟨_, rfl⟩, HB9.out⟩
    | true =>
      go_wp2_with fail
      have RR9 : Blk (((w7.setCell ⟨w.heap.size + 1, 0, none⟩ (.iface T bv)).setCell ⟨w.heap.size + 1, 1, none⟩ (.int .i64 2)).setCell ⟨w.heap.size + 1, 2, none⟩ (.int .i64 level)) (w.heap.size + 1) 93 #[.iface T bv, .int .i64 2, .int .i64 level] := YB7.out.set3
      have HB9 : Hid (Below w.heap.size w (((w7.setCell ⟨w.heap.size + 1, 0, none⟩ (.iface T bv)).setCell ⟨w.heap.size + 1, 1, none⟩ (.int .i64 2)).setCell ⟨w.heap.size + 1, 2, none⟩ (.int .i64 level))) := ((HB7.out.setCell (by simp) _).setCell (by simp) _).setCell (by simp) _
      have q0 := RR9.cell 0
      have q1 := RR9.cell 1
      have q2 := RR9.cell 2
      simp only [List.getElem?_toArray, List.getElem?_cons_zero, List.getElem?_cons_succ] at q0 q1 q2
      clear RR9
      generalize (((w7.setCell ⟨w.heap.size + 1, 0, none⟩ (.iface T bv)).setCell ⟨w.heap.size + 1, 1, none⟩ (.int .i64 2)).setCell ⟨w.heap.size + 1, 2, none⟩ (.int .i64 level)) = W9 at *
      refine bodyPost_ret (v := .tuple #[.agg #[.iface T bv, .int .i64 2, .int .i64 level], .nilIface]) (by simp [results, Tryz.results57, go_sem, q0, q1, q2]) rfl ?_
      exact ⟨_, _, _, _, rfl, .inr ⟨_, _, rfl⟩, rfl, HB9.out⟩
set_option maxRecDepth 100000 in
set_option maxHeartbeats 8000000 in
theorem open_3 (m : SkM) (T : TypeId) (bv : Value) (ok : Bool) (part : Sk) (hk : m.s.kind = 3) (hl0 : 0 ≤ m.s.level) (hl1 : m.s.level ≤ 3) (w : World) (hm : SkOk w w.heap.size m) (hf : SkFit m.s) (hp : SkFit part)
    (hcall : ∀ w', SkOk w' w'.heap.size m → Calls Tryz.prog 76 #[skV m] w' fun r w'' => r = .returned (.tuple #[.iface T bv, .bool ok]) ∧ Below w'.heap.size w' w'')
    (hsk : ∀ w', SkOk w' w'.heap.size m → Calls Tryz.prog 69 #[.agg #[.iface T bv, .int .i64 m.s.kind, .int .i64 m.s.level]] w' (SkRet w' part)) :
    Calls Tryz.prog 57 #[skV m] w (OpRet w (ok && decide (m.s = part))) := by
  have HM := Lib.hid hm
  have HF := Lib.hid hf
  have HCALL := Lib.hid hcall
  have HP := Lib.hid hp
  have HSK := Lib.hid hsk
  clear hm hf hcall hsk hp
  obtain ⟨⟨kind, level, e, bits, regs, rows, cols, c, fine, g⟩, ea, ec, ca, cc, ga, gc⟩ := m
  simp only at hk hl0 hl1 HF HSK
  subst hk
  have hMEM : Hid (∀ w', Below w.heap.size w w' → SkOk w' w'.heap.size _) := fun w' h => HM.out.later h
  go_enter Tryz.func57, Tryz.ntmps57
  unfold skV at *
  simp only at HCALL ⊢
  go_wp2_with fail
  have XB : Hid (Blk (World.alloc (World.alloc (w.alloc (.cells #[.int .i64 3, .int .i64 level, .slice ea e.length ec, .int .i64 bits, .string regs, .int .i64 rows, .int .i64 cols, .slice ca c.length cc, .int .i64 fine, .slice ga g.length gc] 48)) (.cells #[.nilIface, .int .i64 0, .int .i64 0] 93)) (.cells #[.int .i64 100] 108)) w.heap.size 48 #[.int .i64 3, .int .i64 level, .slice ea e.length ec, .int .i64 bits, .string regs, .int .i64 rows, .int .i64 cols, .slice ca c.length cc, .int .i64 fine, .slice ga g.length gc]) := ((Blk.new w 48 #[.int .i64 3, .int .i64 level, .slice ea e.length ec, .int .i64 bits, .string regs, .int .i64 rows, .int .i64 cols, .slice ca c.length cc, .int .i64 fine, .slice ga g.length gc]).alloc _).alloc _
  have YB : Hid (Blk (World.alloc (World.alloc (w.alloc (.cells #[.int .i64 3, .int .i64 level, .slice ea e.length ec, .int .i64 bits, .string regs, .int .i64 rows, .int .i64 cols, .slice ca c.length cc, .int .i64 fine, .slice ga g.length gc] 48)) (.cells #[.nilIface, .int .i64 0, .int .i64 0] 93)) (.cells #[.int .i64 100] 108)) (w.heap.size + 1) 93 #[.nilIface, .int .i64 0, .int .i64 0]) := by
    have h : (w.alloc (.cells #[.int .i64 3, .int .i64 level, .slice ea e.length ec, .int .i64 bits, .string regs, .int .i64 rows, .int .i64 cols, .slice ca c.length cc, .int .i64 fine, .slice ga g.length gc] 48)).heap.size = w.heap.size + 1 := by simp
    have := (Blk.new (w.alloc (.cells #[.int .i64 3, .int .i64 level, .slice ea e.length ec, .int .i64 bits, .string regs, .int .i64 rows, .int .i64 cols, .slice ca c.length cc, .int .i64 fine, .slice ga g.length gc] 48)) 93 #[.nilIface, .int .i64 0, .int .i64 0]).alloc (.cells #[.int .i64 100] 108)
    rw [h] at this
    exact this
  have HB : Hid (Below w.heap.size w (World.alloc (World.alloc (w.alloc (.cells #[.int .i64 3, .int .i64 level, .slice ea e.length ec, .int .i64 bits, .string regs, .int .i64 rows, .int .i64 cols, .slice ca c.length cc, .int .i64 fine, .slice ga g.length gc] 48)) (.cells #[.nilIface, .int .i64 0, .int .i64 0] 93)) (.cells #[.int .i64 100] 108))) := below_al (below_al (below_al (below_0 w) _) _) _
  have hV : (World.alloc (World.alloc (w.alloc (.cells #[.int .i64 3, .int .i64 level, .slice ea e.length ec, .int .i64 bits, .string regs, .int .i64 rows, .int .i64 cols, .slice ca c.length cc, .int .i64 fine, .slice ga g.length gc] 48)) (.cells #[.nilIface, .int .i64 0, .int .i64 0] 93)) (.cells #[.int .i64 100] 108)).heap.size = w.heap.size + 3 := by simp
  generalize (World.alloc (World.alloc (w.alloc (.cells #[.int .i64 3, .int .i64 level, .slice ea e.length ec, .int .i64 bits, .string regs, .int .i64 rows, .int .i64 cols, .slice ca c.length cc, .int .i64 fine, .slice ga g.length gc] 48)) (.cells #[.nilIface, .int .i64 0, .int .i64 0] 93)) (.cells #[.int .i64 100] 108)) = V at *
  have x0 := XB.out.cell 0
  have x1 := XB.out.cell 1
  simp only [List.getElem?_toArray, List.getElem?_cons_zero, List.getElem?_cons_succ] at x0 x1
  refine wp_region_held_drew (S := fun w' => w'.cell? ⟨w.heap.size, 0, none⟩ = some (.int .i64 3)) (by kernel_rfl) x0 (fun hHeld => ?_)
  have XD := Lib.hid XB.out.drew
  have YD := Lib.hid YB.out.drew
  have HD := Lib.hid HB.out.drew
  have hVD : V.drew.heap.size = w.heap.size + 3 := hV
  clear XB YB HB hV x0 x1
  generalize V.drew = V2 at *
  refine wpAnyH_take (i := 1) (v := (.pointer (some ⟨w.heap.size, 0, none⟩))) rfl (by kernel_rfl) (by kernel_rfl) (by kernel_rfl) (fun _ _ _ h => h) (Or.inl ⟨by rfl, ?_⟩) hHeld ?_
  · (intro w hSw; (try dsimp only at hSw); (try obtain ⟨s0, s1⟩ := hSw); go_simp)
  simp only [Act.put, List.setIfInBounds_toArray, List.set_cons_zero, List.set_cons_succ]
  refine wpAnyH_take (i := 2) (v := (.int .i64 3)) rfl (by kernel_rfl) (by kernel_rfl) (by kernel_rfl) (fun _ _ _ h => h) (Or.inl ⟨by rfl, ?_⟩) hHeld ?_
  · (intro w hSw; (try dsimp only at hSw); (try obtain ⟨s0, s1⟩ := hSw); go_simp)
  simp only [Act.put, List.setIfInBounds_toArray, List.set_cons_zero, List.set_cons_succ]
  refine wpAnyH_ready (rs := [0]) (by kernel_rfl) (by simp) ?_
  refine AllReadyH.cons rfl (fun K0 hK => ?_) AllReadyH.nil
  go_simp
  refine (kinds_any _).mono ?_
  rintro r _ ⟨rfl, rfl⟩
  have HB1 : Hid (Below w.heap.size w (V2.alloc (.map kindsO 3))) := below_al HD.out _
  have XB1 := Lib.hid (XD.out.alloc (.map kindsO 3))
  have YB1 := Lib.hid (YD.out.alloc (.map kindsO 3))
  have kL : (Instr.lookup 111 (.map (some V2.heap.size)) (.int .i64 3) true).run Tryz.prog (V2.alloc (.map kindsO 3)) = .ok (.tuple #[.func (.func 76) #[] #[], .bool true]) (V2.alloc (.map kindsO 3)) := run_look (i := 2) (World.alloc_heap_new V2 _) Tryz.underlying111 Tryz.underlying3 rfl
  have hV1 : (V2.alloc (.map kindsO 3)).heap.size = w.heap.size + 4 := by simp [hVD]
  clear XD YD HD
  rw [hVD] at kL
  generalize V2.alloc (.map kindsO 3) = V1 at *
  have x0 := XB1.out.cell 0
  have x1 := XB1.out.cell 1
  simp only [List.getElem?_toArray, List.getElem?_cons_zero, List.getElem?_cons_succ] at x0 x1
  refine hK.out _ _ x0 (fun hHeld => ?_)
  clear hK K0
  try simp only [Act.put, List.getElem_toArray, List.getElem_cons_succ, List.getElem_cons_zero, List.setIfInBounds_toArray, List.set_cons_zero, List.set_cons_succ]
  refine wpAnyH_ready (rs := [3]) (by kernel_rfl) (by simp) ?_
  refine AllReadyH.cons rfl (fun K0 hK => ?_) AllReadyH.nil
  go_simp
  refine hK.out _ _ x0 (fun hHeld => ?_)
  clear hK K0
  try simp only [Act.put, List.getElem_toArray, List.getElem_cons_succ, List.getElem_cons_zero, List.setIfInBounds_toArray, List.set_cons_zero, List.set_cons_succ]
  refine wpAnyH_take (i := 4) (v := (.tuple #[.func (.func 76) #[] #[], .bool true])) rfl (by kernel_rfl) (by kernel_rfl) (by kernel_rfl) (fun _ _ _ h => h) (Or.inl ⟨by rfl, ?_⟩) hHeld ?_
  · (intro w hSw; (try dsimp only at hSw); (try obtain ⟨s0, s1⟩ := hSw); go_simp)
  simp only [Act.put, List.setIfInBounds_toArray, List.set_cons_zero, List.set_cons_succ]
  refine wpAnyH_take (i := 5) (v := (.func (.func 76) #[] #[])) rfl (by kernel_rfl) (by kernel_rfl) (by kernel_rfl) (fun _ _ _ h => h) (Or.inl ⟨by rfl, ?_⟩) hHeld ?_
  · (intro w hSw; (try dsimp only at hSw); (try obtain ⟨s0, s1⟩ := hSw); go_simp)
  simp only [Act.put, List.setIfInBounds_toArray, List.set_cons_zero, List.set_cons_succ]
  refine wpAnyH_take (i := 6) (v := (.bool true)) rfl (by kernel_rfl) (by kernel_rfl) (by kernel_rfl) (fun _ _ _ h => h) (Or.inl ⟨by rfl, ?_⟩) hHeld ?_
  · (intro w hSw; (try dsimp only at hSw); (try obtain ⟨s0, s1⟩ := hSw); go_simp)
  simp only [Act.put, List.setIfInBounds_toArray, List.set_cons_zero, List.set_cons_succ]
  refine wpAnyH_ready (rs := [7]) (by kernel_rfl) (by simp) ?_
  refine AllReadyH.cons rfl (fun K0 hK => ?_) AllReadyH.nil
  go_simp
  refine hK.out _ _ x0 (fun hHeld => ?_)
  clear hK K0
  try simp only [Act.put, List.getElem_toArray, List.getElem_cons_succ, List.getElem_cons_zero, List.setIfInBounds_toArray, List.set_cons_zero, List.set_cons_succ]
  refine wpAnyH_ready (rs := [8]) (by kernel_rfl) (by simp) ?_
  refine AllReadyH.cons rfl (fun K0 hK => ?_) AllReadyH.nil
  go_simp
  refine hK.out _ _ x0 (fun hHeld => ?_)
  clear hK K0
  try simp only [Act.put, List.getElem_toArray, List.getElem_cons_succ, List.getElem_cons_zero, List.setIfInBounds_toArray, List.set_cons_zero, List.set_cons_succ]
  refine wpAnyH_done (by kernel_rfl) ?_ _
  clear hHeld kL
  have hl2 : decide (level < 0) = false := decide_eq_false (by omega)
  have hl3 : decide (3 < level) = false := decide_eq_false (by omega)
  have hb4 : bottomF 3 = 3 := by decide
  go_wp2_with fail
  haveI hAW := After.some V1
  have hxw := XB1.out.lt
  have F0 := After.cell x0 hxw
  have F1 := After.cell x1 hxw
  have QB : Hid (∀ y : After V1, Calls Tryz.prog 67 #[.int .i64 3] y.at_ fun r w' => r = .returned (.int .i64 3) ∧ Below y.at_.heap.size y.at_ w') := fun y => (bottom_any 3 y.at_).mono fun _ _ ⟨h1, h2⟩ => ⟨by rw [h1, hb4], h2 ▸ below_0 _⟩
  refine wp_region_below (by kernel_rfl) (by kernel_rfl) ?_
  repeat (go_big_quiet_step (first | with_reducible exact after_calls (QB.out _)))
  refine wpQuiet_nil ?_
  rintro w2 ⟨y2, hy2⟩
  have hb2 : Below V1.heap.size V1 w2 := by rw [hy2]; exact y2.is
  have HB2 := Lib.hid (Below.two HB1.out hb2)
  have XB2 := Lib.hid (XB1.out.later hb2)
  have YB2 := Lib.hid (YB1.out.later hb2)
  clear hy2 y2 hb2 XB1 YB1 HB1 x0 x1 F0 F1 hAW QB hb4 hV1 hxw
  have x0 := XB2.out.cell 0
  have x1 := XB2.out.cell 1
  have x2 := XB2.out.cell 2
  have x3 := XB2.out.cell 3
  have x4 := XB2.out.cell 4
  have x5 := XB2.out.cell 5
  have x6 := XB2.out.cell 6
  have x7 := XB2.out.cell 7
  have x8 := XB2.out.cell 8
  have x9 := XB2.out.cell 9
  have y0 := YB2.out.cell 0
  have y1 := YB2.out.cell 1
  have y2 := YB2.out.cell 2
  simp only [List.getElem?_toArray, List.getElem?_cons_zero, List.getElem?_cons_succ] at x0 x1 x2 x3 x4 x5 x6 x7 x8 x9 y0 y1 y2
  go_wp2_with fail
  refine (HCALL.out _ (hMEM.out _ HB2.out)).mono ?_
  rintro r w3 ⟨rfl, hb3⟩
  have HB3 := Lib.hid (Below.two HB2.out hb3)
  have XB3 := Lib.hid (XB2.out.later hb3)
  have YB3 := Lib.hid (YB2.out.later hb3)
  clear hb3 XB2 YB2 HB2 x0 x1 x2 x3 x4 x5 x6 x7 x8 x9 y0 y1 y2
  have y0 := YB3.out.cell 0
  have y1 := YB3.out.cell 1
  have y2 := YB3.out.cell 2
  simp only [List.getElem?_toArray, List.getElem?_cons_zero, List.getElem?_cons_succ] at y0 y1 y2
  have f0 := YB3.out.frozen 0
  have f1 := YB3.out.frozen 1
  have f2 := YB3.out.frozen 2
  cases ok with
  | false =>
    go_wp2_with fail
    have RR9 : Blk (((w3.setCell ⟨w.heap.size + 1, 0, none⟩ .nilIface).setCell ⟨w.heap.size + 1, 1, none⟩ (.int .i64 0)).setCell ⟨w.heap.size + 1, 2, none⟩ (.int .i64 0)) (w.heap.size + 1) 93 #[.nilIface, .int .i64 0, .int .i64 0] := YB3.out.set3
    have HB9 : Hid (Below w.heap.size w (((w3.setCell ⟨w.heap.size + 1, 0, none⟩ .nilIface).setCell ⟨w.heap.size + 1, 1, none⟩ (.int .i64 0)).setCell ⟨w.heap.size + 1, 2, none⟩ (.int .i64 0))) := ((HB3.out.setCell (by simp) _).setCell (by simp) _).setCell (by simp) _
    have q0 := RR9.cell 0
    have q1 := RR9.cell 1
    have q2 := RR9.cell 2
    simp only [List.getElem?_toArray, List.getElem?_cons_zero, List.getElem?_cons_succ] at q0 q1 q2
    clear RR9
    generalize (((w3.setCell ⟨w.heap.size + 1, 0, none⟩ .nilIface).setCell ⟨w.heap.size + 1, 1, none⟩ (.int .i64 0)).setCell ⟨w.heap.size + 1, 2, none⟩ (.int .i64 0)) = W9 at *
    refine bodyPost_ret (v := .tuple #[.agg #[.nilIface, .int .i64 0, .int .i64 0], .iface 106 (.pointer (some ⟨w.heap.size + 1 + 1, 0, none⟩))]) (by simp [results, Tryz.results57, go_sem, q0, q1, q2]) rfl ?_
    exact ⟨_, _, _, _, rfl, .inl rfl, by rw [Bool.false_and]; exact ⟨_, rfl⟩, HB9.out⟩
  | true =>
    have x0 := XB3.out.cell 0
    have x1 := XB3.out.cell 1
    have x2 := XB3.out.cell 2
    have x3 := XB3.out.cell 3
    have x4 := XB3.out.cell 4
    have x5 := XB3.out.cell 5
    have x6 := XB3.out.cell 6
    have x7 := XB3.out.cell 7
    have x8 := XB3.out.cell 8
    have x9 := XB3.out.cell 9
    simp only [List.getElem?_toArray, List.getElem?_cons_zero, List.getElem?_cons_succ] at x0 x1 x2 x3 x4 x5 x6 x7 x8 x9
    go_wp2_with fail
    clear x0 x1 x2 x3 x4 x5 x6 x7 x8 x9 y0 y1 y2 f0 f1 f2
    have hb4 := below_al (below_0 w3) (.cells #[.iface T bv, .int .i64 3, .int .i64 level] 93)
    have WB := Lib.hid (Blk.new w3 93 #[.iface T bv, .int .i64 3, .int .i64 level])
    have HB4 := Lib.hid (Below.two HB3.out hb4)
    have XB4 := Lib.hid (XB3.out.later hb4)
    have YB4 := Lib.hid (YB3.out.later hb4)
    have hz3 := HB3.out.size
    have hzy := YB3.out.lt
    clear hb4 XB3 YB3 HB3
    generalize w3.heap.size = bx at *
    generalize w3.alloc (.cells #[.iface T bv, .int .i64 3, .int .i64 level] 93) = V4 at *
    have x0 := XB4.out.cell 0
    have x1 := XB4.out.cell 1
    have x2 := XB4.out.cell 2
    have x3 := XB4.out.cell 3
    have x4 := XB4.out.cell 4
    have x5 := XB4.out.cell 5
    have x6 := XB4.out.cell 6
    have x7 := XB4.out.cell 7
    have x8 := XB4.out.cell 8
    have x9 := XB4.out.cell 9
    simp only [List.getElem?_toArray, List.getElem?_cons_zero, List.getElem?_cons_succ] at x0 x1 x2 x3 x4 x5 x6 x7 x8 x9
    have v0 := WB.out.cell 0
    have v1 := WB.out.cell 1
    have v2 := WB.out.cell 2
    simp only [List.getElem?_toArray, List.getElem?_cons_zero, List.getElem?_cons_succ] at v0 v1 v2
    refine wp_region_held_drew (S := fun w9 => w9.cell? ⟨w.heap.size, 0, none⟩ = some (.int .i64 3) ∧ w9.cell? ⟨w.heap.size, 1, none⟩ = some (.int .i64 level) ∧ w9.cell? ⟨w.heap.size, 2, none⟩ = some (.slice ea e.length ec) ∧ w9.cell? ⟨w.heap.size, 3, none⟩ = some (.int .i64 bits) ∧ w9.cell? ⟨w.heap.size, 4, none⟩ = some (.string regs) ∧ w9.cell? ⟨w.heap.size, 5, none⟩ = some (.int .i64 rows) ∧ w9.cell? ⟨w.heap.size, 6, none⟩ = some (.int .i64 cols) ∧ w9.cell? ⟨w.heap.size, 7, none⟩ = some (.slice ca c.length cc) ∧ w9.cell? ⟨w.heap.size, 8, none⟩ = some (.int .i64 fine) ∧ w9.cell? ⟨w.heap.size, 9, none⟩ = some (.slice ga g.length gc) ∧ w9.cell? ⟨bx, 0, none⟩ = some (.iface T bv) ∧ w9.cell? ⟨bx, 1, none⟩ = some (.int .i64 3) ∧ w9.cell? ⟨bx, 2, none⟩ = some (.int .i64 level)) (by kernel_rfl) ⟨x0, x1, x2, x3, x4, x5, x6, x7, x8, x9, v0, v1, v2⟩ (fun hHeld => ?_)
    have WD := Lib.hid WB.out.drew
    have XD := Lib.hid XB4.out.drew
    have YD := Lib.hid YB4.out.drew
    have HD := Lib.hid HB4.out.drew
    clear XB4 YB4 HB4 WB x0 x1 x2 x3 x4 x5 x6 x7 x8 x9 v0 v1 v2
    generalize V4.drew = V5 at *
    refine wpAnyH_take (i := 0) (v := (.agg #[.int .i64 3, .int .i64 level, .slice ea e.length ec, .int .i64 bits, .string regs, .int .i64 rows, .int .i64 cols, .slice ca c.length cc, .int .i64 fine, .slice ga g.length gc])) rfl (by kernel_rfl) (by kernel_rfl) (by kernel_rfl) (fun _ _ _ h => h) (Or.inl ⟨by rfl, ?_⟩) hHeld ?_
    · (intro w9 hSw; (try dsimp only at hSw); obtain ⟨s0, s1, s2, s3, s4, s5, s6, s7, s8, s9, t0, t1, t2⟩ := hSw; go_simp)
    simp only [Act.put, List.setIfInBounds_toArray, List.set_cons_zero, List.set_cons_succ]
    refine wpAnyH_take (i := 1) (v := (.agg #[.iface T bv, .int .i64 3, .int .i64 level])) rfl (by kernel_rfl) (by kernel_rfl) (by kernel_rfl) (fun _ _ _ h => h) (Or.inl ⟨by rfl, ?_⟩) hHeld ?_
    · (intro w9 hSw; (try dsimp only at hSw); obtain ⟨s0, s1, s2, s3, s4, s5, s6, s7, s8, s9, t0, t1, t2⟩ := hSw; go_simp)
    simp only [Act.put, List.setIfInBounds_toArray, List.set_cons_zero, List.set_cons_succ]
    refine wpAnyH_ready (rs := [2]) (by kernel_rfl) (by simp) ?_
    refine AllReadyH.cons rfl (fun K0 hK => ?_) AllReadyH.nil
    go_simp
    refine (HSK.out V5 (hMEM.out _ HD.out)).mono ?_
    rintro r w6 ⟨mp, hmp, rfl, hok6, hb6⟩
    have HB6 := Lib.hid (Below.two HD.out hb6)
    have WB6 := Lib.hid (WD.out.later hb6)
    have XB6 := Lib.hid (XD.out.later hb6)
    have YB6 := Lib.hid (YD.out.later hb6)
    clear hb6 WD XD YD HD
    have x0 := XB6.out.cell 0
    have x1 := XB6.out.cell 1
    have x2 := XB6.out.cell 2
    have x3 := XB6.out.cell 3
    have x4 := XB6.out.cell 4
    have x5 := XB6.out.cell 5
    have x6 := XB6.out.cell 6
    have x7 := XB6.out.cell 7
    have x8 := XB6.out.cell 8
    have x9 := XB6.out.cell 9
    simp only [List.getElem?_toArray, List.getElem?_cons_zero, List.getElem?_cons_succ] at x0 x1 x2 x3 x4 x5 x6 x7 x8 x9
    have v0 := WB6.out.cell 0
    have v1 := WB6.out.cell 1
    have v2 := WB6.out.cell 2
    simp only [List.getElem?_toArray, List.getElem?_cons_zero, List.getElem?_cons_succ] at v0 v1 v2
    refine hK.out _ _ ⟨x0, x1, x2, x3, x4, x5, x6, x7, x8, x9, v0, v1, v2⟩ (fun hHeld => ?_)
    clear hK K0
    try simp only [Act.put, List.getElem_toArray, List.getElem_cons_succ, List.getElem_cons_zero, List.setIfInBounds_toArray, List.set_cons_zero, List.set_cons_succ]
    refine wpAnyH_ready (rs := [3]) (by kernel_rfl) (by simp) ?_
    refine AllReadyH.cons rfl (fun K0 hK => ?_) AllReadyH.nil
    go_simp
    refine (ksame_any ⟨⟨3, level, e, bits, regs, rows, cols, c, fine, g⟩, ea, ec, ca, cc, ga, gc⟩ mp w6 (hMEM.out _ HB6.out) hok6 HF.out (hmp ▸ HP.out)).mono ?_
    rintro r w7 ⟨rfl, hb7⟩
    rw [hmp]
    have HB7 := Lib.hid (Below.two HB6.out hb7)
    have WB7 := Lib.hid (WB6.out.later hb7)
    have XB7 := Lib.hid (XB6.out.later hb7)
    have YB7 := Lib.hid (YB6.out.later hb7)
    clear hb7 WB6 XB6 YB6 HB6 hok6 hmp x0 x1 x2 x3 x4 x5 x6 x7 x8 x9 v0 v1 v2
    have x0 := XB7.out.cell 0
    have x1 := XB7.out.cell 1
    have x2 := XB7.out.cell 2
    have x3 := XB7.out.cell 3
    have x4 := XB7.out.cell 4
    have x5 := XB7.out.cell 5
    have x6 := XB7.out.cell 6
    have x7 := XB7.out.cell 7
    have x8 := XB7.out.cell 8
    have x9 := XB7.out.cell 9
    simp only [List.getElem?_toArray, List.getElem?_cons_zero, List.getElem?_cons_succ] at x0 x1 x2 x3 x4 x5 x6 x7 x8 x9
    have v0 := WB7.out.cell 0
    have v1 := WB7.out.cell 1
    have v2 := WB7.out.cell 2
    simp only [List.getElem?_toArray, List.getElem?_cons_zero, List.getElem?_cons_succ] at v0 v1 v2
    refine hK.out _ _ ⟨x0, x1, x2, x3, x4, x5, x6, x7, x8, x9, v0, v1, v2⟩ (fun hHeld => ?_)
    clear hK K0
    try simp only [Act.put, List.getElem_toArray, List.getElem_cons_succ, List.getElem_cons_zero, List.setIfInBounds_toArray, List.set_cons_zero, List.set_cons_succ]
    refine wpAnyH_ready (rs := [4]) (by kernel_rfl) (by simp) ?_
    refine AllReadyH.cons rfl (fun K0 hK => ?_) AllReadyH.nil
    go_simp
    refine hK.out _ _ ⟨x0, x1, x2, x3, x4, x5, x6, x7, x8, x9, v0, v1, v2⟩ (fun hHeld => ?_)
    clear hK K0
    try simp only [Act.put, List.getElem_toArray, List.getElem_cons_succ, List.getElem_cons_zero, List.setIfInBounds_toArray, List.set_cons_zero, List.set_cons_succ]
    refine wpAnyH_done (by kernel_rfl) ?_ _
    clear hHeld x0 x1 x2 x3 x4 x5 x6 x7 x8 x9 HSK HCALL XB7
    rw [Bool.true_and]
    generalize decide ((⟨3, level, e, bits, regs, rows, cols, c, fine, g⟩ : Sk) = part) = b at *
    have y0 := YB7.out.cell 0
    have y1 := YB7.out.cell 1
    have y2 := YB7.out.cell 2
    simp only [List.getElem?_toArray, List.getElem?_cons_zero, List.getElem?_cons_succ] at y0 y1 y2
    have f0 := YB7.out.frozen 0
    have f1 := YB7.out.frozen 1
    have f2 := YB7.out.frozen 2
    cases b with
    | false =>
      go_wp2_with fail
      have RR9 : Blk (((w7.setCell ⟨w.heap.size + 1, 0, none⟩ .nilIface).setCell ⟨w.heap.size + 1, 1, none⟩ (.int .i64 0)).setCell ⟨w.heap.size + 1, 2, none⟩ (.int .i64 0)) (w.heap.size + 1) 93 #[.nilIface, .int .i64 0, .int .i64 0] := YB7.out.set3
      have HB9 : Hid (Below w.heap.size w (((w7.setCell ⟨w.heap.size + 1, 0, none⟩ .nilIface).setCell ⟨w.heap.size + 1, 1, none⟩ (.int .i64 0)).setCell ⟨w.heap.size + 1, 2, none⟩ (.int .i64 0))) := ((HB7.out.setCell (by simp) _).setCell (by simp) _).setCell (by simp) _
      have q0 := RR9.cell 0
      have q1 := RR9.cell 1
      have q2 := RR9.cell 2
      simp only [List.getElem?_toArray, List.getElem?_cons_zero, List.getElem?_cons_succ] at q0 q1 q2
      clear RR9
      generalize (((w7.setCell ⟨w.heap.size + 1, 0, none⟩ .nilIface).setCell ⟨w.heap.size + 1, 1, none⟩ (.int .i64 0)).setCell ⟨w.heap.size + 1, 2, none⟩ (.int .i64 0)) = W9 at *
      refine bodyPost_ret (v := .tuple #[.agg #[.nilIface, .int .i64 0, .int .i64 0], .iface 106 (.pointer (some ⟨w.heap.size + 1 + 1, 0, none⟩))]) (by simp [results, Tryz.results57, go_sem, q0, q1, q2]) rfl ?_
      exact ⟨_, _, _, _, rfl, .inl rfl, ⟨_, rfl⟩, HB9.out⟩
    | true =>
      go_wp2_with fail
      have RR9 : Blk (((w7.setCell ⟨w.heap.size + 1, 0, none⟩ (.iface T bv)).setCell ⟨w.heap.size + 1, 1, none⟩ (.int .i64 3)).setCell ⟨w.heap.size + 1, 2, none⟩ (.int .i64 level)) (w.heap.size + 1) 93 #[.iface T bv, .int .i64 3, .int .i64 level] := YB7.out.set3
      have HB9 : Hid (Below w.heap.size w (((w7.setCell ⟨w.heap.size + 1, 0, none⟩ (.iface T bv)).setCell ⟨w.heap.size + 1, 1, none⟩ (.int .i64 3)).setCell ⟨w.heap.size + 1, 2, none⟩ (.int .i64 level))) := ((HB7.out.setCell (by simp) _).setCell (by simp) _).setCell (by simp) _
      have q0 := RR9.cell 0
      have q1 := RR9.cell 1
      have q2 := RR9.cell 2
      simp only [List.getElem?_toArray, List.getElem?_cons_zero, List.getElem?_cons_succ] at q0 q1 q2
      clear RR9
      generalize (((w7.setCell ⟨w.heap.size + 1, 0, none⟩ (.iface T bv)).setCell ⟨w.heap.size + 1, 1, none⟩ (.int .i64 3)).setCell ⟨w.heap.size + 1, 2, none⟩ (.int .i64 level)) = W9 at *
      refine bodyPost_ret (v := .tuple #[.agg #[.iface T bv, .int .i64 3, .int .i64 level], .nilIface]) (by simp [results, Tryz.results57, go_sem, q0, q1, q2]) rfl ?_
      exact ⟨_, _, _, _, rfl, .inr ⟨_, _, rfl⟩, rfl, HB9.out⟩
end Go.Proofs.YtoffmclbnobllaaGreatDoor

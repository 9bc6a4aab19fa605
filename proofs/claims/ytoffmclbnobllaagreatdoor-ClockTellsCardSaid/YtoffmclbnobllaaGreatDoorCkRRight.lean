/-
  aviaryref10.Right.
-/
import Derived.Test.YtoffmclbnobllaaGreatDoorCkRSame
import Derived.Test.YtoffmclbnobllaaGreatDoorCkRightK
namespace Go.Proofs.YtoffmclbnobllaaGreatDoor
open Go.RowKit
set_option linter.unusedVariables false
set_option linter.unusedSimpArgs false
theorem rhright_any (b : Int) (s : ByteArray) (w : World) : Calls Tryz.prog 48 #[.agg #[.int .i64 b, .string s]] w fun e w' => e = .returned (.bool (Hl.rightF b (regsL s))) ∧ Below w.heap.size w w' := by
  have := Hl.rright_any b (regsL s) (bytes_regs s) w
  rwa [bs_regs] at this
set_option maxRecDepth 100000 in
set_option maxHeartbeats 8000000 in
theorem rr_neg (m : SkM) (hl0 : m.s.level < 0) (w : World) :
    Calls Tryz.prog 33 #[skV m] w fun r w' => r = .returned (.bool false) ∧ Below w.heap.size w w' := by
  obtain ⟨⟨kind, level, e, bits, regs, rows, cols, c, fine, g⟩, ea, ec, ca, cc, ga, gc⟩ := m
  simp only at hl0
  have XB : Hid (Blk (w.alloc (.cells #[.int .i64 kind, .int .i64 level, .slice ea e.length ec, .int .i64 bits, .string regs, .int .i64 rows, .int .i64 cols, .slice ca c.length cc, .int .i64 fine, .slice ga g.length gc] 48)) w.heap.size 48 #[.int .i64 kind, .int .i64 level, .slice ea e.length ec, .int .i64 bits, .string regs, .int .i64 rows, .int .i64 cols, .slice ca c.length cc, .int .i64 fine, .slice ga g.length gc]) := Blk.new w 48 #[.int .i64 kind, .int .i64 level, .slice ea e.length ec, .int .i64 bits, .string regs, .int .i64 rows, .int .i64 cols, .slice ca c.length cc, .int .i64 fine, .slice ga g.length gc]
  have HB : Hid (Below w.heap.size w (w.alloc (.cells #[.int .i64 kind, .int .i64 level, .slice ea e.length ec, .int .i64 bits, .string regs, .int .i64 rows, .int .i64 cols, .slice ca c.length cc, .int .i64 fine, .slice ga g.length gc] 48))) := below_al (below_0 w) _
  have hl2 : decide (level < 0) = true := decide_eq_true hl0
  have hbot : True := trivial
  go_enter Tryz.func33, Tryz.ntmps33
  unfold skV
  simp only
  go_wp2_with fail
  generalize (w.alloc (.cells #[.int .i64 kind, .int .i64 level, .slice ea e.length ec, .int .i64 bits, .string regs, .int .i64 rows, .int .i64 cols, .slice ca c.length cc, .int .i64 fine, .slice ga g.length gc] 48)) = V1 at *
  have x0 := XB.out.cell 0
  have x1 := XB.out.cell 1
  simp only [List.getElem?_toArray, List.getElem?_cons_zero, List.getElem?_cons_succ] at x0 x1
  haveI hAW := After.some V1
  have hxw := XB.out.lt
  have F0 := After.cell x0 hxw
  have F1 := After.cell x1 hxw
  have QB : Hid (∀ y : After V1, Calls Tryz.prog 46 #[.int .i64 kind] y.at_ fun r w' => r = .returned (.int .i64 (bottomF kind)) ∧ Below y.at_.heap.size y.at_ w') := fun y => (rbottom_any kind y.at_).mono fun _ _ ⟨h1, h2⟩ => ⟨h1, h2 ▸ below_0 _⟩
  refine wp_region_below (by kernel_rfl) (by kernel_rfl) ?_
  repeat (go_big_quiet_step (first | with_reducible exact after_calls (QB.out _)))
  refine wpQuiet_nil ?_
  rintro w2 ⟨y2, hy2⟩
  have hb2 : Below V1.heap.size V1 w2 := by rw [hy2]; exact y2.is
  have HB2 := Lib.hid (Below.two HB.out hb2)
  have XB2 := Lib.hid (XB.out.later hb2)
  clear hy2 y2 hb2 XB HB x0 x1 F0 F1 hAW QB hbot hxw
  go_wp2_with fail
  go_ret
  exact ⟨rfl, HB2.out⟩
set_option maxRecDepth 100000 in
set_option maxHeartbeats 8000000 in
theorem rr_big (m : SkM) (hl0 : 0 ≤ m.s.level) (hl1 : bottomF m.s.kind < m.s.level) (w : World) :
    Calls Tryz.prog 33 #[skV m] w fun r w' => r = .returned (.bool false) ∧ Below w.heap.size w w' := by
  obtain ⟨⟨kind, level, e, bits, regs, rows, cols, c, fine, g⟩, ea, ec, ca, cc, ga, gc⟩ := m
  simp only at hl0 hl1
  have XB : Hid (Blk (w.alloc (.cells #[.int .i64 kind, .int .i64 level, .slice ea e.length ec, .int .i64 bits, .string regs, .int .i64 rows, .int .i64 cols, .slice ca c.length cc, .int .i64 fine, .slice ga g.length gc] 48)) w.heap.size 48 #[.int .i64 kind, .int .i64 level, .slice ea e.length ec, .int .i64 bits, .string regs, .int .i64 rows, .int .i64 cols, .slice ca c.length cc, .int .i64 fine, .slice ga g.length gc]) := Blk.new w 48 #[.int .i64 kind, .int .i64 level, .slice ea e.length ec, .int .i64 bits, .string regs, .int .i64 rows, .int .i64 cols, .slice ca c.length cc, .int .i64 fine, .slice ga g.length gc]
  have HB : Hid (Below w.heap.size w (w.alloc (.cells #[.int .i64 kind, .int .i64 level, .slice ea e.length ec, .int .i64 bits, .string regs, .int .i64 rows, .int .i64 cols, .slice ca c.length cc, .int .i64 fine, .slice ga g.length gc] 48))) := below_al (below_0 w) _
  have hl2 : decide (level < 0) = false := decide_eq_false (by omega)
  have hl3 : decide (bottomF kind < level) = true := decide_eq_true hl1
  clear hl0 hl1
  generalize hbot : bottomF kind = bot at hl3
  go_enter Tryz.func33, Tryz.ntmps33
  unfold skV
  simp only
  go_wp2_with fail
  generalize (w.alloc (.cells #[.int .i64 kind, .int .i64 level, .slice ea e.length ec, .int .i64 bits, .string regs, .int .i64 rows, .int .i64 cols, .slice ca c.length cc, .int .i64 fine, .slice ga g.length gc] 48)) = V1 at *
  have x0 := XB.out.cell 0
  have x1 := XB.out.cell 1
  simp only [List.getElem?_toArray, List.getElem?_cons_zero, List.getElem?_cons_succ] at x0 x1
  haveI hAW := After.some V1
  have hxw := XB.out.lt
  have F0 := After.cell x0 hxw
  have F1 := After.cell x1 hxw
  have QB : Hid (∀ y : After V1, Calls Tryz.prog 46 #[.int .i64 kind] y.at_ fun r w' => r = .returned (.int .i64 (bottomF kind)) ∧ Below y.at_.heap.size y.at_ w') := fun y => (rbottom_any kind y.at_).mono fun _ _ ⟨h1, h2⟩ => ⟨h1, h2 ▸ below_0 _⟩
  rw [hbot] at QB
  refine wp_region_below (by kernel_rfl) (by kernel_rfl) ?_
  repeat (go_big_quiet_step (first | with_reducible exact after_calls (QB.out _)))
  refine wpQuiet_nil ?_
  rintro w2 ⟨y2, hy2⟩
  have hb2 : Below V1.heap.size V1 w2 := by rw [hy2]; exact y2.is
  have HB2 := Lib.hid (Below.two HB.out hb2)
  have XB2 := Lib.hid (XB.out.later hb2)
  clear hy2 y2 hb2 XB HB x0 x1 F0 F1 hAW QB hbot hxw
  go_wp2_with fail
  go_ret
  exact ⟨rfl, HB2.out⟩
set_option maxRecDepth 100000 in
set_option maxHeartbeats 8000000 in
theorem rr_e (m : SkM) (hk : m.s.kind = 1) (hl0 : m.s.level = 0) (w : World) (hm : SkOk w w.heap.size m) (hf : SkFit m.s) :
    Calls Tryz.prog 33 #[skV m] w fun r w' => r = .returned (.bool (Ex.rightB m.s.e && decide (m.s = { noSk m.s.kind m.s.level with e := m.s.e }))) ∧ Below w.heap.size w w' := by
  have HM := Lib.hid hm
  have HF := Lib.hid hf
  clear hm hf
  obtain ⟨⟨kind, level, e, bits, regs, rows, cols, c, fine, g⟩, ea, ec, ca, cc, ga, gc⟩ := m
  simp only at hk hl0 HF ⊢
  subst hk
  subst hl0
  have HQ : Hid (∀ w', Below w.heap.size w w' → SkOk w' w'.heap.size _) := fun w' h => HM.out.later h
  have QS : Hid (∀ w', Below w.heap.size w w' → Calls Tryz.prog 36 #[.agg #[.int .i64 1, .int .i64 0, .slice ea e.length ec, .int .i64 bits, .string regs, .int .i64 rows, .int .i64 cols, .slice ca c.length cc, .int .i64 fine, .slice ga g.length gc], .agg #[.int .i64 1, .int .i64 0, .slice ea e.length ec, .int .i64 0, .string ⟨#[]⟩, .int .i64 0, .int .i64 0, .slice none 0 0, .int .i64 0, .slice none 0 0]] w' fun r w'' => r = .returned (.bool (decide ((⟨1, 0, e, bits, regs, rows, cols, c, fine, g⟩ : Sk) = (⟨1, 0, e, 0, ⟨#[]⟩, 0, 0, [], 0, []⟩ : Sk)))) ∧ Below w'.heap.size w' w'') := fun w' h => by
    have h1 := HQ.out w' h
    exact rksame_any ⟨⟨1, 0, e, bits, regs, rows, cols, c, fine, g⟩, ea, ec, ca, cc, ga, gc⟩ ⟨(⟨1, 0, e, 0, ⟨#[]⟩, 0, 0, [], 0, []⟩ : Sk), ea, ec, none, 0, none, 0⟩ w' h1 ⟨h1.e, Rd.none_, Rd.none_⟩ HF.out (by have := fit_part HF.out; simpa [partK, noSk] using this)
  show Calls Tryz.prog 33 #[skV ⟨⟨1, 0, e, bits, regs, rows, cols, c, fine, g⟩, ea, ec, ca, cc, ga, gc⟩] w fun r w' => r = .returned (.bool (Ex.rightB e && decide ((⟨1, 0, e, bits, regs, rows, cols, c, fine, g⟩ : Sk) = (⟨1, 0, e, 0, ⟨#[]⟩, 0, 0, [], 0, []⟩ : Sk)))) ∧ Below w.heap.size w w'
  generalize decide ((⟨1, 0, e, bits, regs, rows, cols, c, fine, g⟩ : Sk) = (⟨1, 0, e, 0, ⟨#[]⟩, 0, 0, [], 0, []⟩ : Sk)) = dd at *
  clear HM
  have QP : Hid (∀ w', Below w.heap.size w w' → Calls Tryz.prog 47 #[.agg #[.slice ea e.length ec]] w' fun r w'' => r = .returned (.bool (Ex.rightB e)) ∧ Below w'.heap.size w' w'') := fun w' h =>
    (Ex.rright_any w' ec ea e (HQ.out w' h).e (by have := HF.out.e; simp only at this; omega)).mono fun _ _ ⟨q1, n, q2⟩ => ⟨q1, q2 ▸ below_drewN (below_al (below_0 _) _) n⟩
  clear HQ HF
  generalize Ex.rightB e = ok at *
  have XB : Hid (Blk (w.alloc (.cells #[.int .i64 1, .int .i64 0, .slice ea e.length ec, .int .i64 bits, .string regs, .int .i64 rows, .int .i64 cols, .slice ca c.length cc, .int .i64 fine, .slice ga g.length gc] 48)) w.heap.size 48 #[.int .i64 1, .int .i64 0, .slice ea e.length ec, .int .i64 bits, .string regs, .int .i64 rows, .int .i64 cols, .slice ca c.length cc, .int .i64 fine, .slice ga g.length gc]) := Blk.new w 48 #[.int .i64 1, .int .i64 0, .slice ea e.length ec, .int .i64 bits, .string regs, .int .i64 rows, .int .i64 cols, .slice ca c.length cc, .int .i64 fine, .slice ga g.length gc]
  have HB : Hid (Below w.heap.size w (w.alloc (.cells #[.int .i64 1, .int .i64 0, .slice ea e.length ec, .int .i64 bits, .string regs, .int .i64 rows, .int .i64 cols, .slice ca c.length cc, .int .i64 fine, .slice ga g.length gc] 48))) := below_al (below_0 w) _
  have hl2 : decide ((0 : Int) < 0) = false := decide_eq_false (by omega)
  have hl3 : decide ((4 : Int) < 0) = false := decide_eq_false (by omega)
  have hbot : bottomF 1 = 4 := by decide
  go_enter Tryz.func33, Tryz.ntmps33
  unfold skV
  simp only
  go_wp2_with fail
  generalize (w.alloc (.cells #[.int .i64 1, .int .i64 0, .slice ea e.length ec, .int .i64 bits, .string regs, .int .i64 rows, .int .i64 cols, .slice ca c.length cc, .int .i64 fine, .slice ga g.length gc] 48)) = V1 at *
  have x0 := XB.out.cell 0
  have x1 := XB.out.cell 1
  simp only [List.getElem?_toArray, List.getElem?_cons_zero, List.getElem?_cons_succ] at x0 x1
  haveI hAW := After.some V1
  have hxw := XB.out.lt
  have F0 := After.cell x0 hxw
  have F1 := After.cell x1 hxw
  have QB : Hid (∀ y : After V1, Calls Tryz.prog 46 #[.int .i64 1] y.at_ fun r w' => r = .returned (.int .i64 (bottomF 1)) ∧ Below y.at_.heap.size y.at_ w') := fun y => (rbottom_any 1 y.at_).mono fun _ _ ⟨h1, h2⟩ => ⟨h1, h2 ▸ below_0 _⟩
  rw [hbot] at QB
  refine wp_region_below (by kernel_rfl) (by kernel_rfl) ?_
  repeat (go_big_quiet_step (first | with_reducible exact after_calls (QB.out _)))
  refine wpQuiet_nil ?_
  rintro w2 ⟨y2, hy2⟩
  have hb2 : Below V1.heap.size V1 w2 := by rw [hy2]; exact y2.is
  have HB2 := Lib.hid (Below.two HB.out hb2)
  have XB2 := Lib.hid (XB.out.later hb2)
  clear hy2 y2 hb2 XB HB x0 x1 F0 F1 hAW QB hbot hxw
  have x0 := XB2.out.cell 0
  have x1 := XB2.out.cell 1
  have x2 := XB2.out.cell 2
  have x3 := XB2.out.cell 3
  have x4 := XB2.out.cell 4
  have x5 := XB2.out.cell 5
  have x6 := XB2.out.cell 6
  have x7 := XB2.out.cell 7
  have x8 := XB2.out.cell 8
  have x9 := XB2.out.cell 9
  simp only [List.getElem?_toArray, List.getElem?_cons_zero, List.getElem?_cons_succ] at x0 x1 x2 x3 x4 x5 x6 x7 x8 x9
  have hxw2 := XB2.out.lt
  go_wp2_with fail
  have YB : Hid (Blk (w2.alloc (.cells #[.int .i64 1, .int .i64 0, .slice ea e.length ec, .int .i64 0, .string ⟨#[]⟩, .int .i64 0, .int .i64 0, .slice none 0 0, .int .i64 0, .slice none 0 0] 48)) w2.heap.size 48 #[.int .i64 1, .int .i64 0, .slice ea e.length ec, .int .i64 0, .string ⟨#[]⟩, .int .i64 0, .int .i64 0, .slice none 0 0, .int .i64 0, .slice none 0 0]) := Blk.new w2 _ _
  have HB3 : Hid (Below w.heap.size w (w2.alloc (.cells #[.int .i64 1, .int .i64 0, .slice ea e.length ec, .int .i64 0, .string ⟨#[]⟩, .int .i64 0, .int .i64 0, .slice none 0 0, .int .i64 0, .slice none 0 0] 48))) := below_al HB2.out _
  have XB3 : Hid (Blk (w2.alloc (.cells #[.int .i64 1, .int .i64 0, .slice ea e.length ec, .int .i64 0, .string ⟨#[]⟩, .int .i64 0, .int .i64 0, .slice none 0 0, .int .i64 0, .slice none 0 0] 48)) w.heap.size 48 #[.int .i64 1, .int .i64 0, .slice ea e.length ec, .int .i64 bits, .string regs, .int .i64 rows, .int .i64 cols, .slice ca c.length cc, .int .i64 fine, .slice ga g.length gc]) := XB2.out.alloc _
  clear XB2 HB2 x0 x1 x2 x3 x4 x5 x6 x7 x8 x9
  generalize (w2.alloc (.cells #[.int .i64 1, .int .i64 0, .slice ea e.length ec, .int .i64 0, .string ⟨#[]⟩, .int .i64 0, .int .i64 0, .slice none 0 0, .int .i64 0, .slice none 0 0] 48)) = V3 at *
  generalize w2.heap.size = bx at *
  refine (QP.out _ HB3.out).mono ?_
  rintro r w4 ⟨rfl, hb4⟩
  have HB4 := Lib.hid (Below.two HB3.out hb4)
  have XB4 := Lib.hid (XB3.out.later hb4)
  have YB4 := Lib.hid (YB.out.later hb4)
  clear hb4 HB3 XB3 YB QP
  cases ok with
  | false =>
    go_wp2_with fail
    go_ret
    exact ⟨by simp, HB4.out⟩
  | true =>
    have x0 := XB4.out.cell 0
    have x1 := XB4.out.cell 1
    have x2 := XB4.out.cell 2
    have x3 := XB4.out.cell 3
    have x4 := XB4.out.cell 4
    have x5 := XB4.out.cell 5
    have x6 := XB4.out.cell 6
    have x7 := XB4.out.cell 7
    have x8 := XB4.out.cell 8
    have x9 := XB4.out.cell 9
    simp only [List.getElem?_toArray, List.getElem?_cons_zero, List.getElem?_cons_succ] at x0 x1 x2 x3 x4 x5 x6 x7 x8 x9
    have y0 := YB4.out.cell 0
    have y1 := YB4.out.cell 1
    have y2 := YB4.out.cell 2
    have y3 := YB4.out.cell 3
    have y4 := YB4.out.cell 4
    have y5 := YB4.out.cell 5
    have y6 := YB4.out.cell 6
    have y7 := YB4.out.cell 7
    have y8 := YB4.out.cell 8
    have y9 := YB4.out.cell 9
    simp only [List.getElem?_toArray, List.getElem?_cons_zero, List.getElem?_cons_succ] at y0 y1 y2 y3 y4 y5 y6 y7 y8 y9
    go_wp2_with fail
    refine (QS.out _ HB4.out).mono ?_
    rintro r w5 ⟨rfl, hb5⟩
    have HB5 := Lib.hid (Below.two HB4.out hb5)
    clear hb5 HB4 QS
    go_wp2_with fail
    go_ret
    exact ⟨by simp, HB5.out⟩
set_option maxRecDepth 100000 in
set_option maxHeartbeats 8000000 in
theorem rr_h (m : SkM) (hk : m.s.kind = 1) (hl0 : 1 ≤ m.s.level) (hl1 : m.s.level ≤ 4) (w : World) (hm : SkOk w w.heap.size m) (hf : SkFit m.s) :
    Calls Tryz.prog 33 #[skV m] w fun r w' => r = .returned (.bool ((Hl.rightF m.s.bits (regsL m.s.regs) && m.s.bits == 8 - m.s.level) && decide (m.s = { noSk m.s.kind m.s.level with bits := m.s.bits, regs := m.s.regs }))) ∧ Below w.heap.size w w' := by
  have HM := Lib.hid hm
  have HF := Lib.hid hf
  clear hm hf
  obtain ⟨⟨kind, level, e, bits, regs, rows, cols, c, fine, g⟩, ea, ec, ca, cc, ga, gc⟩ := m
  simp only at hk hl0 hl1 HF ⊢
  subst hk
  have hne : ¬ level = 0 := by omega
  have HQ : Hid (∀ w', Below w.heap.size w w' → SkOk w' w'.heap.size _) := fun w' h => HM.out.later h
  have QS : Hid (∀ w', Below w.heap.size w w' → Calls Tryz.prog 36 #[.agg #[.int .i64 1, .int .i64 level, .slice ea e.length ec, .int .i64 bits, .string regs, .int .i64 rows, .int .i64 cols, .slice ca c.length cc, .int .i64 fine, .slice ga g.length gc], .agg #[.int .i64 1, .int .i64 level, .slice none 0 0, .int .i64 bits, .string regs, .int .i64 0, .int .i64 0, .slice none 0 0, .int .i64 0, .slice none 0 0]] w' fun r w'' => r = .returned (.bool (decide ((⟨1, level, e, bits, regs, rows, cols, c, fine, g⟩ : Sk) = (⟨1, level, [], bits, regs, 0, 0, [], 0, []⟩ : Sk)))) ∧ Below w'.heap.size w' w'') := fun w' h => by
    have h1 := HQ.out w' h
    exact rksame_any ⟨⟨1, level, e, bits, regs, rows, cols, c, fine, g⟩, ea, ec, ca, cc, ga, gc⟩ ⟨(⟨1, level, [], bits, regs, 0, 0, [], 0, []⟩ : Sk), none, 0, none, 0, none, 0⟩ w' h1 ⟨Rd.none_, Rd.none_, Rd.none_⟩ HF.out (by have := fit_part HF.out; simpa [partK, noSk, hne] using this)
  show Calls Tryz.prog 33 #[skV ⟨⟨1, level, e, bits, regs, rows, cols, c, fine, g⟩, ea, ec, ca, cc, ga, gc⟩] w fun r w' => r = .returned (.bool ((Hl.rightF bits (regsL regs) && bits == 8 - level) && decide ((⟨1, level, e, bits, regs, rows, cols, c, fine, g⟩ : Sk) = (⟨1, level, [], bits, regs, 0, 0, [], 0, []⟩ : Sk)))) ∧ Below w.heap.size w w'
  generalize decide ((⟨1, level, e, bits, regs, rows, cols, c, fine, g⟩ : Sk) = (⟨1, level, [], bits, regs, 0, 0, [], 0, []⟩ : Sk)) = dd at *
  clear HM
  have QP : Hid (∀ w', Below w.heap.size w w' → Calls Tryz.prog 48 #[.agg #[.int .i64 bits, .string regs]] w' fun r w'' => r = .returned (.bool (Hl.rightF bits (regsL regs))) ∧ Below w'.heap.size w' w'') := fun w' h => rhright_any bits regs w'
  clear HQ HF
  generalize Hl.rightF bits (regsL regs) = ok at *
  have b0 : (level == 0) = false := by rw [beq_eq_false_iff_ne]; omega
  have XB : Hid (Blk (w.alloc (.cells #[.int .i64 1, .int .i64 level, .slice ea e.length ec, .int .i64 bits, .string regs, .int .i64 rows, .int .i64 cols, .slice ca c.length cc, .int .i64 fine, .slice ga g.length gc] 48)) w.heap.size 48 #[.int .i64 1, .int .i64 level, .slice ea e.length ec, .int .i64 bits, .string regs, .int .i64 rows, .int .i64 cols, .slice ca c.length cc, .int .i64 fine, .slice ga g.length gc]) := Blk.new w 48 #[.int .i64 1, .int .i64 level, .slice ea e.length ec, .int .i64 bits, .string regs, .int .i64 rows, .int .i64 cols, .slice ca c.length cc, .int .i64 fine, .slice ga g.length gc]
  have HB : Hid (Below w.heap.size w (w.alloc (.cells #[.int .i64 1, .int .i64 level, .slice ea e.length ec, .int .i64 bits, .string regs, .int .i64 rows, .int .i64 cols, .slice ca c.length cc, .int .i64 fine, .slice ga g.length gc] 48))) := below_al (below_0 w) _
  have hl2 : decide ((level : Int) < 0) = false := decide_eq_false (by omega)
  have hl3 : decide ((4 : Int) < level) = false := decide_eq_false (by omega)
  have hbot : bottomF 1 = 4 := by decide
  go_enter Tryz.func33, Tryz.ntmps33
  unfold skV
  simp only
  go_wp2_with fail
  generalize (w.alloc (.cells #[.int .i64 1, .int .i64 level, .slice ea e.length ec, .int .i64 bits, .string regs, .int .i64 rows, .int .i64 cols, .slice ca c.length cc, .int .i64 fine, .slice ga g.length gc] 48)) = V1 at *
  have x0 := XB.out.cell 0
  have x1 := XB.out.cell 1
  simp only [List.getElem?_toArray, List.getElem?_cons_zero, List.getElem?_cons_succ] at x0 x1
  haveI hAW := After.some V1
  have hxw := XB.out.lt
  have F0 := After.cell x0 hxw
  have F1 := After.cell x1 hxw
  have QB : Hid (∀ y : After V1, Calls Tryz.prog 46 #[.int .i64 1] y.at_ fun r w' => r = .returned (.int .i64 (bottomF 1)) ∧ Below y.at_.heap.size y.at_ w') := fun y => (rbottom_any 1 y.at_).mono fun _ _ ⟨h1, h2⟩ => ⟨h1, h2 ▸ below_0 _⟩
  rw [hbot] at QB
  refine wp_region_below (by kernel_rfl) (by kernel_rfl) ?_
  repeat (go_big_quiet_step (first | with_reducible exact after_calls (QB.out _)))
  refine wpQuiet_nil ?_
  rintro w2 ⟨y2, hy2⟩
  have hb2 : Below V1.heap.size V1 w2 := by rw [hy2]; exact y2.is
  have HB2 := Lib.hid (Below.two HB.out hb2)
  have XB2 := Lib.hid (XB.out.later hb2)
  clear hy2 y2 hb2 XB HB x0 x1 F0 F1 hAW QB hbot hxw
  have x0 := XB2.out.cell 0
  have x1 := XB2.out.cell 1
  have x2 := XB2.out.cell 2
  have x3 := XB2.out.cell 3
  have x4 := XB2.out.cell 4
  have x5 := XB2.out.cell 5
  have x6 := XB2.out.cell 6
  have x7 := XB2.out.cell 7
  have x8 := XB2.out.cell 8
  have x9 := XB2.out.cell 9
  simp only [List.getElem?_toArray, List.getElem?_cons_zero, List.getElem?_cons_succ] at x0 x1 x2 x3 x4 x5 x6 x7 x8 x9
  have hxw2 := XB2.out.lt
  go_wp2_with fail
  have YB : Hid (Blk (w2.alloc (.cells #[.int .i64 1, .int .i64 level, .slice none 0 0, .int .i64 bits, .string regs, .int .i64 0, .int .i64 0, .slice none 0 0, .int .i64 0, .slice none 0 0] 48)) w2.heap.size 48 #[.int .i64 1, .int .i64 level, .slice none 0 0, .int .i64 bits, .string regs, .int .i64 0, .int .i64 0, .slice none 0 0, .int .i64 0, .slice none 0 0]) := Blk.new w2 _ _
  have HB3 : Hid (Below w.heap.size w (w2.alloc (.cells #[.int .i64 1, .int .i64 level, .slice none 0 0, .int .i64 bits, .string regs, .int .i64 0, .int .i64 0, .slice none 0 0, .int .i64 0, .slice none 0 0] 48))) := below_al HB2.out _
  have XB3 : Hid (Blk (w2.alloc (.cells #[.int .i64 1, .int .i64 level, .slice none 0 0, .int .i64 bits, .string regs, .int .i64 0, .int .i64 0, .slice none 0 0, .int .i64 0, .slice none 0 0] 48)) w.heap.size 48 #[.int .i64 1, .int .i64 level, .slice ea e.length ec, .int .i64 bits, .string regs, .int .i64 rows, .int .i64 cols, .slice ca c.length cc, .int .i64 fine, .slice ga g.length gc]) := XB2.out.alloc _
  clear XB2 HB2 x0 x1 x2 x3 x4 x5 x6 x7 x8 x9
  generalize (w2.alloc (.cells #[.int .i64 1, .int .i64 level, .slice none 0 0, .int .i64 bits, .string regs, .int .i64 0, .int .i64 0, .slice none 0 0, .int .i64 0, .slice none 0 0] 48)) = V3 at *
  generalize w2.heap.size = bx at *
  refine (QP.out _ HB3.out).mono ?_
  rintro r w4 ⟨rfl, hb4⟩
  have HB4 := Lib.hid (Below.two HB3.out hb4)
  have XB4 := Lib.hid (XB3.out.later hb4)
  have YB4 := Lib.hid (YB.out.later hb4)
  clear hb4 HB3 XB3 YB QP
  cases ok with
  | false =>
    go_wp2_with fail
    go_ret
    exact ⟨by simp, HB4.out⟩
  | true =>
    have x0 := XB4.out.cell 0
    have x1 := XB4.out.cell 1
    have x2 := XB4.out.cell 2
    have x3 := XB4.out.cell 3
    have x4 := XB4.out.cell 4
    have x5 := XB4.out.cell 5
    have x6 := XB4.out.cell 6
    have x7 := XB4.out.cell 7
    have x8 := XB4.out.cell 8
    have x9 := XB4.out.cell 9
    simp only [List.getElem?_toArray, List.getElem?_cons_zero, List.getElem?_cons_succ] at x0 x1 x2 x3 x4 x5 x6 x7 x8 x9
    have hwr : IntKind.i64.wrap (8 - level) = 8 - level := IntWalk.i64_in _ (by omega)
    by_cases hq : bits = 8 - level
    · have bq : (bits == 8 - level) = true := by rw [beq_iff_eq]; exact hq
      clear hq x0 x1 x2 x3 x4 x5 x6 x7 x8 x9
      have x0 := XB4.out.cell 0
      have x1 := XB4.out.cell 1
      have x2 := XB4.out.cell 2
      have x3 := XB4.out.cell 3
      have x4 := XB4.out.cell 4
      have x5 := XB4.out.cell 5
      have x6 := XB4.out.cell 6
      have x7 := XB4.out.cell 7
      have x8 := XB4.out.cell 8
      have x9 := XB4.out.cell 9
      simp only [List.getElem?_toArray, List.getElem?_cons_zero, List.getElem?_cons_succ] at x0 x1 x2 x3 x4 x5 x6 x7 x8 x9
      have y0 := YB4.out.cell 0
      have y1 := YB4.out.cell 1
      have y2 := YB4.out.cell 2
      have y3 := YB4.out.cell 3
      have y4 := YB4.out.cell 4
      have y5 := YB4.out.cell 5
      have y6 := YB4.out.cell 6
      have y7 := YB4.out.cell 7
      have y8 := YB4.out.cell 8
      have y9 := YB4.out.cell 9
      simp only [List.getElem?_toArray, List.getElem?_cons_zero, List.getElem?_cons_succ] at y0 y1 y2 y3 y4 y5 y6 y7 y8 y9
      go_wp2_with fail
      refine (QS.out _ HB4.out).mono ?_
      rintro r w5 ⟨rfl, hb5⟩
      have HB5 := Lib.hid (Below.two HB4.out hb5)
      clear hb5 HB4 QS
      go_wp2_with fail
      go_ret
      exact ⟨by simp [bq], HB5.out⟩
    · have bq : (bits == 8 - level) = false := by rw [beq_eq_false_iff_ne]; exact hq
      clear hq
      go_wp2_with fail
      go_ret
      exact ⟨by simp [bq], HB4.out⟩
set_option maxRecDepth 100000 in
set_option maxHeartbeats 8000000 in
theorem rr_c0 (m : SkM) (hk : m.s.kind = 2) (hl0 : m.s.level = 0) (w : World) (hm : SkOk w w.heap.size m) (hf : SkFit m.s) :
    Calls Tryz.prog 33 #[skV m] w fun r w' => r = .returned (.bool ((Cm.rightC m.s.rows m.s.cols m.s.c.length && m.s.rows == 2 && m.s.cols == 32) && decide (m.s = { noSk m.s.kind m.s.level with rows := m.s.rows, cols := m.s.cols, c := m.s.c }))) ∧ Below w.heap.size w w' := by
  have HM := Lib.hid hm
  have HF := Lib.hid hf
  clear hm hf
  obtain ⟨⟨kind, level, e, bits, regs, rows, cols, c, fine, g⟩, ea, ec, ca, cc, ga, gc⟩ := m
  simp only at hk hl0 HF ⊢
  subst hk
  subst hl0
  have HQ : Hid (∀ w', Below w.heap.size w w' → SkOk w' w'.heap.size _) := fun w' h => HM.out.later h
  have QS : Hid (∀ w', Below w.heap.size w w' → Calls Tryz.prog 36 #[.agg #[.int .i64 2, .int .i64 0, .slice ea e.length ec, .int .i64 bits, .string regs, .int .i64 rows, .int .i64 cols, .slice ca c.length cc, .int .i64 fine, .slice ga g.length gc], .agg #[.int .i64 2, .int .i64 0, .slice none 0 0, .int .i64 0, .string ⟨#[]⟩, .int .i64 rows, .int .i64 cols, .slice ca c.length cc, .int .i64 0, .slice none 0 0]] w' fun r w'' => r = .returned (.bool (decide ((⟨2, 0, e, bits, regs, rows, cols, c, fine, g⟩ : Sk) = (⟨2, 0, [], 0, ⟨#[]⟩, rows, cols, c, 0, []⟩ : Sk)))) ∧ Below w'.heap.size w' w'') := fun w' h => by
    have h1 := HQ.out w' h
    exact rksame_any ⟨⟨2, 0, e, bits, regs, rows, cols, c, fine, g⟩, ea, ec, ca, cc, ga, gc⟩ ⟨(⟨2, 0, [], 0, ⟨#[]⟩, rows, cols, c, 0, []⟩ : Sk), none, 0, ca, cc, none, 0⟩ w' h1 ⟨Rd.none_, h1.c, Rd.none_⟩ HF.out (by have := fit_part HF.out; simpa [partK, noSk] using this)
  show Calls Tryz.prog 33 #[skV ⟨⟨2, 0, e, bits, regs, rows, cols, c, fine, g⟩, ea, ec, ca, cc, ga, gc⟩] w fun r w' => r = .returned (.bool ((Cm.rightC rows cols c.length && rows == 2 && cols == 32) && decide ((⟨2, 0, e, bits, regs, rows, cols, c, fine, g⟩ : Sk) = (⟨2, 0, [], 0, ⟨#[]⟩, rows, cols, c, 0, []⟩ : Sk)))) ∧ Below w.heap.size w w'
  generalize decide ((⟨2, 0, e, bits, regs, rows, cols, c, fine, g⟩ : Sk) = (⟨2, 0, [], 0, ⟨#[]⟩, rows, cols, c, 0, []⟩ : Sk)) = dd at *
  clear HM
  have QP : Hid (∀ w', Below w.heap.size w w' → Calls Tryz.prog 49 #[.agg #[.int .i64 rows, .int .i64 cols, .slice ca c.length cc]] w' fun r w'' => r = .returned (.bool (Cm.rightC rows cols c.length)) ∧ Below w'.heap.size w' w'') := fun w' h =>
    (Cm.rright_any rows cols ca c.length cc w').mono fun _ _ ⟨q1, q2⟩ => ⟨q1, q2 ▸ below_al (below_0 _) _⟩
  clear HQ HF
  generalize Cm.rightC rows cols c.length = ok at *
  have XB : Hid (Blk (w.alloc (.cells #[.int .i64 2, .int .i64 0, .slice ea e.length ec, .int .i64 bits, .string regs, .int .i64 rows, .int .i64 cols, .slice ca c.length cc, .int .i64 fine, .slice ga g.length gc] 48)) w.heap.size 48 #[.int .i64 2, .int .i64 0, .slice ea e.length ec, .int .i64 bits, .string regs, .int .i64 rows, .int .i64 cols, .slice ca c.length cc, .int .i64 fine, .slice ga g.length gc]) := Blk.new w 48 #[.int .i64 2, .int .i64 0, .slice ea e.length ec, .int .i64 bits, .string regs, .int .i64 rows, .int .i64 cols, .slice ca c.length cc, .int .i64 fine, .slice ga g.length gc]
  have HB : Hid (Below w.heap.size w (w.alloc (.cells #[.int .i64 2, .int .i64 0, .slice ea e.length ec, .int .i64 bits, .string regs, .int .i64 rows, .int .i64 cols, .slice ca c.length cc, .int .i64 fine, .slice ga g.length gc] 48))) := below_al (below_0 w) _
  have hl2 : decide ((0 : Int) < 0) = false := decide_eq_false (by omega)
  have hl3 : decide ((3 : Int) < 0) = false := decide_eq_false (by omega)
  have hbot : bottomF 2 = 3 := by decide
  go_enter Tryz.func33, Tryz.ntmps33
  unfold skV
  simp only
  go_wp2_with fail
  generalize (w.alloc (.cells #[.int .i64 2, .int .i64 0, .slice ea e.length ec, .int .i64 bits, .string regs, .int .i64 rows, .int .i64 cols, .slice ca c.length cc, .int .i64 fine, .slice ga g.length gc] 48)) = V1 at *
  have x0 := XB.out.cell 0
  have x1 := XB.out.cell 1
  simp only [List.getElem?_toArray, List.getElem?_cons_zero, List.getElem?_cons_succ] at x0 x1
  haveI hAW := After.some V1
  have hxw := XB.out.lt
  have F0 := After.cell x0 hxw
  have F1 := After.cell x1 hxw
  have QB : Hid (∀ y : After V1, Calls Tryz.prog 46 #[.int .i64 2] y.at_ fun r w' => r = .returned (.int .i64 (bottomF 2)) ∧ Below y.at_.heap.size y.at_ w') := fun y => (rbottom_any 2 y.at_).mono fun _ _ ⟨h1, h2⟩ => ⟨h1, h2 ▸ below_0 _⟩
  rw [hbot] at QB
  refine wp_region_below (by kernel_rfl) (by kernel_rfl) ?_
  repeat (go_big_quiet_step (first | with_reducible exact after_calls (QB.out _)))
  refine wpQuiet_nil ?_
  rintro w2 ⟨y2, hy2⟩
  have hb2 : Below V1.heap.size V1 w2 := by rw [hy2]; exact y2.is
  have HB2 := Lib.hid (Below.two HB.out hb2)
  have XB2 := Lib.hid (XB.out.later hb2)
  clear hy2 y2 hb2 XB HB x0 x1 F0 F1 hAW QB hbot hxw
  have x0 := XB2.out.cell 0
  have x1 := XB2.out.cell 1
  have x2 := XB2.out.cell 2
  have x3 := XB2.out.cell 3
  have x4 := XB2.out.cell 4
  have x5 := XB2.out.cell 5
  have x6 := XB2.out.cell 6
  have x7 := XB2.out.cell 7
  have x8 := XB2.out.cell 8
  have x9 := XB2.out.cell 9
  simp only [List.getElem?_toArray, List.getElem?_cons_zero, List.getElem?_cons_succ] at x0 x1 x2 x3 x4 x5 x6 x7 x8 x9
  have hxw2 := XB2.out.lt
  go_wp2_with fail
  have YB : Hid (Blk (w2.alloc (.cells #[.int .i64 2, .int .i64 0, .slice none 0 0, .int .i64 0, .string ⟨#[]⟩, .int .i64 rows, .int .i64 cols, .slice ca c.length cc, .int .i64 0, .slice none 0 0] 48)) w2.heap.size 48 #[.int .i64 2, .int .i64 0, .slice none 0 0, .int .i64 0, .string ⟨#[]⟩, .int .i64 rows, .int .i64 cols, .slice ca c.length cc, .int .i64 0, .slice none 0 0]) := Blk.new w2 _ _
  have HB3 : Hid (Below w.heap.size w (w2.alloc (.cells #[.int .i64 2, .int .i64 0, .slice none 0 0, .int .i64 0, .string ⟨#[]⟩, .int .i64 rows, .int .i64 cols, .slice ca c.length cc, .int .i64 0, .slice none 0 0] 48))) := below_al HB2.out _
  have XB3 : Hid (Blk (w2.alloc (.cells #[.int .i64 2, .int .i64 0, .slice none 0 0, .int .i64 0, .string ⟨#[]⟩, .int .i64 rows, .int .i64 cols, .slice ca c.length cc, .int .i64 0, .slice none 0 0] 48)) w.heap.size 48 #[.int .i64 2, .int .i64 0, .slice ea e.length ec, .int .i64 bits, .string regs, .int .i64 rows, .int .i64 cols, .slice ca c.length cc, .int .i64 fine, .slice ga g.length gc]) := XB2.out.alloc _
  clear XB2 HB2 x0 x1 x2 x3 x4 x5 x6 x7 x8 x9
  generalize (w2.alloc (.cells #[.int .i64 2, .int .i64 0, .slice none 0 0, .int .i64 0, .string ⟨#[]⟩, .int .i64 rows, .int .i64 cols, .slice ca c.length cc, .int .i64 0, .slice none 0 0] 48)) = V3 at *
  generalize w2.heap.size = bx at *
  have x0 := XB3.out.cell 0
  have x1 := XB3.out.cell 1
  have x2 := XB3.out.cell 2
  have x3 := XB3.out.cell 3
  have x4 := XB3.out.cell 4
  have x5 := XB3.out.cell 5
  have x6 := XB3.out.cell 6
  have x7 := XB3.out.cell 7
  have x8 := XB3.out.cell 8
  have x9 := XB3.out.cell 9
  simp only [List.getElem?_toArray, List.getElem?_cons_zero, List.getElem?_cons_succ] at x0 x1 x2 x3 x4 x5 x6 x7 x8 x9
  haveI hAW := After.some V3
  have hxw3 := XB3.out.lt
  have F0 := After.cell x0 hxw3
  have F1 := After.cell x1 hxw3
  have F2 := After.cell x2 hxw3
  have F3 := After.cell x3 hxw3
  have F4 := After.cell x4 hxw3
  have F5 := After.cell x5 hxw3
  have F6 := After.cell x6 hxw3
  have F7 := After.cell x7 hxw3
  have F8 := After.cell x8 hxw3
  have F9 := After.cell x9 hxw3
  have QC : Hid (∀ z : After V3, Calls Tryz.prog 49 #[.agg #[.int .i64 rows, .int .i64 cols, .slice ca c.length cc]] z.at_ fun r w' => r = .returned (.bool ok) ∧ Below z.at_.heap.size z.at_ w') := fun z => QP.out _ (Below.two HB3.out z.is)
  clear QP
  cases ok with
  | false =>
    go_wp2_with fail
    refine wp_region_below (by kernel_rfl) (by kernel_rfl) ?_
    repeat (go_big_quiet_step (first | with_reducible exact after_calls (QC.out _)))
    refine wpQuiet_nil ?_
    rintro w4 ⟨y4, hy4⟩
    have hb4 : Below V3.heap.size V3 w4 := by rw [hy4]; exact y4.is
    have HB4 := Lib.hid (Below.two HB3.out hb4)
    have XB4 := Lib.hid (XB3.out.later hb4)
    have YB4 := Lib.hid (YB.out.later hb4)
    clear hy4 y4 hb4 XB3 YB HB3 x0 x1 x2 x3 x4 x5 x6 x7 x8 x9 F0 F1 F2 F3 F4 F5 F6 F7 F8 F9 hAW QC hxw3
    go_wp2_with fail
    go_ret
    exact ⟨by simp, HB4.out⟩
  | true =>
    by_cases hr : rows = 2
    · have br : (rows == 2) = true := by rw [beq_iff_eq]; exact hr
      by_cases hc : cols = 32
      · have bc : (cols == 32) = true := by rw [beq_iff_eq]; exact hc
        clear hr hc
        go_wp2_with fail
        refine wp_region_below (by kernel_rfl) (by kernel_rfl) ?_
        repeat (go_big_quiet_step (first | with_reducible exact after_calls (QC.out _)))
        refine wpQuiet_nil ?_
        rintro w4 ⟨y4, hy4⟩
        have hb4 : Below V3.heap.size V3 w4 := by rw [hy4]; exact y4.is
        have HB4 := Lib.hid (Below.two HB3.out hb4)
        have XB4 := Lib.hid (XB3.out.later hb4)
        have YB4 := Lib.hid (YB.out.later hb4)
        clear hy4 y4 hb4 XB3 YB HB3 x0 x1 x2 x3 x4 x5 x6 x7 x8 x9 F0 F1 F2 F3 F4 F5 F6 F7 F8 F9 hAW QC hxw3
        have x0 := XB4.out.cell 0
        have x1 := XB4.out.cell 1
        have x2 := XB4.out.cell 2
        have x3 := XB4.out.cell 3
        have x4 := XB4.out.cell 4
        have x5 := XB4.out.cell 5
        have x6 := XB4.out.cell 6
        have x7 := XB4.out.cell 7
        have x8 := XB4.out.cell 8
        have x9 := XB4.out.cell 9
        simp only [List.getElem?_toArray, List.getElem?_cons_zero, List.getElem?_cons_succ] at x0 x1 x2 x3 x4 x5 x6 x7 x8 x9
        have y0 := YB4.out.cell 0
        have y1 := YB4.out.cell 1
        have y2 := YB4.out.cell 2
        have y3 := YB4.out.cell 3
        have y4 := YB4.out.cell 4
        have y5 := YB4.out.cell 5
        have y6 := YB4.out.cell 6
        have y7 := YB4.out.cell 7
        have y8 := YB4.out.cell 8
        have y9 := YB4.out.cell 9
        simp only [List.getElem?_toArray, List.getElem?_cons_zero, List.getElem?_cons_succ] at y0 y1 y2 y3 y4 y5 y6 y7 y8 y9
        go_wp2_with fail
        refine (QS.out _ HB4.out).mono ?_
        rintro r w5 ⟨rfl, hb5⟩
        have HB5 := Lib.hid (Below.two HB4.out hb5)
        clear hb5 HB4 QS
        go_wp2_with fail
        go_ret
        exact ⟨by simp [br, bc], HB5.out⟩
      · have bc : (cols == 32) = false := by rw [beq_eq_false_iff_ne]; exact hc
        clear hr hc
        go_wp2_with fail
        refine wp_region_below (by kernel_rfl) (by kernel_rfl) ?_
        repeat (go_big_quiet_step (first | with_reducible exact after_calls (QC.out _)))
        refine wpQuiet_nil ?_
        rintro w4 ⟨y4, hy4⟩
        have hb4 : Below V3.heap.size V3 w4 := by rw [hy4]; exact y4.is
        have HB4 := Lib.hid (Below.two HB3.out hb4)
        have XB4 := Lib.hid (XB3.out.later hb4)
        have YB4 := Lib.hid (YB.out.later hb4)
        clear hy4 y4 hb4 XB3 YB HB3 x0 x1 x2 x3 x4 x5 x6 x7 x8 x9 F0 F1 F2 F3 F4 F5 F6 F7 F8 F9 hAW QC hxw3
        go_wp2_with fail
        go_ret
        exact ⟨by simp [br, bc], HB4.out⟩
    · have br : (rows == 2) = false := by rw [beq_eq_false_iff_ne]; exact hr
      clear hr
      go_wp2_with fail
      refine wp_region_below (by kernel_rfl) (by kernel_rfl) ?_
      repeat (go_big_quiet_step (first | with_reducible exact after_calls (QC.out _)))
      refine wpQuiet_nil ?_
      rintro w4 ⟨y4, hy4⟩
      have hb4 : Below V3.heap.size V3 w4 := by rw [hy4]; exact y4.is
      have HB4 := Lib.hid (Below.two HB3.out hb4)
      have XB4 := Lib.hid (XB3.out.later hb4)
      have YB4 := Lib.hid (YB.out.later hb4)
      clear hy4 y4 hb4 XB3 YB HB3 x0 x1 x2 x3 x4 x5 x6 x7 x8 x9 F0 F1 F2 F3 F4 F5 F6 F7 F8 F9 hAW QC hxw3
      go_wp2_with fail
      go_ret
      exact ⟨by simp [br], HB4.out⟩
set_option maxRecDepth 100000 in
set_option maxHeartbeats 8000000 in
theorem rr_c1 (m : SkM) (hk : m.s.kind = 2) (hl0 : m.s.level = 1) (w : World) (hm : SkOk w w.heap.size m) (hf : SkFit m.s) :
    Calls Tryz.prog 33 #[skV m] w fun r w' => r = .returned (.bool ((Cm.rightC m.s.rows m.s.cols m.s.c.length && m.s.rows == 2 && m.s.cols == 16) && decide (m.s = { noSk m.s.kind m.s.level with rows := m.s.rows, cols := m.s.cols, c := m.s.c }))) ∧ Below w.heap.size w w' := by
  have HM := Lib.hid hm
  have HF := Lib.hid hf
  clear hm hf
  obtain ⟨⟨kind, level, e, bits, regs, rows, cols, c, fine, g⟩, ea, ec, ca, cc, ga, gc⟩ := m
  simp only at hk hl0 HF ⊢
  subst hk
  subst hl0
  have HQ : Hid (∀ w', Below w.heap.size w w' → SkOk w' w'.heap.size _) := fun w' h => HM.out.later h
  have QS : Hid (∀ w', Below w.heap.size w w' → Calls Tryz.prog 36 #[.agg #[.int .i64 2, .int .i64 1, .slice ea e.length ec, .int .i64 bits, .string regs, .int .i64 rows, .int .i64 cols, .slice ca c.length cc, .int .i64 fine, .slice ga g.length gc], .agg #[.int .i64 2, .int .i64 1, .slice none 0 0, .int .i64 0, .string ⟨#[]⟩, .int .i64 rows, .int .i64 cols, .slice ca c.length cc, .int .i64 0, .slice none 0 0]] w' fun r w'' => r = .returned (.bool (decide ((⟨2, 1, e, bits, regs, rows, cols, c, fine, g⟩ : Sk) = (⟨2, 1, [], 0, ⟨#[]⟩, rows, cols, c, 0, []⟩ : Sk)))) ∧ Below w'.heap.size w' w'') := fun w' h => by
    have h1 := HQ.out w' h
    exact rksame_any ⟨⟨2, 1, e, bits, regs, rows, cols, c, fine, g⟩, ea, ec, ca, cc, ga, gc⟩ ⟨(⟨2, 1, [], 0, ⟨#[]⟩, rows, cols, c, 0, []⟩ : Sk), none, 0, ca, cc, none, 0⟩ w' h1 ⟨Rd.none_, h1.c, Rd.none_⟩ HF.out (by have := fit_part HF.out; simpa [partK, noSk] using this)
  show Calls Tryz.prog 33 #[skV ⟨⟨2, 1, e, bits, regs, rows, cols, c, fine, g⟩, ea, ec, ca, cc, ga, gc⟩] w fun r w' => r = .returned (.bool ((Cm.rightC rows cols c.length && rows == 2 && cols == 16) && decide ((⟨2, 1, e, bits, regs, rows, cols, c, fine, g⟩ : Sk) = (⟨2, 1, [], 0, ⟨#[]⟩, rows, cols, c, 0, []⟩ : Sk)))) ∧ Below w.heap.size w w'
  generalize decide ((⟨2, 1, e, bits, regs, rows, cols, c, fine, g⟩ : Sk) = (⟨2, 1, [], 0, ⟨#[]⟩, rows, cols, c, 0, []⟩ : Sk)) = dd at *
  clear HM
  have QP : Hid (∀ w', Below w.heap.size w w' → Calls Tryz.prog 49 #[.agg #[.int .i64 rows, .int .i64 cols, .slice ca c.length cc]] w' fun r w'' => r = .returned (.bool (Cm.rightC rows cols c.length)) ∧ Below w'.heap.size w' w'') := fun w' h =>
    (Cm.rright_any rows cols ca c.length cc w').mono fun _ _ ⟨q1, q2⟩ => ⟨q1, q2 ▸ below_al (below_0 _) _⟩
  clear HQ HF
  generalize Cm.rightC rows cols c.length = ok at *
  have XB : Hid (Blk (w.alloc (.cells #[.int .i64 2, .int .i64 1, .slice ea e.length ec, .int .i64 bits, .string regs, .int .i64 rows, .int .i64 cols, .slice ca c.length cc, .int .i64 fine, .slice ga g.length gc] 48)) w.heap.size 48 #[.int .i64 2, .int .i64 1, .slice ea e.length ec, .int .i64 bits, .string regs, .int .i64 rows, .int .i64 cols, .slice ca c.length cc, .int .i64 fine, .slice ga g.length gc]) := Blk.new w 48 #[.int .i64 2, .int .i64 1, .slice ea e.length ec, .int .i64 bits, .string regs, .int .i64 rows, .int .i64 cols, .slice ca c.length cc, .int .i64 fine, .slice ga g.length gc]
  have HB : Hid (Below w.heap.size w (w.alloc (.cells #[.int .i64 2, .int .i64 1, .slice ea e.length ec, .int .i64 bits, .string regs, .int .i64 rows, .int .i64 cols, .slice ca c.length cc, .int .i64 fine, .slice ga g.length gc] 48))) := below_al (below_0 w) _
  have hl2 : decide ((1 : Int) < 0) = false := decide_eq_false (by omega)
  have hl3 : decide ((3 : Int) < 1) = false := decide_eq_false (by omega)
  have hbot : bottomF 2 = 3 := by decide
  go_enter Tryz.func33, Tryz.ntmps33
  unfold skV
  simp only
  go_wp2_with fail
  generalize (w.alloc (.cells #[.int .i64 2, .int .i64 1, .slice ea e.length ec, .int .i64 bits, .string regs, .int .i64 rows, .int .i64 cols, .slice ca c.length cc, .int .i64 fine, .slice ga g.length gc] 48)) = V1 at *
  have x0 := XB.out.cell 0
  have x1 := XB.out.cell 1
  simp only [List.getElem?_toArray, List.getElem?_cons_zero, List.getElem?_cons_succ] at x0 x1
  haveI hAW := After.some V1
  have hxw := XB.out.lt
  have F0 := After.cell x0 hxw
  have F1 := After.cell x1 hxw
  have QB : Hid (∀ y : After V1, Calls Tryz.prog 46 #[.int .i64 2] y.at_ fun r w' => r = .returned (.int .i64 (bottomF 2)) ∧ Below y.at_.heap.size y.at_ w') := fun y => (rbottom_any 2 y.at_).mono fun _ _ ⟨h1, h2⟩ => ⟨h1, h2 ▸ below_0 _⟩
  rw [hbot] at QB
  refine wp_region_below (by kernel_rfl) (by kernel_rfl) ?_
  repeat (go_big_quiet_step (first | with_reducible exact after_calls (QB.out _)))
  refine wpQuiet_nil ?_
  rintro w2 ⟨y2, hy2⟩
  have hb2 : Below V1.heap.size V1 w2 := by rw [hy2]; exact y2.is
  have HB2 := Lib.hid (Below.two HB.out hb2)
  have XB2 := Lib.hid (XB.out.later hb2)
  clear hy2 y2 hb2 XB HB x0 x1 F0 F1 hAW QB hbot hxw
  have x0 := XB2.out.cell 0
  have x1 := XB2.out.cell 1
  have x2 := XB2.out.cell 2
  have x3 := XB2.out.cell 3
  have x4 := XB2.out.cell 4
  have x5 := XB2.out.cell 5
  have x6 := XB2.out.cell 6
  have x7 := XB2.out.cell 7
  have x8 := XB2.out.cell 8
  have x9 := XB2.out.cell 9
  simp only [List.getElem?_toArray, List.getElem?_cons_zero, List.getElem?_cons_succ] at x0 x1 x2 x3 x4 x5 x6 x7 x8 x9
  have hxw2 := XB2.out.lt
  go_wp2_with fail
  have YB : Hid (Blk (w2.alloc (.cells #[.int .i64 2, .int .i64 1, .slice none 0 0, .int .i64 0, .string ⟨#[]⟩, .int .i64 rows, .int .i64 cols, .slice ca c.length cc, .int .i64 0, .slice none 0 0] 48)) w2.heap.size 48 #[.int .i64 2, .int .i64 1, .slice none 0 0, .int .i64 0, .string ⟨#[]⟩, .int .i64 rows, .int .i64 cols, .slice ca c.length cc, .int .i64 0, .slice none 0 0]) := Blk.new w2 _ _
  have HB3 : Hid (Below w.heap.size w (w2.alloc (.cells #[.int .i64 2, .int .i64 1, .slice none 0 0, .int .i64 0, .string ⟨#[]⟩, .int .i64 rows, .int .i64 cols, .slice ca c.length cc, .int .i64 0, .slice none 0 0] 48))) := below_al HB2.out _
  have XB3 : Hid (Blk (w2.alloc (.cells #[.int .i64 2, .int .i64 1, .slice none 0 0, .int .i64 0, .string ⟨#[]⟩, .int .i64 rows, .int .i64 cols, .slice ca c.length cc, .int .i64 0, .slice none 0 0] 48)) w.heap.size 48 #[.int .i64 2, .int .i64 1, .slice ea e.length ec, .int .i64 bits, .string regs, .int .i64 rows, .int .i64 cols, .slice ca c.length cc, .int .i64 fine, .slice ga g.length gc]) := XB2.out.alloc _
  clear XB2 HB2 x0 x1 x2 x3 x4 x5 x6 x7 x8 x9
  generalize (w2.alloc (.cells #[.int .i64 2, .int .i64 1, .slice none 0 0, .int .i64 0, .string ⟨#[]⟩, .int .i64 rows, .int .i64 cols, .slice ca c.length cc, .int .i64 0, .slice none 0 0] 48)) = V3 at *
  generalize w2.heap.size = bx at *
  have x0 := XB3.out.cell 0
  have x1 := XB3.out.cell 1
  have x2 := XB3.out.cell 2
  have x3 := XB3.out.cell 3
  have x4 := XB3.out.cell 4
  have x5 := XB3.out.cell 5
  have x6 := XB3.out.cell 6
  have x7 := XB3.out.cell 7
  have x8 := XB3.out.cell 8
  have x9 := XB3.out.cell 9
  simp only [List.getElem?_toArray, List.getElem?_cons_zero, List.getElem?_cons_succ] at x0 x1 x2 x3 x4 x5 x6 x7 x8 x9
  haveI hAW := After.some V3
  have hxw3 := XB3.out.lt
  have F0 := After.cell x0 hxw3
  have F1 := After.cell x1 hxw3
  have F2 := After.cell x2 hxw3
  have F3 := After.cell x3 hxw3
  have F4 := After.cell x4 hxw3
  have F5 := After.cell x5 hxw3
  have F6 := After.cell x6 hxw3
  have F7 := After.cell x7 hxw3
  have F8 := After.cell x8 hxw3
  have F9 := After.cell x9 hxw3
  have QC : Hid (∀ z : After V3, Calls Tryz.prog 49 #[.agg #[.int .i64 rows, .int .i64 cols, .slice ca c.length cc]] z.at_ fun r w' => r = .returned (.bool ok) ∧ Below z.at_.heap.size z.at_ w') := fun z => QP.out _ (Below.two HB3.out z.is)
  clear QP
  cases ok with
  | false =>
    go_wp2_with fail
    refine wp_region_below (by kernel_rfl) (by kernel_rfl) ?_
    repeat (go_big_quiet_step (first | with_reducible exact after_calls (QC.out _)))
    refine wpQuiet_nil ?_
    rintro w4 ⟨y4, hy4⟩
    have hb4 : Below V3.heap.size V3 w4 := by rw [hy4]; exact y4.is
    have HB4 := Lib.hid (Below.two HB3.out hb4)
    have XB4 := Lib.hid (XB3.out.later hb4)
    have YB4 := Lib.hid (YB.out.later hb4)
    clear hy4 y4 hb4 XB3 YB HB3 x0 x1 x2 x3 x4 x5 x6 x7 x8 x9 F0 F1 F2 F3 F4 F5 F6 F7 F8 F9 hAW QC hxw3
    go_wp2_with fail
    go_ret
    exact ⟨by simp, HB4.out⟩
  | true =>
    by_cases hr : rows = 2
    · have br : (rows == 2) = true := by rw [beq_iff_eq]; exact hr
      by_cases hc : cols = 16
      · have bc : (cols == 16) = true := by rw [beq_iff_eq]; exact hc
        clear hr hc
        go_wp2_with fail
        refine wp_region_below (by kernel_rfl) (by kernel_rfl) ?_
        repeat (go_big_quiet_step (first | with_reducible exact after_calls (QC.out _)))
        refine wpQuiet_nil ?_
        rintro w4 ⟨y4, hy4⟩
        have hb4 : Below V3.heap.size V3 w4 := by rw [hy4]; exact y4.is
        have HB4 := Lib.hid (Below.two HB3.out hb4)
        have XB4 := Lib.hid (XB3.out.later hb4)
        have YB4 := Lib.hid (YB.out.later hb4)
        clear hy4 y4 hb4 XB3 YB HB3 x0 x1 x2 x3 x4 x5 x6 x7 x8 x9 F0 F1 F2 F3 F4 F5 F6 F7 F8 F9 hAW QC hxw3
        have x0 := XB4.out.cell 0
        have x1 := XB4.out.cell 1
        have x2 := XB4.out.cell 2
        have x3 := XB4.out.cell 3
        have x4 := XB4.out.cell 4
        have x5 := XB4.out.cell 5
        have x6 := XB4.out.cell 6
        have x7 := XB4.out.cell 7
        have x8 := XB4.out.cell 8
        have x9 := XB4.out.cell 9
        simp only [List.getElem?_toArray, List.getElem?_cons_zero, List.getElem?_cons_succ] at x0 x1 x2 x3 x4 x5 x6 x7 x8 x9
        have y0 := YB4.out.cell 0
        have y1 := YB4.out.cell 1
        have y2 := YB4.out.cell 2
        have y3 := YB4.out.cell 3
        have y4 := YB4.out.cell 4
        have y5 := YB4.out.cell 5
        have y6 := YB4.out.cell 6
        have y7 := YB4.out.cell 7
        have y8 := YB4.out.cell 8
        have y9 := YB4.out.cell 9
        simp only [List.getElem?_toArray, List.getElem?_cons_zero, List.getElem?_cons_succ] at y0 y1 y2 y3 y4 y5 y6 y7 y8 y9
        go_wp2_with fail
        refine (QS.out _ HB4.out).mono ?_
        rintro r w5 ⟨rfl, hb5⟩
        have HB5 := Lib.hid (Below.two HB4.out hb5)
        clear hb5 HB4 QS
        go_wp2_with fail
        go_ret
        exact ⟨by simp [br, bc], HB5.out⟩
      · have bc : (cols == 16) = false := by rw [beq_eq_false_iff_ne]; exact hc
        clear hr hc
        go_wp2_with fail
        refine wp_region_below (by kernel_rfl) (by kernel_rfl) ?_
        repeat (go_big_quiet_step (first | with_reducible exact after_calls (QC.out _)))
        refine wpQuiet_nil ?_
        rintro w4 ⟨y4, hy4⟩
        have hb4 : Below V3.heap.size V3 w4 := by rw [hy4]; exact y4.is
        have HB4 := Lib.hid (Below.two HB3.out hb4)
        have XB4 := Lib.hid (XB3.out.later hb4)
        have YB4 := Lib.hid (YB.out.later hb4)
        clear hy4 y4 hb4 XB3 YB HB3 x0 x1 x2 x3 x4 x5 x6 x7 x8 x9 F0 F1 F2 F3 F4 F5 F6 F7 F8 F9 hAW QC hxw3
        go_wp2_with fail
        go_ret
        exact ⟨by simp [br, bc], HB4.out⟩
    · have br : (rows == 2) = false := by rw [beq_eq_false_iff_ne]; exact hr
      clear hr
      go_wp2_with fail
      refine wp_region_below (by kernel_rfl) (by kernel_rfl) ?_
      repeat (go_big_quiet_step (first | with_reducible exact after_calls (QC.out _)))
      refine wpQuiet_nil ?_
      rintro w4 ⟨y4, hy4⟩
      have hb4 : Below V3.heap.size V3 w4 := by rw [hy4]; exact y4.is
      have HB4 := Lib.hid (Below.two HB3.out hb4)
      have XB4 := Lib.hid (XB3.out.later hb4)
      have YB4 := Lib.hid (YB.out.later hb4)
      clear hy4 y4 hb4 XB3 YB HB3 x0 x1 x2 x3 x4 x5 x6 x7 x8 x9 F0 F1 F2 F3 F4 F5 F6 F7 F8 F9 hAW QC hxw3
      go_wp2_with fail
      go_ret
      exact ⟨by simp [br], HB4.out⟩
set_option maxRecDepth 100000 in
set_option maxHeartbeats 8000000 in
theorem rr_c2 (m : SkM) (hk : m.s.kind = 2) (hl0 : m.s.level = 2) (w : World) (hm : SkOk w w.heap.size m) (hf : SkFit m.s) :
    Calls Tryz.prog 33 #[skV m] w fun r w' => r = .returned (.bool ((Cm.rightC m.s.rows m.s.cols m.s.c.length && m.s.rows == 2 && m.s.cols == 8) && decide (m.s = { noSk m.s.kind m.s.level with rows := m.s.rows, cols := m.s.cols, c := m.s.c }))) ∧ Below w.heap.size w w' := by
  have HM := Lib.hid hm
  have HF := Lib.hid hf
  clear hm hf
  obtain ⟨⟨kind, level, e, bits, regs, rows, cols, c, fine, g⟩, ea, ec, ca, cc, ga, gc⟩ := m
  simp only at hk hl0 HF ⊢
  subst hk
  subst hl0
  have HQ : Hid (∀ w', Below w.heap.size w w' → SkOk w' w'.heap.size _) := fun w' h => HM.out.later h
  have QS : Hid (∀ w', Below w.heap.size w w' → Calls Tryz.prog 36 #[.agg #[.int .i64 2, .int .i64 2, .slice ea e.length ec, .int .i64 bits, .string regs, .int .i64 rows, .int .i64 cols, .slice ca c.length cc, .int .i64 fine, .slice ga g.length gc], .agg #[.int .i64 2, .int .i64 2, .slice none 0 0, .int .i64 0, .string ⟨#[]⟩, .int .i64 rows, .int .i64 cols, .slice ca c.length cc, .int .i64 0, .slice none 0 0]] w' fun r w'' => r = .returned (.bool (decide ((⟨2, 2, e, bits, regs, rows, cols, c, fine, g⟩ : Sk) = (⟨2, 2, [], 0, ⟨#[]⟩, rows, cols, c, 0, []⟩ : Sk)))) ∧ Below w'.heap.size w' w'') := fun w' h => by
    have h1 := HQ.out w' h
    exact rksame_any ⟨⟨2, 2, e, bits, regs, rows, cols, c, fine, g⟩, ea, ec, ca, cc, ga, gc⟩ ⟨(⟨2, 2, [], 0, ⟨#[]⟩, rows, cols, c, 0, []⟩ : Sk), none, 0, ca, cc, none, 0⟩ w' h1 ⟨Rd.none_, h1.c, Rd.none_⟩ HF.out (by have := fit_part HF.out; simpa [partK, noSk] using this)
  show Calls Tryz.prog 33 #[skV ⟨⟨2, 2, e, bits, regs, rows, cols, c, fine, g⟩, ea, ec, ca, cc, ga, gc⟩] w fun r w' => r = .returned (.bool ((Cm.rightC rows cols c.length && rows == 2 && cols == 8) && decide ((⟨2, 2, e, bits, regs, rows, cols, c, fine, g⟩ : Sk) = (⟨2, 2, [], 0, ⟨#[]⟩, rows, cols, c, 0, []⟩ : Sk)))) ∧ Below w.heap.size w w'
  generalize decide ((⟨2, 2, e, bits, regs, rows, cols, c, fine, g⟩ : Sk) = (⟨2, 2, [], 0, ⟨#[]⟩, rows, cols, c, 0, []⟩ : Sk)) = dd at *
  clear HM
  have QP : Hid (∀ w', Below w.heap.size w w' → Calls Tryz.prog 49 #[.agg #[.int .i64 rows, .int .i64 cols, .slice ca c.length cc]] w' fun r w'' => r = .returned (.bool (Cm.rightC rows cols c.length)) ∧ Below w'.heap.size w' w'') := fun w' h =>
    (Cm.rright_any rows cols ca c.length cc w').mono fun _ _ ⟨q1, q2⟩ => ⟨q1, q2 ▸ below_al (below_0 _) _⟩
  clear HQ HF
  generalize Cm.rightC rows cols c.length = ok at *
  have XB : Hid (Blk (w.alloc (.cells #[.int .i64 2, .int .i64 2, .slice ea e.length ec, .int .i64 bits, .string regs, .int .i64 rows, .int .i64 cols, .slice ca c.length cc, .int .i64 fine, .slice ga g.length gc] 48)) w.heap.size 48 #[.int .i64 2, .int .i64 2, .slice ea e.length ec, .int .i64 bits, .string regs, .int .i64 rows, .int .i64 cols, .slice ca c.length cc, .int .i64 fine, .slice ga g.length gc]) := Blk.new w 48 #[.int .i64 2, .int .i64 2, .slice ea e.length ec, .int .i64 bits, .string regs, .int .i64 rows, .int .i64 cols, .slice ca c.length cc, .int .i64 fine, .slice ga g.length gc]
  have HB : Hid (Below w.heap.size w (w.alloc (.cells #[.int .i64 2, .int .i64 2, .slice ea e.length ec, .int .i64 bits, .string regs, .int .i64 rows, .int .i64 cols, .slice ca c.length cc, .int .i64 fine, .slice ga g.length gc] 48))) := below_al (below_0 w) _
  have hl2 : decide ((2 : Int) < 0) = false := decide_eq_false (by omega)
  have hl3 : decide ((3 : Int) < 2) = false := decide_eq_false (by omega)
  have hbot : bottomF 2 = 3 := by decide
  go_enter Tryz.func33, Tryz.ntmps33
  unfold skV
  simp only
  go_wp2_with fail
  generalize (w.alloc (.cells #[.int .i64 2, .int .i64 2, .slice ea e.length ec, .int .i64 bits, .string regs, .int .i64 rows, .int .i64 cols, .slice ca c.length cc, .int .i64 fine, .slice ga g.length gc] 48)) = V1 at *
  have x0 := XB.out.cell 0
  have x1 := XB.out.cell 1
  simp only [List.getElem?_toArray, List.getElem?_cons_zero, List.getElem?_cons_succ] at x0 x1
  haveI hAW := After.some V1
  have hxw := XB.out.lt
  have F0 := After.cell x0 hxw
  have F1 := After.cell x1 hxw
  have QB : Hid (∀ y : After V1, Calls Tryz.prog 46 #[.int .i64 2] y.at_ fun r w' => r = .returned (.int .i64 (bottomF 2)) ∧ Below y.at_.heap.size y.at_ w') := fun y => (rbottom_any 2 y.at_).mono fun _ _ ⟨h1, h2⟩ => ⟨h1, h2 ▸ below_0 _⟩
  rw [hbot] at QB
  refine wp_region_below (by kernel_rfl) (by kernel_rfl) ?_
  repeat (go_big_quiet_step (first | with_reducible exact after_calls (QB.out _)))
  refine wpQuiet_nil ?_
  rintro w2 ⟨y2, hy2⟩
  have hb2 : Below V1.heap.size V1 w2 := by rw [hy2]; exact y2.is
  have HB2 := Lib.hid (Below.two HB.out hb2)
  have XB2 := Lib.hid (XB.out.later hb2)
  clear hy2 y2 hb2 XB HB x0 x1 F0 F1 hAW QB hbot hxw
  have x0 := XB2.out.cell 0
  have x1 := XB2.out.cell 1
  have x2 := XB2.out.cell 2
  have x3 := XB2.out.cell 3
  have x4 := XB2.out.cell 4
  have x5 := XB2.out.cell 5
  have x6 := XB2.out.cell 6
  have x7 := XB2.out.cell 7
  have x8 := XB2.out.cell 8
  have x9 := XB2.out.cell 9
  simp only [List.getElem?_toArray, List.getElem?_cons_zero, List.getElem?_cons_succ] at x0 x1 x2 x3 x4 x5 x6 x7 x8 x9
  have hxw2 := XB2.out.lt
  go_wp2_with fail
  have YB : Hid (Blk (w2.alloc (.cells #[.int .i64 2, .int .i64 2, .slice none 0 0, .int .i64 0, .string ⟨#[]⟩, .int .i64 rows, .int .i64 cols, .slice ca c.length cc, .int .i64 0, .slice none 0 0] 48)) w2.heap.size 48 #[.int .i64 2, .int .i64 2, .slice none 0 0, .int .i64 0, .string ⟨#[]⟩, .int .i64 rows, .int .i64 cols, .slice ca c.length cc, .int .i64 0, .slice none 0 0]) := Blk.new w2 _ _
  have HB3 : Hid (Below w.heap.size w (w2.alloc (.cells #[.int .i64 2, .int .i64 2, .slice none 0 0, .int .i64 0, .string ⟨#[]⟩, .int .i64 rows, .int .i64 cols, .slice ca c.length cc, .int .i64 0, .slice none 0 0] 48))) := below_al HB2.out _
  have XB3 : Hid (Blk (w2.alloc (.cells #[.int .i64 2, .int .i64 2, .slice none 0 0, .int .i64 0, .string ⟨#[]⟩, .int .i64 rows, .int .i64 cols, .slice ca c.length cc, .int .i64 0, .slice none 0 0] 48)) w.heap.size 48 #[.int .i64 2, .int .i64 2, .slice ea e.length ec, .int .i64 bits, .string regs, .int .i64 rows, .int .i64 cols, .slice ca c.length cc, .int .i64 fine, .slice ga g.length gc]) := XB2.out.alloc _
  clear XB2 HB2 x0 x1 x2 x3 x4 x5 x6 x7 x8 x9
  generalize (w2.alloc (.cells #[.int .i64 2, .int .i64 2, .slice none 0 0, .int .i64 0, .string ⟨#[]⟩, .int .i64 rows, .int .i64 cols, .slice ca c.length cc, .int .i64 0, .slice none 0 0] 48)) = V3 at *
  generalize w2.heap.size = bx at *
  have x0 := XB3.out.cell 0
  have x1 := XB3.out.cell 1
  have x2 := XB3.out.cell 2
  have x3 := XB3.out.cell 3
  have x4 := XB3.out.cell 4
  have x5 := XB3.out.cell 5
  have x6 := XB3.out.cell 6
  have x7 := XB3.out.cell 7
  have x8 := XB3.out.cell 8
  have x9 := XB3.out.cell 9
  simp only [List.getElem?_toArray, List.getElem?_cons_zero, List.getElem?_cons_succ] at x0 x1 x2 x3 x4 x5 x6 x7 x8 x9
  haveI hAW := After.some V3
  have hxw3 := XB3.out.lt
  have F0 := After.cell x0 hxw3
  have F1 := After.cell x1 hxw3
  have F2 := After.cell x2 hxw3
  have F3 := After.cell x3 hxw3
  have F4 := After.cell x4 hxw3
  have F5 := After.cell x5 hxw3
  have F6 := After.cell x6 hxw3
  have F7 := After.cell x7 hxw3
  have F8 := After.cell x8 hxw3
  have F9 := After.cell x9 hxw3
  have QC : Hid (∀ z : After V3, Calls Tryz.prog 49 #[.agg #[.int .i64 rows, .int .i64 cols, .slice ca c.length cc]] z.at_ fun r w' => r = .returned (.bool ok) ∧ Below z.at_.heap.size z.at_ w') := fun z => QP.out _ (Below.two HB3.out z.is)
  clear QP
  cases ok with
  | false =>
    go_wp2_with fail
    refine wp_region_below (by kernel_rfl) (by kernel_rfl) ?_
    repeat (go_big_quiet_step (first | with_reducible exact after_calls (QC.out _)))
    refine wpQuiet_nil ?_
    rintro w4 ⟨y4, hy4⟩
    have hb4 : Below V3.heap.size V3 w4 := by rw [hy4]; exact y4.is
    have HB4 := Lib.hid (Below.two HB3.out hb4)
    have XB4 := Lib.hid (XB3.out.later hb4)
    have YB4 := Lib.hid (YB.out.later hb4)
    clear hy4 y4 hb4 XB3 YB HB3 x0 x1 x2 x3 x4 x5 x6 x7 x8 x9 F0 F1 F2 F3 F4 F5 F6 F7 F8 F9 hAW QC hxw3
    go_wp2_with fail
    go_ret
    exact ⟨by simp, HB4.out⟩
  | true =>
    by_cases hr : rows = 2
    · have br : (rows == 2) = true := by rw [beq_iff_eq]; exact hr
      by_cases hc : cols = 8
      · have bc : (cols == 8) = true := by rw [beq_iff_eq]; exact hc
        clear hr hc
        go_wp2_with fail
        refine wp_region_below (by kernel_rfl) (by kernel_rfl) ?_
        repeat (go_big_quiet_step (first | with_reducible exact after_calls (QC.out _)))
        refine wpQuiet_nil ?_
        rintro w4 ⟨y4, hy4⟩
        have hb4 : Below V3.heap.size V3 w4 := by rw [hy4]; exact y4.is
        have HB4 := Lib.hid (Below.two HB3.out hb4)
        have XB4 := Lib.hid (XB3.out.later hb4)
        have YB4 := Lib.hid (YB.out.later hb4)
        clear hy4 y4 hb4 XB3 YB HB3 x0 x1 x2 x3 x4 x5 x6 x7 x8 x9 F0 F1 F2 F3 F4 F5 F6 F7 F8 F9 hAW QC hxw3
        have x0 := XB4.out.cell 0
        have x1 := XB4.out.cell 1
        have x2 := XB4.out.cell 2
        have x3 := XB4.out.cell 3
        have x4 := XB4.out.cell 4
        have x5 := XB4.out.cell 5
        have x6 := XB4.out.cell 6
        have x7 := XB4.out.cell 7
        have x8 := XB4.out.cell 8
        have x9 := XB4.out.cell 9
        simp only [List.getElem?_toArray, List.getElem?_cons_zero, List.getElem?_cons_succ] at x0 x1 x2 x3 x4 x5 x6 x7 x8 x9
        have y0 := YB4.out.cell 0
        have y1 := YB4.out.cell 1
        have y2 := YB4.out.cell 2
        have y3 := YB4.out.cell 3
        have y4 := YB4.out.cell 4
        have y5 := YB4.out.cell 5
        have y6 := YB4.out.cell 6
        have y7 := YB4.out.cell 7
        have y8 := YB4.out.cell 8
        have y9 := YB4.out.cell 9
        simp only [List.getElem?_toArray, List.getElem?_cons_zero, List.getElem?_cons_succ] at y0 y1 y2 y3 y4 y5 y6 y7 y8 y9
        go_wp2_with fail
        refine (QS.out _ HB4.out).mono ?_
        rintro r w5 ⟨rfl, hb5⟩
        have HB5 := Lib.hid (Below.two HB4.out hb5)
        clear hb5 HB4 QS
        go_wp2_with fail
        go_ret
        exact ⟨by simp [br, bc], HB5.out⟩
      · have bc : (cols == 8) = false := by rw [beq_eq_false_iff_ne]; exact hc
        clear hr hc
        go_wp2_with fail
        refine wp_region_below (by kernel_rfl) (by kernel_rfl) ?_
        repeat (go_big_quiet_step (first | with_reducible exact after_calls (QC.out _)))
        refine wpQuiet_nil ?_
        rintro w4 ⟨y4, hy4⟩
        have hb4 : Below V3.heap.size V3 w4 := by rw [hy4]; exact y4.is
        have HB4 := Lib.hid (Below.two HB3.out hb4)
        have XB4 := Lib.hid (XB3.out.later hb4)
        have YB4 := Lib.hid (YB.out.later hb4)
        clear hy4 y4 hb4 XB3 YB HB3 x0 x1 x2 x3 x4 x5 x6 x7 x8 x9 F0 F1 F2 F3 F4 F5 F6 F7 F8 F9 hAW QC hxw3
        go_wp2_with fail
        go_ret
        exact ⟨by simp [br, bc], HB4.out⟩
    · have br : (rows == 2) = false := by rw [beq_eq_false_iff_ne]; exact hr
      clear hr
      go_wp2_with fail
      refine wp_region_below (by kernel_rfl) (by kernel_rfl) ?_
      repeat (go_big_quiet_step (first | with_reducible exact after_calls (QC.out _)))
      refine wpQuiet_nil ?_
      rintro w4 ⟨y4, hy4⟩
      have hb4 : Below V3.heap.size V3 w4 := by rw [hy4]; exact y4.is
      have HB4 := Lib.hid (Below.two HB3.out hb4)
      have XB4 := Lib.hid (XB3.out.later hb4)
      have YB4 := Lib.hid (YB.out.later hb4)
      clear hy4 y4 hb4 XB3 YB HB3 x0 x1 x2 x3 x4 x5 x6 x7 x8 x9 F0 F1 F2 F3 F4 F5 F6 F7 F8 F9 hAW QC hxw3
      go_wp2_with fail
      go_ret
      exact ⟨by simp [br], HB4.out⟩
set_option maxRecDepth 100000 in
set_option maxHeartbeats 8000000 in
theorem rr_c3 (m : SkM) (hk : m.s.kind = 2) (hl0 : m.s.level = 3) (w : World) (hm : SkOk w w.heap.size m) (hf : SkFit m.s) :
    Calls Tryz.prog 33 #[skV m] w fun r w' => r = .returned (.bool ((Cm.rightC m.s.rows m.s.cols m.s.c.length && m.s.rows == 2 && m.s.cols == 4) && decide (m.s = { noSk m.s.kind m.s.level with rows := m.s.rows, cols := m.s.cols, c := m.s.c }))) ∧ Below w.heap.size w w' := by
  have HM := Lib.hid hm
  have HF := Lib.hid hf
  clear hm hf
  obtain ⟨⟨kind, level, e, bits, regs, rows, cols, c, fine, g⟩, ea, ec, ca, cc, ga, gc⟩ := m
  simp only at hk hl0 HF ⊢
  subst hk
  subst hl0
  have HQ : Hid (∀ w', Below w.heap.size w w' → SkOk w' w'.heap.size _) := fun w' h => HM.out.later h
  have QS : Hid (∀ w', Below w.heap.size w w' → Calls Tryz.prog 36 #[.agg #[.int .i64 2, .int .i64 3, .slice ea e.length ec, .int .i64 bits, .string regs, .int .i64 rows, .int .i64 cols, .slice ca c.length cc, .int .i64 fine, .slice ga g.length gc], .agg #[.int .i64 2, .int .i64 3, .slice none 0 0, .int .i64 0, .string ⟨#[]⟩, .int .i64 rows, .int .i64 cols, .slice ca c.length cc, .int .i64 0, .slice none 0 0]] w' fun r w'' => r = .returned (.bool (decide ((⟨2, 3, e, bits, regs, rows, cols, c, fine, g⟩ : Sk) = (⟨2, 3, [], 0, ⟨#[]⟩, rows, cols, c, 0, []⟩ : Sk)))) ∧ Below w'.heap.size w' w'') := fun w' h => by
    have h1 := HQ.out w' h
    exact rksame_any ⟨⟨2, 3, e, bits, regs, rows, cols, c, fine, g⟩, ea, ec, ca, cc, ga, gc⟩ ⟨(⟨2, 3, [], 0, ⟨#[]⟩, rows, cols, c, 0, []⟩ : Sk), none, 0, ca, cc, none, 0⟩ w' h1 ⟨Rd.none_, h1.c, Rd.none_⟩ HF.out (by have := fit_part HF.out; simpa [partK, noSk] using this)
  show Calls Tryz.prog 33 #[skV ⟨⟨2, 3, e, bits, regs, rows, cols, c, fine, g⟩, ea, ec, ca, cc, ga, gc⟩] w fun r w' => r = .returned (.bool ((Cm.rightC rows cols c.length && rows == 2 && cols == 4) && decide ((⟨2, 3, e, bits, regs, rows, cols, c, fine, g⟩ : Sk) = (⟨2, 3, [], 0, ⟨#[]⟩, rows, cols, c, 0, []⟩ : Sk)))) ∧ Below w.heap.size w w'
  generalize decide ((⟨2, 3, e, bits, regs, rows, cols, c, fine, g⟩ : Sk) = (⟨2, 3, [], 0, ⟨#[]⟩, rows, cols, c, 0, []⟩ : Sk)) = dd at *
  clear HM
  have QP : Hid (∀ w', Below w.heap.size w w' → Calls Tryz.prog 49 #[.agg #[.int .i64 rows, .int .i64 cols, .slice ca c.length cc]] w' fun r w'' => r = .returned (.bool (Cm.rightC rows cols c.length)) ∧ Below w'.heap.size w' w'') := fun w' h =>
    (Cm.rright_any rows cols ca c.length cc w').mono fun _ _ ⟨q1, q2⟩ => ⟨q1, q2 ▸ below_al (below_0 _) _⟩
  clear HQ HF
  generalize Cm.rightC rows cols c.length = ok at *
  have XB : Hid (Blk (w.alloc (.cells #[.int .i64 2, .int .i64 3, .slice ea e.length ec, .int .i64 bits, .string regs, .int .i64 rows, .int .i64 cols, .slice ca c.length cc, .int .i64 fine, .slice ga g.length gc] 48)) w.heap.size 48 #[.int .i64 2, .int .i64 3, .slice ea e.length ec, .int .i64 bits, .string regs, .int .i64 rows, .int .i64 cols, .slice ca c.length cc, .int .i64 fine, .slice ga g.length gc]) := Blk.new w 48 #[.int .i64 2, .int .i64 3, .slice ea e.length ec, .int .i64 bits, .string regs, .int .i64 rows, .int .i64 cols, .slice ca c.length cc, .int .i64 fine, .slice ga g.length gc]
  have HB : Hid (Below w.heap.size w (w.alloc (.cells #[.int .i64 2, .int .i64 3, .slice ea e.length ec, .int .i64 bits, .string regs, .int .i64 rows, .int .i64 cols, .slice ca c.length cc, .int .i64 fine, .slice ga g.length gc] 48))) := below_al (below_0 w) _
  have hl2 : decide ((3 : Int) < 0) = false := decide_eq_false (by omega)
  have hl3 : decide ((3 : Int) < 3) = false := decide_eq_false (by omega)
  have hbot : bottomF 2 = 3 := by decide
  go_enter Tryz.func33, Tryz.ntmps33
  unfold skV
  simp only
  go_wp2_with fail
  generalize (w.alloc (.cells #[.int .i64 2, .int .i64 3, .slice ea e.length ec, .int .i64 bits, .string regs, .int .i64 rows, .int .i64 cols, .slice ca c.length cc, .int .i64 fine, .slice ga g.length gc] 48)) = V1 at *
  have x0 := XB.out.cell 0
  have x1 := XB.out.cell 1
  simp only [List.getElem?_toArray, List.getElem?_cons_zero, List.getElem?_cons_succ] at x0 x1
  haveI hAW := After.some V1
  have hxw := XB.out.lt
  have F0 := After.cell x0 hxw
  have F1 := After.cell x1 hxw
  have QB : Hid (∀ y : After V1, Calls Tryz.prog 46 #[.int .i64 2] y.at_ fun r w' => r = .returned (.int .i64 (bottomF 2)) ∧ Below y.at_.heap.size y.at_ w') := fun y => (rbottom_any 2 y.at_).mono fun _ _ ⟨h1, h2⟩ => ⟨h1, h2 ▸ below_0 _⟩
  rw [hbot] at QB
  refine wp_region_below (by kernel_rfl) (by kernel_rfl) ?_
  repeat (go_big_quiet_step (first | with_reducible exact after_calls (QB.out _)))
  refine wpQuiet_nil ?_
  rintro w2 ⟨y2, hy2⟩
  have hb2 : Below V1.heap.size V1 w2 := by rw [hy2]; exact y2.is
  have HB2 := Lib.hid (Below.two HB.out hb2)
  have XB2 := Lib.hid (XB.out.later hb2)
  clear hy2 y2 hb2 XB HB x0 x1 F0 F1 hAW QB hbot hxw
  have x0 := XB2.out.cell 0
  have x1 := XB2.out.cell 1
  have x2 := XB2.out.cell 2
  have x3 := XB2.out.cell 3
  have x4 := XB2.out.cell 4
  have x5 := XB2.out.cell 5
  have x6 := XB2.out.cell 6
  have x7 := XB2.out.cell 7
  have x8 := XB2.out.cell 8
  have x9 := XB2.out.cell 9
  simp only [List.getElem?_toArray, List.getElem?_cons_zero, List.getElem?_cons_succ] at x0 x1 x2 x3 x4 x5 x6 x7 x8 x9
  have hxw2 := XB2.out.lt
  go_wp2_with fail
  have YB : Hid (Blk (w2.alloc (.cells #[.int .i64 2, .int .i64 3, .slice none 0 0, .int .i64 0, .string ⟨#[]⟩, .int .i64 rows, .int .i64 cols, .slice ca c.length cc, .int .i64 0, .slice none 0 0] 48)) w2.heap.size 48 #[.int .i64 2, .int .i64 3, .slice none 0 0, .int .i64 0, .string ⟨#[]⟩, .int .i64 rows, .int .i64 cols, .slice ca c.length cc, .int .i64 0, .slice none 0 0]) := Blk.new w2 _ _
  have HB3 : Hid (Below w.heap.size w (w2.alloc (.cells #[.int .i64 2, .int .i64 3, .slice none 0 0, .int .i64 0, .string ⟨#[]⟩, .int .i64 rows, .int .i64 cols, .slice ca c.length cc, .int .i64 0, .slice none 0 0] 48))) := below_al HB2.out _
  have XB3 : Hid (Blk (w2.alloc (.cells #[.int .i64 2, .int .i64 3, .slice none 0 0, .int .i64 0, .string ⟨#[]⟩, .int .i64 rows, .int .i64 cols, .slice ca c.length cc, .int .i64 0, .slice none 0 0] 48)) w.heap.size 48 #[.int .i64 2, .int .i64 3, .slice ea e.length ec, .int .i64 bits, .string regs, .int .i64 rows, .int .i64 cols, .slice ca c.length cc, .int .i64 fine, .slice ga g.length gc]) := XB2.out.alloc _
  clear XB2 HB2 x0 x1 x2 x3 x4 x5 x6 x7 x8 x9
  generalize (w2.alloc (.cells #[.int .i64 2, .int .i64 3, .slice none 0 0, .int .i64 0, .string ⟨#[]⟩, .int .i64 rows, .int .i64 cols, .slice ca c.length cc, .int .i64 0, .slice none 0 0] 48)) = V3 at *
  generalize w2.heap.size = bx at *
  have x0 := XB3.out.cell 0
  have x1 := XB3.out.cell 1
  have x2 := XB3.out.cell 2
  have x3 := XB3.out.cell 3
  have x4 := XB3.out.cell 4
  have x5 := XB3.out.cell 5
  have x6 := XB3.out.cell 6
  have x7 := XB3.out.cell 7
  have x8 := XB3.out.cell 8
  have x9 := XB3.out.cell 9
  simp only [List.getElem?_toArray, List.getElem?_cons_zero, List.getElem?_cons_succ] at x0 x1 x2 x3 x4 x5 x6 x7 x8 x9
  haveI hAW := After.some V3
  have hxw3 := XB3.out.lt
  have F0 := After.cell x0 hxw3
  have F1 := After.cell x1 hxw3
  have F2 := After.cell x2 hxw3
  have F3 := After.cell x3 hxw3
  have F4 := After.cell x4 hxw3
  have F5 := After.cell x5 hxw3
  have F6 := After.cell x6 hxw3
  have F7 := After.cell x7 hxw3
  have F8 := After.cell x8 hxw3
  have F9 := After.cell x9 hxw3
  have QC : Hid (∀ z : After V3, Calls Tryz.prog 49 #[.agg #[.int .i64 rows, .int .i64 cols, .slice ca c.length cc]] z.at_ fun r w' => r = .returned (.bool ok) ∧ Below z.at_.heap.size z.at_ w') := fun z => QP.out _ (Below.two HB3.out z.is)
  clear QP
  cases ok with
  | false =>
    go_wp2_with fail
    refine wp_region_below (by kernel_rfl) (by kernel_rfl) ?_
    repeat (go_big_quiet_step (first | with_reducible exact after_calls (QC.out _)))
    refine wpQuiet_nil ?_
    rintro w4 ⟨y4, hy4⟩
    have hb4 : Below V3.heap.size V3 w4 := by rw [hy4]; exact y4.is
    have HB4 := Lib.hid (Below.two HB3.out hb4)
    have XB4 := Lib.hid (XB3.out.later hb4)
    have YB4 := Lib.hid (YB.out.later hb4)
    clear hy4 y4 hb4 XB3 YB HB3 x0 x1 x2 x3 x4 x5 x6 x7 x8 x9 F0 F1 F2 F3 F4 F5 F6 F7 F8 F9 hAW QC hxw3
    go_wp2_with fail
    go_ret
    exact ⟨by simp, HB4.out⟩
  | true =>
    by_cases hr : rows = 2
    · have br : (rows == 2) = true := by rw [beq_iff_eq]; exact hr
      by_cases hc : cols = 4
      · have bc : (cols == 4) = true := by rw [beq_iff_eq]; exact hc
        clear hr hc
        go_wp2_with fail
        refine wp_region_below (by kernel_rfl) (by kernel_rfl) ?_
        repeat (go_big_quiet_step (first | with_reducible exact after_calls (QC.out _)))
        refine wpQuiet_nil ?_
        rintro w4 ⟨y4, hy4⟩
        have hb4 : Below V3.heap.size V3 w4 := by rw [hy4]; exact y4.is
        have HB4 := Lib.hid (Below.two HB3.out hb4)
        have XB4 := Lib.hid (XB3.out.later hb4)
        have YB4 := Lib.hid (YB.out.later hb4)
        clear hy4 y4 hb4 XB3 YB HB3 x0 x1 x2 x3 x4 x5 x6 x7 x8 x9 F0 F1 F2 F3 F4 F5 F6 F7 F8 F9 hAW QC hxw3
        have x0 := XB4.out.cell 0
        have x1 := XB4.out.cell 1
        have x2 := XB4.out.cell 2
        have x3 := XB4.out.cell 3
        have x4 := XB4.out.cell 4
        have x5 := XB4.out.cell 5
        have x6 := XB4.out.cell 6
        have x7 := XB4.out.cell 7
        have x8 := XB4.out.cell 8
        have x9 := XB4.out.cell 9
        simp only [List.getElem?_toArray, List.getElem?_cons_zero, List.getElem?_cons_succ] at x0 x1 x2 x3 x4 x5 x6 x7 x8 x9
        have y0 := YB4.out.cell 0
        have y1 := YB4.out.cell 1
        have y2 := YB4.out.cell 2
        have y3 := YB4.out.cell 3
        have y4 := YB4.out.cell 4
        have y5 := YB4.out.cell 5
        have y6 := YB4.out.cell 6
        have y7 := YB4.out.cell 7
        have y8 := YB4.out.cell 8
        have y9 := YB4.out.cell 9
        simp only [List.getElem?_toArray, List.getElem?_cons_zero, List.getElem?_cons_succ] at y0 y1 y2 y3 y4 y5 y6 y7 y8 y9
        go_wp2_with fail
        refine (QS.out _ HB4.out).mono ?_
        rintro r w5 ⟨rfl, hb5⟩
        have HB5 := Lib.hid (Below.two HB4.out hb5)
        clear hb5 HB4 QS
        go_wp2_with fail
        go_ret
        exact ⟨by simp [br, bc], HB5.out⟩
      · have bc : (cols == 4) = false := by rw [beq_eq_false_iff_ne]; exact hc
        clear hr hc
        go_wp2_with fail
        refine wp_region_below (by kernel_rfl) (by kernel_rfl) ?_
        repeat (go_big_quiet_step (first | with_reducible exact after_calls (QC.out _)))
        refine wpQuiet_nil ?_
        rintro w4 ⟨y4, hy4⟩
        have hb4 : Below V3.heap.size V3 w4 := by rw [hy4]; exact y4.is
        have HB4 := Lib.hid (Below.two HB3.out hb4)
        have XB4 := Lib.hid (XB3.out.later hb4)
        have YB4 := Lib.hid (YB.out.later hb4)
        clear hy4 y4 hb4 XB3 YB HB3 x0 x1 x2 x3 x4 x5 x6 x7 x8 x9 F0 F1 F2 F3 F4 F5 F6 F7 F8 F9 hAW QC hxw3
        go_wp2_with fail
        go_ret
        exact ⟨by simp [br, bc], HB4.out⟩
    · have br : (rows == 2) = false := by rw [beq_eq_false_iff_ne]; exact hr
      clear hr
      go_wp2_with fail
      refine wp_region_below (by kernel_rfl) (by kernel_rfl) ?_
      repeat (go_big_quiet_step (first | with_reducible exact after_calls (QC.out _)))
      refine wpQuiet_nil ?_
      rintro w4 ⟨y4, hy4⟩
      have hb4 : Below V3.heap.size V3 w4 := by rw [hy4]; exact y4.is
      have HB4 := Lib.hid (Below.two HB3.out hb4)
      have XB4 := Lib.hid (XB3.out.later hb4)
      have YB4 := Lib.hid (YB.out.later hb4)
      clear hy4 y4 hb4 XB3 YB HB3 x0 x1 x2 x3 x4 x5 x6 x7 x8 x9 F0 F1 F2 F3 F4 F5 F6 F7 F8 F9 hAW QC hxw3
      go_wp2_with fail
      go_ret
      exact ⟨by simp [br], HB4.out⟩
set_option maxRecDepth 100000 in
set_option maxHeartbeats 8000000 in
theorem rr_g (m : SkM) (hk : m.s.kind = 3) (hl0 : 0 ≤ m.s.level) (hl1 : m.s.level ≤ 3) (w : World) (hm : SkOk w w.heap.size m) (hf : SkFit m.s) :
    Calls Tryz.prog 33 #[skV m] w fun r w' => r = .returned (.bool ((Hi.rightB m.s.fine m.s.g && m.s.fine == 3 - m.s.level) && decide (m.s = { noSk m.s.kind m.s.level with fine := m.s.fine, g := m.s.g }))) ∧ Below w.heap.size w w' := by
  have HM := Lib.hid hm
  have HF := Lib.hid hf
  clear hm hf
  obtain ⟨⟨kind, level, e, bits, regs, rows, cols, c, fine, g⟩, ea, ec, ca, cc, ga, gc⟩ := m
  simp only at hk hl0 hl1 HF ⊢
  subst hk
  have HQ : Hid (∀ w', Below w.heap.size w w' → SkOk w' w'.heap.size _) := fun w' h => HM.out.later h
  have QS : Hid (∀ w', Below w.heap.size w w' → Calls Tryz.prog 36 #[.agg #[.int .i64 3, .int .i64 level, .slice ea e.length ec, .int .i64 bits, .string regs, .int .i64 rows, .int .i64 cols, .slice ca c.length cc, .int .i64 fine, .slice ga g.length gc], .agg #[.int .i64 3, .int .i64 level, .slice none 0 0, .int .i64 0, .string ⟨#[]⟩, .int .i64 0, .int .i64 0, .slice none 0 0, .int .i64 fine, .slice ga g.length gc]] w' fun r w'' => r = .returned (.bool (decide ((⟨3, level, e, bits, regs, rows, cols, c, fine, g⟩ : Sk) = (⟨3, level, [], 0, ⟨#[]⟩, 0, 0, [], fine, g⟩ : Sk)))) ∧ Below w'.heap.size w' w'') := fun w' h => by
    have h1 := HQ.out w' h
    exact rksame_any ⟨⟨3, level, e, bits, regs, rows, cols, c, fine, g⟩, ea, ec, ca, cc, ga, gc⟩ ⟨(⟨3, level, [], 0, ⟨#[]⟩, 0, 0, [], fine, g⟩ : Sk), none, 0, none, 0, ga, gc⟩ w' h1 ⟨Rd.none_, Rd.none_, h1.g⟩ HF.out (by have := fit_part HF.out; simpa [partK, noSk] using this)
  show Calls Tryz.prog 33 #[skV ⟨⟨3, level, e, bits, regs, rows, cols, c, fine, g⟩, ea, ec, ca, cc, ga, gc⟩] w fun r w' => r = .returned (.bool ((Hi.rightB fine g && fine == 3 - level) && decide ((⟨3, level, e, bits, regs, rows, cols, c, fine, g⟩ : Sk) = (⟨3, level, [], 0, ⟨#[]⟩, 0, 0, [], fine, g⟩ : Sk)))) ∧ Below w.heap.size w w'
  generalize decide ((⟨3, level, e, bits, regs, rows, cols, c, fine, g⟩ : Sk) = (⟨3, level, [], 0, ⟨#[]⟩, 0, 0, [], fine, g⟩ : Sk)) = dd at *
  clear HM
  have QP : Hid (∀ w', Below w.heap.size w w' → Calls Tryz.prog 50 #[.agg #[.int .i64 fine, .slice ga g.length gc]] w' fun r w'' => r = .returned (.bool (Hi.rightB fine g)) ∧ Below w'.heap.size w' w'') := fun w' h =>
    Hi.rright_any fine ga g gc HF.out.gu (by have := HF.out.g; simp only at this; omega) w' (HQ.out w' h).g
  clear HQ HF
  generalize Hi.rightB fine g = ok at *
  have XB : Hid (Blk (w.alloc (.cells #[.int .i64 3, .int .i64 level, .slice ea e.length ec, .int .i64 bits, .string regs, .int .i64 rows, .int .i64 cols, .slice ca c.length cc, .int .i64 fine, .slice ga g.length gc] 48)) w.heap.size 48 #[.int .i64 3, .int .i64 level, .slice ea e.length ec, .int .i64 bits, .string regs, .int .i64 rows, .int .i64 cols, .slice ca c.length cc, .int .i64 fine, .slice ga g.length gc]) := Blk.new w 48 #[.int .i64 3, .int .i64 level, .slice ea e.length ec, .int .i64 bits, .string regs, .int .i64 rows, .int .i64 cols, .slice ca c.length cc, .int .i64 fine, .slice ga g.length gc]
  have HB : Hid (Below w.heap.size w (w.alloc (.cells #[.int .i64 3, .int .i64 level, .slice ea e.length ec, .int .i64 bits, .string regs, .int .i64 rows, .int .i64 cols, .slice ca c.length cc, .int .i64 fine, .slice ga g.length gc] 48))) := below_al (below_0 w) _
  have hl2 : decide ((level : Int) < 0) = false := decide_eq_false (by omega)
  have hl3 : decide ((3 : Int) < level) = false := decide_eq_false (by omega)
  have hbot : bottomF 3 = 3 := by decide
  go_enter Tryz.func33, Tryz.ntmps33
  unfold skV
  simp only
  go_wp2_with fail
  generalize (w.alloc (.cells #[.int .i64 3, .int .i64 level, .slice ea e.length ec, .int .i64 bits, .string regs, .int .i64 rows, .int .i64 cols, .slice ca c.length cc, .int .i64 fine, .slice ga g.length gc] 48)) = V1 at *
  have x0 := XB.out.cell 0
  have x1 := XB.out.cell 1
  simp only [List.getElem?_toArray, List.getElem?_cons_zero, List.getElem?_cons_succ] at x0 x1
  haveI hAW := After.some V1
  have hxw := XB.out.lt
  have F0 := After.cell x0 hxw
  have F1 := After.cell x1 hxw
  have QB : Hid (∀ y : After V1, Calls Tryz.prog 46 #[.int .i64 3] y.at_ fun r w' => r = .returned (.int .i64 (bottomF 3)) ∧ Below y.at_.heap.size y.at_ w') := fun y => (rbottom_any 3 y.at_).mono fun _ _ ⟨h1, h2⟩ => ⟨h1, h2 ▸ below_0 _⟩
  rw [hbot] at QB
  refine wp_region_below (by kernel_rfl) (by kernel_rfl) ?_
  repeat (go_big_quiet_step (first | with_reducible exact after_calls (QB.out _)))
  refine wpQuiet_nil ?_
  rintro w2 ⟨y2, hy2⟩
  have hb2 : Below V1.heap.size V1 w2 := by rw [hy2]; exact y2.is
  have HB2 := Lib.hid (Below.two HB.out hb2)
  have XB2 := Lib.hid (XB.out.later hb2)
  clear hy2 y2 hb2 XB HB x0 x1 F0 F1 hAW QB hbot hxw
  have x0 := XB2.out.cell 0
  have x1 := XB2.out.cell 1
  have x2 := XB2.out.cell 2
  have x3 := XB2.out.cell 3
  have x4 := XB2.out.cell 4
  have x5 := XB2.out.cell 5
  have x6 := XB2.out.cell 6
  have x7 := XB2.out.cell 7
  have x8 := XB2.out.cell 8
  have x9 := XB2.out.cell 9
  simp only [List.getElem?_toArray, List.getElem?_cons_zero, List.getElem?_cons_succ] at x0 x1 x2 x3 x4 x5 x6 x7 x8 x9
  have hxw2 := XB2.out.lt
  go_wp2_with fail
  have YB : Hid (Blk (w2.alloc (.cells #[.int .i64 3, .int .i64 level, .slice none 0 0, .int .i64 0, .string ⟨#[]⟩, .int .i64 0, .int .i64 0, .slice none 0 0, .int .i64 fine, .slice ga g.length gc] 48)) w2.heap.size 48 #[.int .i64 3, .int .i64 level, .slice none 0 0, .int .i64 0, .string ⟨#[]⟩, .int .i64 0, .int .i64 0, .slice none 0 0, .int .i64 fine, .slice ga g.length gc]) := Blk.new w2 _ _
  have HB3 : Hid (Below w.heap.size w (w2.alloc (.cells #[.int .i64 3, .int .i64 level, .slice none 0 0, .int .i64 0, .string ⟨#[]⟩, .int .i64 0, .int .i64 0, .slice none 0 0, .int .i64 fine, .slice ga g.length gc] 48))) := below_al HB2.out _
  have XB3 : Hid (Blk (w2.alloc (.cells #[.int .i64 3, .int .i64 level, .slice none 0 0, .int .i64 0, .string ⟨#[]⟩, .int .i64 0, .int .i64 0, .slice none 0 0, .int .i64 fine, .slice ga g.length gc] 48)) w.heap.size 48 #[.int .i64 3, .int .i64 level, .slice ea e.length ec, .int .i64 bits, .string regs, .int .i64 rows, .int .i64 cols, .slice ca c.length cc, .int .i64 fine, .slice ga g.length gc]) := XB2.out.alloc _
  clear XB2 HB2 x0 x1 x2 x3 x4 x5 x6 x7 x8 x9
  generalize (w2.alloc (.cells #[.int .i64 3, .int .i64 level, .slice none 0 0, .int .i64 0, .string ⟨#[]⟩, .int .i64 0, .int .i64 0, .slice none 0 0, .int .i64 fine, .slice ga g.length gc] 48)) = V3 at *
  generalize w2.heap.size = bx at *
  refine (QP.out _ HB3.out).mono ?_
  rintro r w4 ⟨rfl, hb4⟩
  have HB4 := Lib.hid (Below.two HB3.out hb4)
  have XB4 := Lib.hid (XB3.out.later hb4)
  have YB4 := Lib.hid (YB.out.later hb4)
  clear hb4 HB3 XB3 YB QP
  cases ok with
  | false =>
    go_wp2_with fail
    go_ret
    exact ⟨by simp, HB4.out⟩
  | true =>
    have x0 := XB4.out.cell 0
    have x1 := XB4.out.cell 1
    have x2 := XB4.out.cell 2
    have x3 := XB4.out.cell 3
    have x4 := XB4.out.cell 4
    have x5 := XB4.out.cell 5
    have x6 := XB4.out.cell 6
    have x7 := XB4.out.cell 7
    have x8 := XB4.out.cell 8
    have x9 := XB4.out.cell 9
    simp only [List.getElem?_toArray, List.getElem?_cons_zero, List.getElem?_cons_succ] at x0 x1 x2 x3 x4 x5 x6 x7 x8 x9
    have hwr : IntKind.i64.wrap (3 - level) = 3 - level := IntWalk.i64_in _ (by omega)
    by_cases hq : fine = 3 - level
    · have bq : (fine == 3 - level) = true := by rw [beq_iff_eq]; exact hq
      clear hq x0 x1 x2 x3 x4 x5 x6 x7 x8 x9
      have x0 := XB4.out.cell 0
      have x1 := XB4.out.cell 1
      have x2 := XB4.out.cell 2
      have x3 := XB4.out.cell 3
      have x4 := XB4.out.cell 4
      have x5 := XB4.out.cell 5
      have x6 := XB4.out.cell 6
      have x7 := XB4.out.cell 7
      have x8 := XB4.out.cell 8
      have x9 := XB4.out.cell 9
      simp only [List.getElem?_toArray, List.getElem?_cons_zero, List.getElem?_cons_succ] at x0 x1 x2 x3 x4 x5 x6 x7 x8 x9
      have y0 := YB4.out.cell 0
      have y1 := YB4.out.cell 1
      have y2 := YB4.out.cell 2
      have y3 := YB4.out.cell 3
      have y4 := YB4.out.cell 4
      have y5 := YB4.out.cell 5
      have y6 := YB4.out.cell 6
      have y7 := YB4.out.cell 7
      have y8 := YB4.out.cell 8
      have y9 := YB4.out.cell 9
      simp only [List.getElem?_toArray, List.getElem?_cons_zero, List.getElem?_cons_succ] at y0 y1 y2 y3 y4 y5 y6 y7 y8 y9
      go_wp2_with fail
      refine (QS.out _ HB4.out).mono ?_
      rintro r w5 ⟨rfl, hb5⟩
      have HB5 := Lib.hid (Below.two HB4.out hb5)
      clear hb5 HB4 QS
      go_wp2_with fail
      go_ret
      exact ⟨by simp [bq], HB5.out⟩
    · have bq : (fine == 3 - level) = false := by rw [beq_eq_false_iff_ne]; exact hq
      clear hq
      go_wp2_with fail
      go_ret
      exact ⟨by simp [bq], HB4.out⟩
set_option maxHeartbeats 4000000 in
theorem rkright_any (m : SkM) (w : World) (hm : SkOk w w.heap.size m) (hf : SkFit m.s) : Calls Tryz.prog 33 #[skV m] w fun r w' => r = .returned (.bool (rightK m.s)) ∧ Below w.heap.size w w' := by
  have no : rightK m.s = false → Calls Tryz.prog 33 #[skV m] w (fun r w' => r = .returned (.bool false) ∧ Below w.heap.size w w') → Calls Tryz.prog 33 #[skV m] w fun r w' => r = .returned (.bool (rightK m.s)) ∧ Below w.heap.size w w' := fun e h => e ▸ h
  have ya : ∀ b : Bool, rightK m.s = b → Calls Tryz.prog 33 #[skV m] w (fun r w' => r = .returned (.bool b) ∧ Below w.heap.size w w') → Calls Tryz.prog 33 #[skV m] w fun r w' => r = .returned (.bool (rightK m.s)) ∧ Below w.heap.size w w' := fun b e h => e ▸ h
  by_cases n : m.s.level < 0
  · exact no (by simp [rightK]; omega) (rr_neg m n w)
  by_cases g : bottomF m.s.kind < m.s.level
  · exact no (by simp [rightK]; omega) (rr_big m (by omega) g w)
  have hk : m.s.kind = 1 ∨ m.s.kind = 2 ∨ m.s.kind = 3 := by
    unfold bottomF at g
    by_cases h1 : m.s.kind = 1
    · exact .inl h1
    · by_cases h2 : m.s.kind = 2
      · exact .inr (.inl h2)
      · by_cases h3 : m.s.kind = 3
        · exact .inr (.inr h3)
        · rw [if_neg h1, if_neg (by omega)] at g; omega
  have hr : rightK m.s = (okK m.s && decide (m.s = partK m.s)) := by
    have : (decide (1 ≤ m.s.kind ∧ m.s.kind ≤ 3) && decide (0 ≤ m.s.level ∧ m.s.level ≤ bottomF m.s.kind)) = true := by simp; omega
    unfold rightK; rw [this, Bool.true_and]
  rcases hk with h1 | h2 | h3
  · have gb : m.s.level ≤ 4 := by rw [h1] at g; simp [bottomF] at g; omega
    by_cases l0 : m.s.level = 0
    · refine ya _ ?_ (rr_e m h1 l0 w hm hf)
      rw [hr]; simp [okK, partK, h1, l0]
    · refine ya _ ?_ (rr_h m h1 (by omega) gb w hm hf)
      rw [hr]; simp [okK, partK, h1, l0]
  · have gb : m.s.level ≤ 3 := by rw [h2] at g; simp [bottomF] at g; omega
    rcases (by omega : m.s.level = 0 ∨ m.s.level = 1 ∨ m.s.level = 2 ∨ m.s.level = 3) with l | l | l | l
    · refine ya _ ?_ (rr_c0 m h2 l w hm hf)
      rw [hr]; simp [okK, partK, h2, l]
    · refine ya _ ?_ (rr_c1 m h2 l w hm hf)
      rw [hr]; simp [okK, partK, h2, l]
    · refine ya _ ?_ (rr_c2 m h2 l w hm hf)
      rw [hr]; simp [okK, partK, h2, l]
    · refine ya _ ?_ (rr_c3 m h2 l w hm hf)
      rw [hr]; simp [okK, partK, h2, l]
  · have gb : m.s.level ≤ 3 := by rw [h3] at g; simp [bottomF] at g; omega
    refine ya _ ?_ (rr_g m h3 (by omega) gb w hm hf)
    rw [hr]; simp [okK, partK, h3]
end Go.Proofs.YtoffmclbnobllaaGreatDoor

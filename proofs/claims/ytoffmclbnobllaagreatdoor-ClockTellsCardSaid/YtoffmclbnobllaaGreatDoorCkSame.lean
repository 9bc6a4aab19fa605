/-
  ladder.Bottom and ladder.Same.
-/
import Derived.Test.YtoffmclbnobllaaGreatDoorCkSer
import Derived.Laws.StructEq
namespace Go.Proofs.YtoffmclbnobllaaGreatDoor
open Go.RowKit
set_option linter.unusedVariables false
set_option linter.unusedSimpArgs false
def bottomF (k : Int) : Int := if k = 1 then 4 else if k = 2 ∨ k = 3 then 3 else -1
theorem bottom_any (k : Int) (w : World) : Calls Tryz.prog 67 #[.int .i64 k] w fun e w' => e = .returned (.int .i64 (bottomF k)) ∧ w = w' := by
  by_cases h1 : k = 1
  · subst h1
    go_enter Tryz.func67, Tryz.ntmps67
    go_wp2_with fail
    go_ret
    exact ⟨rfl, rfl⟩
  · have b1 : (k == 1) = false := by rw [beq_eq_false_iff_ne]; exact h1
    by_cases h2 : k = 2
    · subst h2
      go_enter Tryz.func67, Tryz.ntmps67
      go_wp2_with fail
      go_ret
      exact ⟨rfl, rfl⟩
    · have b2 : (k == 2) = false := by rw [beq_eq_false_iff_ne]; exact h2
      by_cases h3 : k = 3
      · subst h3
        go_enter Tryz.func67, Tryz.ntmps67
        go_wp2_with fail
        go_ret
        exact ⟨rfl, rfl⟩
      · have b3 : (k == 3) = false := by rw [beq_eq_false_iff_ne]; exact h3
        have HR : Hid (bottomF k = -1) := by show _ = _; simp [bottomF, h1, h2, h3]
        clear h1 h2 h3
        go_enter Tryz.func67, Tryz.ntmps67
        go_wp2_with fail
        go_ret
        exact ⟨by rw [HR.out]; rfl, rfl⟩
theorem eq_hll2 (a b : Int) (s t : ByteArray) (w : World) : (binOp .eql 41 (.agg #[.int .i64 a, .string s]) (.agg #[.int .i64 b, .string t])).run Tryz.prog w = .ok (.bool (a == b && s.toList == t.toList)) w := by
  by_cases h1 : a = b
  · subst h1
    by_cases h2 : s.toList = t.toList <;> simp [h2, go_sem]
  · simp [h1, go_sem]
theorem sk_ne {x y : Sk} (h : x.kind ≠ y.kind ∨ x.level ≠ y.level ∨ x.bits ≠ y.bits ∨ x.regs ≠ y.regs ∨ x.e ≠ y.e ∨ x.rows ≠ y.rows ∨ x.cols ≠ y.cols ∨ x.c ≠ y.c ∨ x.fine ≠ y.fine ∨ x.g ≠ y.g) : decide (x = y) = false := by
  apply decide_eq_false
  rintro rfl
  simp at h
set_option maxRecDepth 100000 in
set_option maxHeartbeats 4000000 in
theorem ksame_any (x y : SkM) (w : World) (hx : SkOk w w.heap.size x) (hy : SkOk w w.heap.size y) (fx : SkFit x.s) (fy : SkFit y.s) :
    Calls Tryz.prog 68 #[skV x, skV y] w fun e w' => e = .returned (.bool (decide (x.s = y.s))) ∧ Below w.heap.size w w' := by
  have HX := Lib.hid hx
  have HY := Lib.hid hy
  have HB := Lib.hid (below_al (below_al (below_0 w) (.cells (skC x).toArray 48)) (.cells (skC y).toArray 48))
  obtain ⟨hx1, hx2, hx3⟩ := hx.later HB.out
  obtain ⟨hy1, hy2, hy3⟩ := hy.later HB.out
  have lx1 := fx.e
  have lx2 := fx.c
  have lx3 := fx.g
  have ly1 := fy.e
  have ly2 := fy.c
  have ly3 := fy.g
  clear hx hy fx fy
  obtain ⟨⟨kind, level, e, bits, regs, rows, cols, c, fine, g⟩, ea, ec, ca, cc, ga, gc⟩ := x
  obtain ⟨⟨kind1, level1, e1, bits1, regs1, rows1, cols1, c1, fine1, g1⟩, ea1, ec1, ca1, cc1, ga1, gc1⟩ := y
  simp only [skC] at *
  have HN := Lib.hid (@sk_ne ⟨kind, level, e, bits, regs, rows, cols, c, fine, g⟩ ⟨kind1, level1, e1, bits1, regs1, rows1, cols1, c1, fine1, g1⟩)
  have QE : Hid (∀ w', Sl w' w'.heap.size ea e → Sl w' w'.heap.size ea1 e1 → Calls Tryz.prog 77 #[.agg #[.slice ea e.length ec], .agg #[.slice ea1 e1.length ec1]] w' fun r w'' => r = .returned (.bool (Ex.eqB e e1)) ∧ Below w'.heap.size w' w'') := fun w' h1 h2 => Ex.same_any w' _ _ _ _ _ _ h1 h2 (by omega) (by omega)
  have QC : Hid (∀ w', Sl w' w'.heap.size ca c → Sl w' w'.heap.size ca1 c1 → Calls Tryz.prog 78 #[.agg #[.int .i64 rows, .int .i64 cols, .slice ca c.length cc], .agg #[.int .i64 rows1, .int .i64 cols1, .slice ca1 c1.length cc1]] w' fun r w'' => r = .returned (.bool (Cm.sameB ⟨rows, cols, c⟩ ⟨rows1, cols1, c1⟩)) ∧ Below w'.heap.size w' w'') := fun w' h1 h2 => Cm.same_any _ _ _ _ _ _ _ _ _ _ w' h1 h2 (by omega) (by omega)
  have QG : Hid (∀ w', Hi.Sb w' w'.heap.size ga g → Hi.Sb w' w'.heap.size ga1 g1 → Calls Tryz.prog 79 #[.agg #[.int .i64 fine, .slice ga g.length gc], .agg #[.int .i64 fine1, .slice ga1 g1.length gc1]] w' fun r w'' => r = .returned (.bool (Hi.sameH fine g fine1 g1)) ∧ Below w'.heap.size w' w'') := fun w' h1 h2 => Hi.same_any _ _ _ _ _ _ _ _ (by omega) (by omega) w' h1 h2
  have HE1 := Lib.hid hx1
  have HE2 := Lib.hid hy1
  have HC1 := Lib.hid hx2
  have HC2 := Lib.hid hy2
  have HG1 := Lib.hid hx3
  have HG2 := Lib.hid hy3
  clear hx1 hy1 hx2 hy2 hx3 hy3 HX HY lx1 lx2 lx3 ly1 ly2 ly3
  simp only at *
  have q1 := eq_hll2 bits bits1 regs regs1
  have X0 := Lib.hid ((Blk.new w 48 #[.int .i64 kind, .int .i64 level, .slice ea e.length ec, .int .i64 bits, .string regs, .int .i64 rows, .int .i64 cols, .slice ca c.length cc, .int .i64 fine, .slice ga g.length gc]).alloc (.cells #[.int .i64 kind1, .int .i64 level1, .slice ea1 e1.length ec1, .int .i64 bits1, .string regs1, .int .i64 rows1, .int .i64 cols1, .slice ca1 c1.length cc1, .int .i64 fine1, .slice ga1 g1.length gc1] 48))
  have Y0 := Lib.hid (Blk.new (w.alloc (.cells #[.int .i64 kind, .int .i64 level, .slice ea e.length ec, .int .i64 bits, .string regs, .int .i64 rows, .int .i64 cols, .slice ca c.length cc, .int .i64 fine, .slice ga g.length gc] 48)) 48 #[.int .i64 kind1, .int .i64 level1, .slice ea1 e1.length ec1, .int .i64 bits1, .string regs1, .int .i64 rows1, .int .i64 cols1, .slice ca1 c1.length cc1, .int .i64 fine1, .slice ga1 g1.length gc1])
  have hsz : (w.alloc (.cells #[.int .i64 kind, .int .i64 level, .slice ea e.length ec, .int .i64 bits, .string regs, .int .i64 rows, .int .i64 cols, .slice ca c.length cc, .int .i64 fine, .slice ga g.length gc] 48)).heap.size = w.heap.size + 1 := by simp
  rw [hsz] at Y0
  clear hsz
  unfold skV
  by_cases h1 : kind = kind1
  · have b1 : (kind == kind1) = true := by rw [beq_iff_eq]; exact h1
    by_cases h2 : level = level1
    · have b2 : (level == level1) = true := by rw [beq_iff_eq]; exact h2
      by_cases h3 : bits = bits1 ∧ regs = regs1
      · have b3 : (bits == bits1 && regs.toList == regs1.toList) = true := by simp [h3.1, h3.2]
        rw [b3] at q1
        clear b3
        cases h4 : Ex.eqB e e1 with
        | true =>
          have e4 : e = e1 := by simpa [Ex.eqB] using h4
          rw [h4] at QE
          cases h5 : Cm.sameB ⟨rows, cols, c⟩ ⟨rows1, cols1, c1⟩ with
          | true =>
            have e5 : rows = rows1 ∧ cols = cols1 ∧ c = c1 := by simpa [Cm.sameB] using h5
            rw [h5] at QC
            cases h6 : Hi.sameH fine g fine1 g1 with
            | true =>
              have e6 : fine = fine1 ∧ g = g1 := by simpa [Hi.sameH] using h6
              rw [h6] at QG
              have HR : Hid (decide ((⟨kind, level, e, bits, regs, rows, cols, c, fine, g⟩ : Sk) = ⟨kind1, level1, e1, bits1, regs1, rows1, cols1, c1, fine1, g1⟩) = true) := by
                show _ = _
                rw [decide_eq_true_eq, h1, h2, h3.1, h3.2, e4, e5.1, e5.2.1, e5.2.2, e6.1, e6.2]
              clear h1 h2 h3 h4 h5 h6 e4 e5 e6 HN
              go_enter Tryz.func68, Tryz.ntmps68
              go_wp2_with fail
              refine (QE.out _ HE1.out HE2.out).mono ?_
              rintro r w1 ⟨rfl, hb1⟩
              have HB1 := Lib.hid (Below.two HB.out hb1)
              have X1 := Lib.hid (X0.out.later hb1)
              have Y1 := Lib.hid (Y0.out.later hb1)
              have C1 := Lib.hid (show Sl w1 w1.heap.size ca c from (Rd.below HC1.out hb1).more hb1.size)
              have C2 := Lib.hid (show Sl w1 w1.heap.size ca1 c1 from (Rd.below HC2.out hb1).more hb1.size)
              have G1 := Lib.hid (show Hi.Sb w1 w1.heap.size ga g from (Rd.below HG1.out hb1).more hb1.size)
              have G2 := Lib.hid (show Hi.Sb w1 w1.heap.size ga1 g1 from (Rd.below HG2.out hb1).more hb1.size)
              clear QE HE1 HE2 HC1 HC2 HG1 HG2 HB hb1 X0 Y0
              have x5 := X1.out.cell 5
              have x6 := X1.out.cell 6
              have x7 := X1.out.cell 7
              have y5 := Y1.out.cell 5
              have y6 := Y1.out.cell 6
              have y7 := Y1.out.cell 7
              simp only [List.getElem?_toArray, List.getElem?_cons_zero, List.getElem?_cons_succ] at x5 x6 x7 y5 y6 y7
              go_wp2_with fail
              refine (QC.out _ C1.out C2.out).mono ?_
              rintro r w2 ⟨rfl, hb2⟩
              have HB2 := Lib.hid (Below.two HB1.out hb2)
              have X2 := Lib.hid (X1.out.later hb2)
              have Y2 := Lib.hid (Y1.out.later hb2)
              have G3 := Lib.hid (show Hi.Sb w2 w2.heap.size ga g from (Rd.below G1.out hb2).more hb2.size)
              have G4 := Lib.hid (show Hi.Sb w2 w2.heap.size ga1 g1 from (Rd.below G2.out hb2).more hb2.size)
              clear QC C1 C2 G1 G2 HB1 hb2 X1 Y1 x5 x6 x7 y5 y6 y7
              have x8 := X2.out.cell 8
              have x9 := X2.out.cell 9
              have y8 := Y2.out.cell 8
              have y9 := Y2.out.cell 9
              simp only [List.getElem?_toArray, List.getElem?_cons_zero, List.getElem?_cons_succ] at x8 x9 y8 y9
              go_wp2_with fail
              refine (QG.out _ G3.out G4.out).mono ?_
              rintro r w3 ⟨rfl, hb3⟩
              have HB3 := Lib.hid (Below.two HB2.out hb3)
              clear QG G3 G4 HB2 hb3 X2 Y2 x8 x9 y8 y9
              go_wp2_with fail
              go_ret
              exact ⟨by rw [HR.out]; rfl, HB3.out⟩
            | false =>
              have e6 : ¬ (fine = fine1 ∧ g = g1) := by simpa [Hi.sameH] using h6
              rw [h6] at QG
              have HR := Lib.hid (HN.out (by
                by_cases hf : fine = fine1
                · exact .inr (.inr (.inr (.inr (.inr (.inr (.inr (.inr (.inr (fun hg => e6 ⟨hf, hg⟩)))))))))
                · exact .inr (.inr (.inr (.inr (.inr (.inr (.inr (.inr (.inl hf))))))))))
              clear h1 h2 h3 h4 h5 h6 e4 e5 e6 HN
              go_enter Tryz.func68, Tryz.ntmps68
              go_wp2_with fail
              refine (QE.out _ HE1.out HE2.out).mono ?_
              rintro r w1 ⟨rfl, hb1⟩
              have HB1 := Lib.hid (Below.two HB.out hb1)
              have X1 := Lib.hid (X0.out.later hb1)
              have Y1 := Lib.hid (Y0.out.later hb1)
              have C1 := Lib.hid (show Sl w1 w1.heap.size ca c from (Rd.below HC1.out hb1).more hb1.size)
              have C2 := Lib.hid (show Sl w1 w1.heap.size ca1 c1 from (Rd.below HC2.out hb1).more hb1.size)
              have G1 := Lib.hid (show Hi.Sb w1 w1.heap.size ga g from (Rd.below HG1.out hb1).more hb1.size)
              have G2 := Lib.hid (show Hi.Sb w1 w1.heap.size ga1 g1 from (Rd.below HG2.out hb1).more hb1.size)
              clear QE HE1 HE2 HC1 HC2 HG1 HG2 HB hb1 X0 Y0
              have x5 := X1.out.cell 5
              have x6 := X1.out.cell 6
              have x7 := X1.out.cell 7
              have y5 := Y1.out.cell 5
              have y6 := Y1.out.cell 6
              have y7 := Y1.out.cell 7
              simp only [List.getElem?_toArray, List.getElem?_cons_zero, List.getElem?_cons_succ] at x5 x6 x7 y5 y6 y7
              go_wp2_with fail
              refine (QC.out _ C1.out C2.out).mono ?_
              rintro r w2 ⟨rfl, hb2⟩
              have HB2 := Lib.hid (Below.two HB1.out hb2)
              have X2 := Lib.hid (X1.out.later hb2)
              have Y2 := Lib.hid (Y1.out.later hb2)
              have G3 := Lib.hid (show Hi.Sb w2 w2.heap.size ga g from (Rd.below G1.out hb2).more hb2.size)
              have G4 := Lib.hid (show Hi.Sb w2 w2.heap.size ga1 g1 from (Rd.below G2.out hb2).more hb2.size)
              clear QC C1 C2 G1 G2 HB1 hb2 X1 Y1 x5 x6 x7 y5 y6 y7
              have x8 := X2.out.cell 8
              have x9 := X2.out.cell 9
              have y8 := Y2.out.cell 8
              have y9 := Y2.out.cell 9
              simp only [List.getElem?_toArray, List.getElem?_cons_zero, List.getElem?_cons_succ] at x8 x9 y8 y9
              go_wp2_with fail
              refine (QG.out _ G3.out G4.out).mono ?_
              rintro r w3 ⟨rfl, hb3⟩
              have HB3 := Lib.hid (Below.two HB2.out hb3)
              clear QG G3 G4 HB2 hb3 X2 Y2 x8 x9 y8 y9
              go_wp2_with fail
              go_ret
              exact ⟨by rw [HR.out]; rfl, HB3.out⟩
          | false =>
            have e5 : ¬ (rows = rows1 ∧ cols = cols1 ∧ c = c1) := by simpa [Cm.sameB] using h5
            rw [h5] at QC
            have HR := Lib.hid (HN.out (by
              by_cases hf : rows = rows1
              · by_cases hg : cols = cols1
                · exact .inr (.inr (.inr (.inr (.inr (.inr (.inr (.inl fun hk => e5 ⟨hf, hg, hk⟩)))))))
                · exact .inr (.inr (.inr (.inr (.inr (.inr (.inl hg))))))
              · exact .inr (.inr (.inr (.inr (.inr (.inl hf)))))))
            clear h1 h2 h3 h4 h5 e4 e5 HN
            go_enter Tryz.func68, Tryz.ntmps68
            go_wp2_with fail
            refine (QE.out _ HE1.out HE2.out).mono ?_
            rintro r w1 ⟨rfl, hb1⟩
            have HB1 := Lib.hid (Below.two HB.out hb1)
            have X1 := Lib.hid (X0.out.later hb1)
            have Y1 := Lib.hid (Y0.out.later hb1)
            have C1 := Lib.hid (show Sl w1 w1.heap.size ca c from (Rd.below HC1.out hb1).more hb1.size)
            have C2 := Lib.hid (show Sl w1 w1.heap.size ca1 c1 from (Rd.below HC2.out hb1).more hb1.size)
            have G1 := Lib.hid (show Hi.Sb w1 w1.heap.size ga g from (Rd.below HG1.out hb1).more hb1.size)
            have G2 := Lib.hid (show Hi.Sb w1 w1.heap.size ga1 g1 from (Rd.below HG2.out hb1).more hb1.size)
            clear QE HE1 HE2 HC1 HC2 HG1 HG2 HB hb1 X0 Y0
            have x5 := X1.out.cell 5
            have x6 := X1.out.cell 6
            have x7 := X1.out.cell 7
            have y5 := Y1.out.cell 5
            have y6 := Y1.out.cell 6
            have y7 := Y1.out.cell 7
            simp only [List.getElem?_toArray, List.getElem?_cons_zero, List.getElem?_cons_succ] at x5 x6 x7 y5 y6 y7
            go_wp2_with fail
            refine (QC.out _ C1.out C2.out).mono ?_
            rintro r w2 ⟨rfl, hb2⟩
            have HB2 := Lib.hid (Below.two HB1.out hb2)
            have X2 := Lib.hid (X1.out.later hb2)
            have Y2 := Lib.hid (Y1.out.later hb2)
            have G3 := Lib.hid (show Hi.Sb w2 w2.heap.size ga g from (Rd.below G1.out hb2).more hb2.size)
            have G4 := Lib.hid (show Hi.Sb w2 w2.heap.size ga1 g1 from (Rd.below G2.out hb2).more hb2.size)
            clear QC C1 C2 G1 G2 HB1 hb2 X1 Y1 x5 x6 x7 y5 y6 y7
            go_wp2_with fail
            go_ret
            exact ⟨by rw [HR.out]; rfl, HB2.out⟩
        | false =>
          have e4 : ¬ e = e1 := by simpa [Ex.eqB] using h4
          rw [h4] at QE
          have HR := Lib.hid (HN.out (.inr (.inr (.inr (.inr (.inl e4))))))
          clear h1 h2 h3 h4 e4 HN
          go_enter Tryz.func68, Tryz.ntmps68
          go_wp2_with fail
          refine (QE.out _ HE1.out HE2.out).mono ?_
          rintro r w1 ⟨rfl, hb1⟩
          have HB1 := Lib.hid (Below.two HB.out hb1)
          have X1 := Lib.hid (X0.out.later hb1)
          have Y1 := Lib.hid (Y0.out.later hb1)
          have C1 := Lib.hid (show Sl w1 w1.heap.size ca c from (Rd.below HC1.out hb1).more hb1.size)
          have C2 := Lib.hid (show Sl w1 w1.heap.size ca1 c1 from (Rd.below HC2.out hb1).more hb1.size)
          have G1 := Lib.hid (show Hi.Sb w1 w1.heap.size ga g from (Rd.below HG1.out hb1).more hb1.size)
          have G2 := Lib.hid (show Hi.Sb w1 w1.heap.size ga1 g1 from (Rd.below HG2.out hb1).more hb1.size)
          clear QE HE1 HE2 HC1 HC2 HG1 HG2 HB hb1 X0 Y0
          go_wp2_with fail
          go_ret
          exact ⟨by rw [HR.out]; rfl, HB1.out⟩
      · have b3 : (bits == bits1 && regs.toList == regs1.toList) = false := by
          by_cases hb : bits = bits1
          · have hr : ¬ regs.toList = regs1.toList := fun e => h3 ⟨hb, tx_inj (by rw [← tx_toList, ← tx_toList, e])⟩
            simp [hb, hr]
          · simp [hb]
        rw [b3] at q1
        have HR := Lib.hid (HN.out (by
          by_cases hb : bits = bits1
          · exact .inr (.inr (.inr (.inl fun hr => h3 ⟨hb, hr⟩)))
          · exact .inr (.inr (.inl hb))))
        clear b3 h1 h2 h3
        clear HN QE QC QG HE1 HE2 HC1 HC2 HG1 HG2 X0 Y0
        go_enter Tryz.func68, Tryz.ntmps68
        go_wp2_with fail
        go_ret
        exact ⟨by rw [HR.out]; rfl, HB.out⟩
    · have b2 : (level == level1) = false := by rw [beq_eq_false_iff_ne]; exact h2
      have HR := Lib.hid (HN.out (.inr (.inl h2)))
      clear h1 h2
      clear HN QE QC QG HE1 HE2 HC1 HC2 HG1 HG2 X0 Y0
      go_enter Tryz.func68, Tryz.ntmps68
      go_wp2_with fail
      go_ret
      exact ⟨by rw [HR.out]; rfl, HB.out⟩
  · have b1 : (kind == kind1) = false := by rw [beq_eq_false_iff_ne]; exact h1
    have HR := Lib.hid (HN.out (.inl h1))
    clear h1
    clear HN QE QC QG HE1 HE2 HC1 HC2 HG1 HG2 X0 Y0
    go_enter Tryz.func68, Tryz.ntmps68
    go_wp2_with fail
    go_ret
    exact ⟨by rw [HR.out]; rfl, HB.out⟩
end Go.Proofs.YtoffmclbnobllaaGreatDoor

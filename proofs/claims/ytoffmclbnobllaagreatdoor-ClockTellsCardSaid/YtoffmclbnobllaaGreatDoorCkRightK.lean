/-
  ladder.Right.
-/
import Derived.Test.YtoffmclbnobllaaGreatDoorCkRight0
namespace Go.Proofs.YtoffmclbnobllaaGreatDoor
open Go.RowKit
set_option linter.unusedVariables false
set_option linter.unusedSimpArgs false
def partK (s : Sk) : Sk := if s.kind = 1 then (if s.level = 0 then { noSk s.kind s.level with e := s.e } else { noSk s.kind s.level with bits := s.bits, regs := s.regs })
  else if s.kind = 2 then { noSk s.kind s.level with rows := s.rows, cols := s.cols, c := s.c } else { noSk s.kind s.level with fine := s.fine, g := s.g }
def okK (s : Sk) : Bool := if s.kind = 1 then (if s.level = 0 then Ex.rightB s.e else Hl.rightF s.bits (regsL s.regs) && s.bits == 8 - s.level)
  else if s.kind = 2 then Cm.rightC s.rows s.cols s.c.length && s.rows == 2 && s.cols == 32 / 2 ^ s.level.toNat else Hi.rightB s.fine s.g && s.fine == 3 - s.level
/-- Is it a sketch? -/
def rightK (s : Sk) : Bool := decide (1 ≤ s.kind ∧ s.kind ≤ 3) && decide (0 ≤ s.level ∧ s.level ≤ bottomF s.kind) && (okK s && decide (s = partK s))
theorem i64_0 : Hi.I64 0 := by unfold Hi.I64; omega
theorem fit_part {s : Sk} (h : SkFit s) : SkFit (partK s) := by
  have z := i64_0
  obtain ⟨h1, h2, h3, h4, h5, h6, h7, h8, h9, h10, h11⟩ := h
  have hu : Hi.UBs [] := fun x hx => by simp at hx
  have hr : (⟨#[]⟩ : ByteArray).size ≤ 1000 := by decide
  unfold partK
  split
  · split
    · exact ⟨h1, by simp [noSk], by simp [noSk], hr, hu, h6, h7, z, z, z, z⟩
    · exact ⟨by simp [noSk], by simp [noSk], by simp [noSk], h4, hu, h6, h7, h8, z, z, z⟩
  · split
    · exact ⟨by simp [noSk], h2, by simp [noSk], hr, hu, h6, h7, z, h9, h10, z⟩
    · exact ⟨by simp [noSk], by simp [noSk], h3, hr, h5, h6, h7, z, z, z, h11⟩
theorem open_any (m : SkM) (w : World) (hm : SkOk w w.heap.size m) (hf : SkFit m.s) : Calls Tryz.prog 57 #[skV m] w (OpRet w (rightK m.s)) := by
  have hp := fit_part hf
  have no : ∀ b : Bool, rightK m.s = b → Calls Tryz.prog 57 #[skV m] w (OpRet w b) → Calls Tryz.prog 57 #[skV m] w (OpRet w (rightK m.s)) := fun b e h => e ▸ h
  by_cases h1 : m.s.kind = 1
  · by_cases n : m.s.level < 0
    · exact no false (by simp [rightK, h1]; omega) (open_neg1 m h1 n w hm hf)
    by_cases g : 4 < m.s.level
    · exact no false (by simp [rightK, h1, bottomF]; omega) (open_big1 m h1 (by omega) g w hm hf)
    have hr : rightK m.s = (okK m.s && decide (m.s = partK m.s)) := by
      have : (decide (1 ≤ m.s.kind ∧ m.s.kind ≤ 3) && decide (0 ≤ m.s.level ∧ m.s.level ≤ bottomF m.s.kind)) = true := by simp [h1, bottomF]; omega
      unfold rightK; rw [this, Bool.true_and]
    rw [hr]
    by_cases l0 : m.s.level = 0
    · have e1 : okK m.s = Ex.rightB m.s.e := by simp [okK, h1, l0]
      have e2 : partK m.s = { noSk m.s.kind m.s.level with e := m.s.e } := by simp [partK, h1, l0]
      rw [e1]
      exact open_1 m 127 (eV m) _ _ h1 (by omega) (by omega) w hm hf hp (fun w' h => distinct0_any m l0 w' h hf) (fun w' h => by rw [e2]; exact sketchE_any m.ea m.s.e m.ec _ _ hf.e w' h.e)
    · have e2 : partK m.s = { noSk m.s.kind m.s.level with bits := m.s.bits, regs := m.s.regs } := by simp [partK, h1, l0]
      have e1 : okK m.s = (Hl.rightF m.s.bits (regsL m.s.regs) && m.s.bits == 8 - m.s.level) := by simp [okK, h1, l0]
      rw [e1]
      refine open_1 m 129 (hV m) _ _ h1 (by omega) (by omega) w hm hf hp (fun w' h => ?_) (fun w' h => by rw [e2]; exact sketchH_any m.s.bits m.s.regs _ _ w')
      rcases (by omega : m.s.level = 1 ∨ m.s.level = 2 ∨ m.s.level = 3 ∨ m.s.level = 4) with l | l | l | l
      · have := distinct1_any m l w' h hf; rw [l]; exact this
      · have := distinct2_any m l w' h hf; rw [l]; exact this
      · have := distinct3_any m l w' h hf; rw [l]; exact this
      · have := distinct4_any m l w' h hf; rw [l]; exact this
  by_cases h2 : m.s.kind = 2
  · by_cases n : m.s.level < 0
    · exact no false (by simp [rightK, h2]; omega) (open_neg2 m h2 n w hm hf)
    by_cases g : 3 < m.s.level
    · exact no false (by simp [rightK, h2, bottomF]; omega) (open_big2 m h2 (by omega) g w hm hf)
    have hr : rightK m.s = (okK m.s && decide (m.s = partK m.s)) := by
      have : (decide (1 ≤ m.s.kind ∧ m.s.kind ≤ 3) && decide (0 ≤ m.s.level ∧ m.s.level ≤ bottomF m.s.kind)) = true := by simp [h2, bottomF]; omega
      unfold rightK; rw [this, Bool.true_and]
    rw [hr]
    have e2 : partK m.s = { noSk m.s.kind m.s.level with rows := m.s.rows, cols := m.s.cols, c := m.s.c } := by simp [partK, h1, h2]
    have e1 : okK m.s = (Cm.rightC m.s.rows m.s.cols m.s.c.length && m.s.rows == 2 && m.s.cols == 32 / 2 ^ m.s.level.toNat) := by simp [okK, h1, h2]
    rw [e1]
    refine open_2 m 131 (cV m) _ _ h2 (by omega) (by omega) w hm hf hp (fun w' h => ?_) (fun w' h => by rw [e2]; exact sketchC_any m.s.rows m.s.cols m.ca m.s.c m.cc _ _ hf.c w' h.c)
    rcases (by omega : m.s.level = 0 ∨ m.s.level = 1 ∨ m.s.level = 2 ∨ m.s.level = 3) with l | l | l | l
    · have := count0_any m l w' h hf; rw [l]; exact this
    · have := count1_any m l w' h hf; rw [l]; exact this
    · have := count2_any m l w' h hf; rw [l]; exact this
    · have := count3_any m l w' h hf; rw [l]; exact this
  by_cases h3 : m.s.kind = 3
  · by_cases n : m.s.level < 0
    · exact no false (by simp [rightK, h3]; omega) (open_neg3 m h3 n w hm hf)
    by_cases g : 3 < m.s.level
    · exact no false (by simp [rightK, h3, bottomF]; omega) (open_big3 m h3 (by omega) g w hm hf)
    have hr : rightK m.s = (okK m.s && decide (m.s = partK m.s)) := by
      have : (decide (1 ≤ m.s.kind ∧ m.s.kind ≤ 3) && decide (0 ≤ m.s.level ∧ m.s.level ≤ bottomF m.s.kind)) = true := by simp [h3, bottomF]; omega
      unfold rightK; rw [this, Bool.true_and]
    rw [hr]
    have e2 : partK m.s = { noSk m.s.kind m.s.level with fine := m.s.fine, g := m.s.g } := by simp [partK, h3]
    have e1 : okK m.s = (Hi.rightB m.s.fine m.s.g && m.s.fine == 3 - m.s.level) := by simp [okK, h3]
    rw [e1]
    refine open_3 m 133 (gV m) _ _ h3 (by omega) (by omega) w hm hf hp (fun w' h => ?_) (fun w' h => by rw [e2]; exact sketchG_any m.s.fine m.ga m.s.g m.gc _ _ hf.g w' h.g)
    rcases (by omega : m.s.level = 0 ∨ m.s.level = 1 ∨ m.s.level = 2 ∨ m.s.level = 3) with l | l | l | l
    · have := lie0_any m l w' h hf; rw [l]; exact this
    · have := lie1_any m l w' h hf; rw [l]; exact this
    · have := lie2_any m l w' h hf; rw [l]; exact this
    · have := lie3_any m l w' h hf; rw [l]; exact this
  · exact no false (by simp [rightK]; omega) (open_none m h1 h2 h3 w hm hf)
set_option maxRecDepth 100000 in
set_option maxHeartbeats 4000000 in
theorem kright_any (m : SkM) (w : World) (hm : SkOk w w.heap.size m) (hf : SkFit m.s) : Calls Tryz.prog 42 #[skV m] w fun e w' => e = .returned (.bool (rightK m.s)) ∧ Below w.heap.size w w' := by
  have HM := Lib.hid hm
  have HF := Lib.hid hf
  have QO : Hid (∀ w', Below w.heap.size w w' → Calls Tryz.prog 57 #[skV m] w' (OpRet w' (rightK m.s))) := fun w' h => open_any m w' (HM.out.later h) HF.out
  clear hm hf HM HF
  obtain ⟨⟨kind, level, e, bits, regs, rows, cols, c, fine, g⟩, ea, ec, ca, cc, ga, gc⟩ := m
  unfold skV at *
  simp only at QO ⊢
  generalize rightK ⟨kind, level, e, bits, regs, rows, cols, c, fine, g⟩ = b at *
  go_enter Tryz.func42, Tryz.ntmps42
  go_wp2_with fail
  refine (QO.out _ (below_al (below_0 w) _)).mono ?_
  rintro r w1 ⟨a1, a2, a3, err, rfl, ha1, he, hb1⟩
  have HB1 := Lib.hid (Below.two (below_al (below_0 w) _) hb1)
  clear hb1 QO
  cases b with
  | true =>
    have he : err = .nilIface := he
    subst he
    rcases ha1 with rfl | ⟨_, _, rfl⟩ <;> (go_wp2_with fail; go_ret; exact ⟨rfl, Below.two HB1.out (below_al (below_0 w1) _)⟩)
  | false =>
    obtain ⟨p, rfl⟩ : ∃ p, err = .iface 106 (.pointer (some p)) := he
    rcases ha1 with rfl | ⟨_, _, rfl⟩ <;> (go_wp2_with fail; go_ret; exact ⟨rfl, Below.two HB1.out (below_al (below_0 w1) _)⟩)
end Go.Proofs.YtoffmclbnobllaaGreatDoor

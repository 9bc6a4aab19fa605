/-
  label.quoted.
-/
import Derived.Test.YtlcpigkgbihebaaDoorLabWalk1
import Derived.Test.YtlcpigkgbihebaaDoorLabShelf
namespace Go.Proofs.YtlcpigkgbihebaaDoor
open Go.RowKit
set_option linter.unusedVariables false
set_option linter.unusedSimpArgs false
def quoR (d : Nat × Nat) : List UInt8 := (if d.1 = 44 ∨ d.1 = 92 then [92] else []) ++ Lib.encodeRune (d.1 : Int)
/-- A text's quoted form. -/
def quoB (l : List UInt8) : List UInt8 := (cp l).flatMap quoR
theorem encRune_le (r : Int) : (Lib.encodeRune r).length ≤ 4 := by
  have := Lib.runeCells_le r
  rw [Lib.runeCells_length] at this
  omega
theorem quoR_le (d : Nat × Nat) : (quoR d).length ≤ 5 := by
  unfold quoR
  have := encRune_le (d.1 : Int)
  rw [List.length_append]
  split <;> simp <;> omega
theorem flat_quo_le (l : List (Nat × Nat)) : (l.flatMap quoR).length ≤ 5 * l.length := by
  induction l with
  | nil => simp
  | cons d l ih => rw [List.flatMap_cons, List.length_append, List.length_cons]; have := quoR_le d; omega
set_option maxHeartbeats 4000000 in
set_option maxRecDepth 1000000 in
theorem quoted_any (s : ByteArray) (w : World) (hs : s.size ≤ 1000000) :
    Calls Tryd.prog 36 #[.string s] w fun e w' => e = .returned (.string ⟨(quoB (tx s)).toArray⟩) ∧ Below w.heap.size w w' := by
  go_enter Tryd.func36, Tryd.ntmps36
  go_wp2_with fail
  go_loopw [] (fun wr => ∃ (pos : Nat) (pre : List (Nat × Nat)), Hid (Went s pos pre) ∧ Lib.IsBuilderF 80 5 w.heap.size w.heap.size (Lib.byteCells (pre.flatMap quoR)) wr ∧ wr.heap[w.heap.size + 1]? = some (.stringIter s pos) ∧ Below w.heap.size w wr) (fun wr => s.size - wr.iterPos (w.heap.size + 1))
  case atStart =>
    refine ⟨0, [], Went.zero s, (Lib.IsBuilderF.of (Lib.fresh_isBuilder 80 5 w)).alloc _, ?_, ((Below.refl _ w).alloc (Nat.le_refl _) _).alloc (by simp) _⟩
    have := World.iter_heap (w.alloc (.cells #[.pointer none, .slice none 0 0] 80)) s 0
    simpa using this
  case round =>
    obtain ⟨pos, pre, HW, hI, hit, hbw⟩ := hrel
    have hsz : w.heap.size + 1 < wr.heap.size := (Array.getElem?_eq_some_iff.1 hit).1
    have hplen := HW.out.len
    have hflat := flat_quo_le pre
    have HP : Hid (wr.iterPos (w.heap.size + 1) = pos) := by show _ = _; simp [World.iterPos, hit]
    by_cases hp : pos < s.size
    · have hnx : ∀ ty, (Instr.next (.pointer (some ⟨w.heap.size + 1, 0, none⟩)) true ty).run Tryd.prog wr = _ := fun ty => Lib.run_next_any_at wr (w.heap.size + 1) s pos ty hit hp
      rw [dec_at] at hnx
      have HW2 := Lib.hid (HW.out.next hp)
      obtain ⟨d1, d2, d3, _⟩ := decL_bd ((tx s).drop pos)
      have hI2 := hI.iterAt hit (pos + (decL ((tx s).drop pos)).2)
      have hit2 := Lib.iterAt_heap wr (w.heap.size + 1) s pos (pos + (decL ((tx s).drop pos)).2) hit
      have hbw2 := Lib.below_iterAt hbw (k := w.heap.size + 1) (by omega) s (pos + (decL ((tx s).drop pos)).2)
      have hsz2 : w.heap.size ≤ (wr.iterAt (w.heap.size + 1) s (pos + (decL ((tx s).drop pos)).2)).heap.size := by rw [Lib.iterAt_size]; omega
      have HI2 := Lib.hid hI2
      have HIT2 := Lib.hid hit2
      have HBW2 := Lib.hid hbw2
      clear hI hit hbw hI2 hit2 hbw2
      generalize decL ((tx s).drop pos) = d at *
      have hwi : ∃ wi, wr.iterAt (w.heap.size + 1) s (pos + d.2) = wi := ⟨_, rfl⟩
      obtain ⟨wi, hwi⟩ := hwi
      rw [hwi] at HI2 HIT2 HBW2 hsz2 hnx
      clear hwi
      have HFM : Hid ((pre ++ [d]).flatMap quoR = pre.flatMap quoR ++ quoR d) := by show _ = _; simp
      generalize pre.flatMap quoR = acc at *
      by_cases h44 : d.1 = 44 ∨ d.1 = 92
      · have HQ : Hid (Lib.byteCells (quoR d) = [.int .u8 92] ++ Lib.runeCells (d.1 : Int)) := by
          show _ = _; rw [quoR, if_pos h44, Lib.byteCells_append, Lib.byteCells_encodeRune]; rfl
        have fin : ∀ w9 : World, Lib.BuilderAtF 80 5 w.heap.size w.heap.size (.pointer (some ⟨w.heap.size, 0, none⟩)) (Lib.byteCells acc ++ [.int .u8 92] ++ Lib.runeCells (d.1 : Int)) w9 → Lib.IsBuilderF 80 5 w.heap.size w.heap.size (Lib.byteCells ((pre ++ [d]).flatMap quoR)) w9 := fun w9 h => by
          rw [HFM.out, Lib.byteCells_append, HQ.out, ← List.append_assoc]; exact Or.inr h
        have FIN := Lib.hid fin
        clear fin
        have hbl : (Lib.byteCells acc).length ≤ 5 * pre.length := by rw [Lib.byteCells_length]; exact hflat
        have h44' : (d.1 : Int) = 44 ∨ (d.1 : Int) = 92 := by omega
        clear h44 HQ
        rcases h44' with h44 | h44
        all_goals
          rw [h44] at hnx FIN
          clear h44
          go_wp2_with fail
          refine (writeByte_k w.heap.size w.heap.size _ 92 _ HI2.out (by omega) hsz2).mono ?_
          rintro e W1 ⟨rfl, h1, b1, k1⟩
          have HI3 := Lib.hid (k1.iter HIT2.out (by omega))
          have HB3 := Lib.hid (HBW2.out.trans b1)
          have hsz3 : w.heap.size ≤ W1.heap.size := HB3.out.size
          have H1 : Hid (Lib.IsBuilderF 80 5 w.heap.size w.heap.size _ W1) := Or.inr h1
          clear h1 b1 k1
          go_wp2_with fail
          refine (writeRune_k w.heap.size w.heap.size _ _ (by omega) (by omega) _ H1.out (by rw [List.length_append]; simp; omega) hsz3).mono ?_
          rintro e W2 ⟨rfl, h2, b2, k2⟩
          have HI4 := Lib.hid (k2.iter HI3.out (by omega))
          have HB4 := Lib.hid (HB3.out.trans b2)
          have H2 := Lib.hid (FIN.out W2 h2)
          clear h2 b2 k2
          go_wp2_with fail
          go_roundw
          case rel => exact ⟨pos + d.2, pre ++ [d], HW2.out, H2.out, HI4.out, HB4.out⟩
          case measure => rw [HP.out]; simp only [World.iterPos, HI4.out]; omega
      · have HQ : Hid (Lib.byteCells (quoR d) = Lib.runeCells (d.1 : Int)) := by
          show _ = _; rw [quoR, if_neg h44, List.nil_append, Lib.byteCells_encodeRune]
        have hn1 : ((d.1 : Int) == 44) = false := by rw [beq_eq_false_iff_ne]; omega
        have hn2 : ((d.1 : Int) == 92) = false := by rw [beq_eq_false_iff_ne]; omega
        have hbl : (Lib.byteCells acc).length ≤ 5 * pre.length := by rw [Lib.byteCells_length]; exact hflat
        clear h44
        go_wp2_with fail
        refine (writeRune_k w.heap.size w.heap.size _ _ (by omega) (by omega) _ HI2.out (by omega) hsz2).mono ?_
        rintro e W2 ⟨rfl, h2, b2, k2⟩
        have HI4 := Lib.hid (k2.iter HIT2.out (by omega))
        have HB4 := Lib.hid (HBW2.out.trans b2)
        have H2 : Hid (Lib.IsBuilderF 80 5 w.heap.size w.heap.size (Lib.byteCells ((pre ++ [d]).flatMap quoR)) W2) := by
          show Lib.IsBuilderF _ _ _ _ _ _
          rw [HFM.out, Lib.byteCells_append, HQ.out]; exact Or.inr h2
        clear h2 b2 k2
        go_wp2_with fail
        go_roundw
        case rel => exact ⟨pos + d.2, pre ++ [d], HW2.out, H2.out, HI4.out, HB4.out⟩
        case measure => rw [HP.out]; simp only [World.iterPos, HI4.out]; omega
    · have hnx : ∀ ty, (Instr.next (.pointer (some ⟨w.heap.size + 1, 0, none⟩)) true ty).run Tryd.prog wr = _ := fun ty => Lib.run_next_end_at wr (w.heap.size + 1) s pos ty hit hp
      have HE : Hid (quoB (tx s) = pre.flatMap quoR) := by show _ = _; rw [quoB, HW.out.done hp]
      go_wp2_with fail
      refine (bString_k w.heap.size w.heap.size (pre.flatMap quoR) _ hI (by omega)).mono ?_
      rintro e W1 ⟨rfl, _, b1, _⟩
      go_wp2_with fail
      go_ret
      exact ⟨by rw [HE.out]; rfl, hbw.trans b1⟩
end Go.Proofs.YtlcpigkgbihebaaDoor

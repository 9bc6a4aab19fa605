/-
  The walk of the law aviarylaw06.ExactOwn: call by call, each callee by its contract; and the plain law behind it.
-/
import Derived.Test.YtdobgfadnenhaaaExactShown
import Derived.Test.YtdobgfadnenhaaaExactLaws
import Derived.Test.YtdobgfadnenhaaaGrow
namespace Go.Proofs.Ytdobgfadnenhaaa
open Go.RowKit
set_option linter.unusedVariables false

theorem isSome_setCell (w : World) (p q : Addr) (v : Value) (h : (w.cell? q).isSome = true) : ((w.setCell p v).cell? q).isSome = true := by
  by_cases e : q = p
  · subst e
    obtain ⟨u, hu⟩ := Option.isSome_iff_exists.1 h
    rw [World.cell?_setCell_same' _ _ _ (by rw [hu]; rfl)]; rfl
  · rw [World.cell?_setCell_other _ _ _ _ (fun h => e h.symm)]; exact h
theorem sl_apart {w w' : World} {B : Nat} {A : Option Addr} {l : List Int} {row : Option Nat} (h : Sl w B A l) (hB : B ≤ w.heap.size) (hg : w.grownBy w' row) (hne : ∀ b off, A = some ⟨b, off, none⟩ → b < B → some b ≠ row) : Sl w' w'.heap.size A l := fun hl => by
  obtain ⟨b, off, e, hb, hc⟩ := h hl
  exact ⟨b, off, e, by have := hg.size; omega, fun j v hj => (World.cell?_of_block (hg.block b (by omega) (hne b off e hb))).trans (hc j v hj)⟩
theorem boxed_apart {w w' : World} {b : Nat} {t : TypeId} {v : Value} {row : Option Nat} (h : Boxed w b t v) (hg : w.grownBy w' row) (hne : some b ≠ row) : Boxed w' b t v := h.kept hg hne
theorem mergeF_none {l : List Int} (h : rightB l = true) : mergeF l [] = (l, 0) := by
  rw [mergeF_eq h right_nil]
  show cut64 l = _
  rw [cut64, if_pos (right_len h)]

set_option maxHeartbeats 4000000 in
theorem own_walk (w : World) (n0 cap0 : Nat) (a0 : Option Addr) (x0 : List Int) (hS0 : Sl w w.heap.size a0 x0)
    (hk0 : (if (60 : Int) < (n0 : Int) then (60 : Int) else (n0 : Int)) = (x0.length : Int)) (hq0 : x0.length ≤ cap0) (h0 : x0.length ≤ 60) :
    Calls Try.prog 8 #[.slice a0 n0 cap0] w fun e w' => e = .returned (.bool true) ∧ Below w.heap.size w w' := by
  have P0 := Lib.hid hS0
  clear hS0
  go_enter Try.func8, Try.ntmps8
  go_wp2_with fail
  refine (shown_any _).mono ?_
  rintro e w0 ⟨rfl, hb0⟩
  have Dw0 : Below w.heap.size w w0 := Below.two (below_0 w) hb0
  replace P0 := Lib.hid (P0.out.later Dw0)
  have Tw0 := Dw0
  go_wp2_with fail
  refine (of_tot _ cap0 a0 x0 (by exact P0.out.later (below_0 w0)) (by omega)).mono ?_
  rintro e w1 ⟨hb1, v1, rfl, hh1⟩
  obtain ⟨A1, c1, rfl, hc1, hA1, hS1, hF1⟩ := hh1
  have Dw1 : Below w0.heap.size w0 w1 := Below.two (below_0 w0) hb1
  replace P0 := Lib.hid (P0.out.later Dw1)
  have Tw1 := Below.two Tw0 Dw1
  have S1 := Lib.hid hS1
  clear hA1 hF1 hS1
  have X1 := Lib.hid (Boxed.new w1 24 (.slice A1 ((ofF x0).1).length c1))
  have kX1 := True.intro
  have zX1 := True.intro
  have SO1 : Hid (Sl w1 w1.heap.size A1 (ofF x0).1) := S1.out
  go_wp2_with fail
  refine (merge_tot _ c1 0 A1 none (ofF x0).1 [] (by exact S1.out.later (below_al (below_0 w1) _)) (by exact Sl.nil) (by have := right_len (ofF_right x0); omega) (by simp)).mono ?_
  rintro e w2 ⟨hb2, v2, rfl, hh2⟩
  obtain ⟨A2, c2, rfl, hc2, hA2, hS2, hF2⟩ := hh2
  clear kX1 zX1
  have Dw2 : Below w1.heap.size w1 w2 := Below.two (below_al (below_0 w1) _) hb2
  replace P0 := Lib.hid (P0.out.later Dw2)
  replace S1 := Lib.hid (S1.out.later Dw2)
  replace X1 := Lib.hid (boxed_below X1.out hb2)
  have Tw2 := Below.two Tw1 Dw2
  have S2 := Lib.hid hS2
  have FR2 := Lib.hid hF2
  clear hA2 hF2 hS2
  have X2 := Lib.hid (Boxed.new w2 24 (.slice A2 ((mergeF (ofF x0).1 []).1).length c2))
  have kX1 := X1.out.cell
  have zX1 := X1.out.lt
  have kX2 := True.intro
  have zX2 := True.intro
  replace SO1 := Lib.hid (SO1.out.below Dw2)
  have hz12 : w1.heap.size + 1 ≤ w2.heap.size := by have := hb2.size; simpa using this
  go_wp2_with fail
  refine (merge_tot _ c1 c1 A1 A1 (ofF x0).1 (ofF x0).1 (by exact S1.out.later (below_al (below_0 w2) _)) (by exact S1.out.later (below_al (below_0 w2) _)) (by have := right_len (ofF_right x0); omega) (by have := right_len (ofF_right x0); omega)).mono ?_
  rintro e w3 ⟨hb3, v3, rfl, hh3⟩
  obtain ⟨A3, c3, rfl, hc3, hA3, hS3, hF3⟩ := hh3
  clear kX1 zX1 kX2 zX2
  have Dw3 : Below w2.heap.size w2 w3 := Below.two (below_al (below_0 w2) _) hb3
  replace P0 := Lib.hid (P0.out.later Dw3)
  replace S1 := Lib.hid (S1.out.later Dw3)
  replace S2 := Lib.hid (S2.out.later Dw3)
  replace X1 := Lib.hid (boxed_below X1.out Dw3)
  replace X2 := Lib.hid (boxed_below X2.out hb3)
  have Tw3 := Below.two Tw2 Dw3
  have S3 := Lib.hid hS3
  have FR3 := Lib.hid hF3
  clear hA3 hF3 hS3
  have X3 := Lib.hid (Boxed.new w3 24 (.slice A3 ((mergeF (ofF x0).1 (ofF x0).1).1).length c3))
  have kX1 := X1.out.cell
  have zX1 := X1.out.lt
  have kX2 := X2.out.cell
  have zX2 := X2.out.lt
  have kX3 := True.intro
  have zX3 := True.intro
  replace SO1 := Lib.hid (SO1.out.keep (fun b o hb => (Dw3.cell (p := ⟨b, o, none⟩) (by show b < w2.heap.size; omega))))
  have hz23 : w2.heap.size + 1 ≤ w3.heap.size := by have := hb3.size; simpa using this
  have FRY := Lib.hid (FR2.out.later Dw3)
  have hY : ∀ ad, A2 = some ad → w1.heap.size + 1 ≤ ad.block ∧ ad.block < w2.heap.size := fun ad e => by
    obtain ⟨h1, cs, t, h2⟩ := FR2.out ad e
    exact ⟨by simpa using h1, heap_lt h2⟩
  have HY := Lib.hid hY
  clear hY
  have em : mergeF (ofF x0).1 [] = ((ofF x0).1, 0) := mergeF_none (ofF_right x0)
  have es : mergeF (ofF x0).1 (ofF x0).1 = ((ofF x0).1, 0) := mergeF_self (ofF_right x0)
  have t1 : ((ofF x0).2 == 0) = true := by rw [ofF_short (by omega)]; rfl
  have t2 : ((mergeF (ofF x0).1 []).2 == 0) = true := by rw [em]; rfl
  have t3 : ((mergeF (ofF x0).1 (ofF x0).1).2 == 0) = true := by rw [es]; rfl
  have HE : Hid (eqB (ofF x0).1 (mergeF (ofF x0).1 (ofF x0).1).1 = true) := by show eqB _ _ = true; rw [es]; simp [eqB]
  have hlen : (mergeF (ofF x0).1 []).1.length ≤ 64 := right_len (mergeF_right _ _)
  clear em es
  go_wp2_with fail
  obtain ⟨W0, hW0⟩ : ∃ W0, w3.alloc (.cells #[.slice A3 (mergeF (ofF x0).1 (ofF x0).1).1.length c3] 24) = W0 := ⟨_, rfl⟩
  have DW : Below w3.heap.size w3 W0 := by rw [← hW0]; exact below_al (below_0 _) _
  replace X3 : Hid (Boxed W0 w3.heap.size 24 (.slice A3 (mergeF (ofF x0).1 (ofF x0).1).1.length c3)) := by rw [← hW0]; exact X3.out
  replace X1 := Lib.hid (boxed_below X1.out DW)
  replace X2 := Lib.hid (boxed_below X2.out DW)
  replace S2 := Lib.hid (S2.out.later DW)
  have S3o : Hid (Sl W0 W0.heap.size A3 (mergeF (ofF x0).1 (ofF x0).1).1) := S3.out.later DW
  replace SO1 := Lib.hid (SO1.out.keep (fun b o hb => (DW.cell (p := ⟨b, o, none⟩) (by show b < w3.heap.size; omega))))
  replace FRY := Lib.hid (FRY.out.later DW)
  have TW := Below.two Tw3 DW
  have hsw : w3.heap.size < W0.heap.size := X3.out.lt
  have hs1 : w.heap.size ≤ w1.heap.size := Tw1.size
  rw [hW0]
  clear hW0 kX1 kX2 kX3 zX1 zX2 zX3
  go_loopw [10] (fun i wr => ∃ k : Nat, k ≤ (mergeF (ofF x0).1 []).1.length ∧ i = .int .i64 k ∧ W0.grownBy wr (A2.map (·.block)) ∧ (∀ b off, A2 = some ⟨b, off, none⟩ → ∀ j, j < (mergeF (ofF x0).1 []).1.length → (wr.cell? ⟨b, off + j, none⟩).isSome = true) ∧ Fresh wr (w1.heap.size + 1) A2) (fun i _ => (mergeF (ofF x0).1 []).1.length - (intOf i).toNat)
  case atStart =>
    refine ⟨0, Nat.zero_le _, rfl, World.grownBy.refl _ _, fun b off e j hj => ?_, by simpa using FRY.out⟩
    obtain ⟨b2, off2, e2, _, hc2⟩ := S2.out.at_ (by omega)
    rw [e] at e2; cases e2
    rw [hc2 j hj]; rfl
  case round =>
    obtain ⟨k, hk, rfl, hG, hI, hF⟩ := hrel
    have hne2 : some w2.heap.size ≠ A2.map (·.block) := by
      cases A2 with
      | none => simp
      | some ad => have := HY.out ad rfl; simp; omega
    have BY := Lib.hid (boxed_apart X2.out hG hne2)
    have hkY := BY.out.cell
    have hzY := BY.out.lt
    by_cases hlt : k < (mergeF (ofF x0).1 []).1.length
    · obtain ⟨b, off, rfl, hb, _⟩ := S2.out.at_ (by omega)
      obtain ⟨v, hv⟩ := Option.isSome_iff_exists.1 (hI b off rfl k hlt)
      have hfz := hF.frozen (off + k)
      have hbne : b ≠ w2.heap.size := by have := HY.out _ rfl; simp at this; omega
      have hlti : (k : Int) < ((mergeF (ofF x0).1 []).1.length : Int) := by omega
      have HI := Lib.hid hI
      have HF := Lib.hid hF
      clear hI hF hne2
      go_wp2_with fail
      go_roundw
      case rel => exact ⟨k + 1, by omega, by go_num, grow_set hG _, fun b' off' e j hj => by cases e; exact isSome_setCell _ _ _ _ (HI.out _ _ rfl j hj), HF.out.set _ _⟩
      case measure => simp [intOf]; omega
    · have hne1 : some w1.heap.size ≠ A2.map (·.block) := by
        cases A2 with
        | none => simp
        | some ad => have := HY.out ad rfl; simp; omega
      have hne3 : some w3.heap.size ≠ A2.map (·.block) := by
        cases A2 with
        | none => simp
        | some ad => have := HY.out ad rfl; simp; omega
      have B1 := Lib.hid (boxed_apart X1.out hG hne1)
      have B3 := Lib.hid (boxed_apart X3.out hG hne3)
      have Z1 : Hid (Sl wr wr.heap.size A1 (ofF x0).1) := sl_apart SO1.out (by omega) hG (fun b off e hb e' => by
        cases A2 with
        | none => cases e'
        | some ad => have := HY.out ad rfl; simp at e'; omega)
      have Z3 : Hid (Sl wr wr.heap.size A3 (mergeF (ofF x0).1 (ofF x0).1).1) := sl_apart S3o.out (Nat.le_refl _) hG (fun b off e hb e' => by
        have h3 := (FR3.out _ e).1
        simp at h3
        cases A2 with
        | none => cases e'
        | some ad => have := HY.out ad rfl; simp at e'; omega)
      have TZ : Below w.heap.size w wr := TW.grown hG TW.size (fun k e => by
        cases A2 with
        | none => cases e
        | some ad => have := HY.out ad rfl; simp at e; omega)
      have k1 := B1.out.cell
      have z1 := B1.out.lt
      have k3 := B3.out.cell
      have z3 := B3.out.lt
      clear hI hF hne1 hne2 hne3
      go_wp2_with fail
      refine (same_any _ c1 c3 A1 A3 (ofF x0).1 (mergeF (ofF x0).1 (ofF x0).1).1 (by exact Z1.out) (by exact Z3.out) (by have := right_len (ofF_right x0); omega) (by have := right_len (mergeF_right (ofF x0).1 (ofF x0).1); omega)).mono ?_
      rw [HE.out]
      rintro e w9 ⟨rfl, hb9⟩
      go_wp2_with fail
      go_ret
      exact ⟨rfl, Below.two TZ hb9⟩
end Go.Proofs.Ytdobgfadnenhaaa

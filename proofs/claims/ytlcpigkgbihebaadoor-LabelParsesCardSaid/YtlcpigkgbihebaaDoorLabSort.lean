/-
  slices.SortFunc over a few labels.
-/
import Derived.Test.YtlcpigkgbihebaaDoorLabOrder
import Derived.Test.YtlcpigkgbihebaaDoorLabEnd
import Derived.Test.YtlcpigkgbihebaaDoorQuiet
import Derived.IntWalk
namespace Go.Proofs.YtlcpigkgbihebaaDoor
open Go.RowKit
set_option linter.unusedVariables false
set_option linter.unusedSimpArgs false
def cmpI (a b : List UInt8) : Int := if lsB a b = true then -1 else if a = b then 0 else 1
theorem isNaN_any (a : ByteArray) (w : World) : Calls Tryd.prog 48 #[.string a] w fun e w' => e = .returned (.bool false) ∧ w = w' := by
  have e1 : (a.toList == a.toList) = true := by simp
  go_enter Tryd.func48, Tryd.ntmps48
  go_wp2_with fail
  go_ret
  exact ⟨rfl, rfl⟩
theorem compare_any (a b : ByteArray) (w : World) : Calls Tryd.prog 30 #[.string a, .string b] w fun e w' => e = .returned (.int .i64 (cmpI (tx a) (tx b))) ∧ w = w' := by
  cases h : lsB (tx a) (tx b) with
  | true =>
    have hl : Op.bytesLess a.toList b.toList = true := by rw [tx_toList, tx_toList]; exact h
    have HE : Hid (cmpI (tx a) (tx b) = -1) := by show _ = _; rw [cmpI, if_pos h]
    clear h
    go_enter Tryd.func30, Tryd.ntmps30
    go_wp2_with fail
    refine (isNaN_any a _).mono ?_
    rintro e w' ⟨rfl, rfl⟩
    go_wp2_with fail
    refine (isNaN_any b _).mono ?_
    rintro e w' ⟨rfl, rfl⟩
    go_wp2_with fail
    go_ret
    exact ⟨by rw [HE.out]; rfl, rfl⟩
  | false =>
    have hl : Op.bytesLess a.toList b.toList = false := by rw [tx_toList, tx_toList]; exact h
    by_cases e : tx a = tx b
    · have he : (a.toList == b.toList) = true := by rw [tx_toList, tx_toList, e]; simp
      have HE : Hid (cmpI (tx a) (tx b) = 0) := by show _ = _; rw [cmpI, if_neg (by rw [h]; simp), if_pos e]
      clear h e
      go_enter Tryd.func30, Tryd.ntmps30
      go_wp2_with fail
      refine (isNaN_any a _).mono ?_
      rintro e w' ⟨rfl, rfl⟩
      go_wp2_with fail
      refine (isNaN_any b _).mono ?_
      rintro e w' ⟨rfl, rfl⟩
      go_wp2_with fail
      go_ret
      exact ⟨by rw [HE.out]; rfl, rfl⟩
    · have he : (a.toList == b.toList) = false := by rw [tx_toList, tx_toList]; simpa using e
      have HE : Hid (cmpI (tx a) (tx b) = 1) := by show _ = _; rw [cmpI, if_neg (by rw [h]; simp), if_neg e]
      clear h e
      go_enter Tryd.func30, Tryd.ntmps30
      go_wp2_with fail
      refine (isNaN_any a _).mono ?_
      rintro e w' ⟨rfl, rfl⟩
      go_wp2_with fail
      refine (isNaN_any b _).mono ?_
      rintro e w' ⟨rfl, rfl⟩
      go_wp2_with fail
      go_ret
      exact ⟨by rw [HE.out]; rfl, rfl⟩
theorem cmpF_any (x y : Lab) (w : World) : Calls Tryd.prog 29 #[.agg #[.string x.1, .string x.2], .agg #[.string y.1, .string y.2]] w fun e w' => e = .returned (.int .i64 (cmpI (tx x.1) (tx y.1))) ∧ Below w.heap.size w w' := by
  have T : Below w.heap.size w ((w.alloc (.cells #[.string x.1, .string x.2] 41)).alloc (.cells #[.string y.1, .string y.2] 41)) := below_al (below_al (below_0 _) _) _
  have Q := Lib.hid (fun w => compare_any x.1 y.1 w)
  generalize cmpI (tx x.1) (tx y.1) = c at *
  go_enter Tryd.func29, Tryd.ntmps29
  go_wp2_with fail
  refine (Q.out _).mono ?_
  rintro e w' ⟨rfl, rfl⟩
  go_wp2_with fail
  go_ret
  exact ⟨rfl, T⟩
theorem cmpI_lt (a b : List UInt8) : decide (cmpI a b < 0) = lsB a b := by
  unfold cmpI
  cases h : lsB a b with
  | true => rfl
  | false => rw [if_neg (by simp)]; split <;> rfl
/-- Labels in a row of the call's own, in some order of l. -/
def SortI (B r cap : Nat) (l : List Lab) (w : World) (cur : List Lab) (wr : World) : Prop :=
  cur.Perm l ∧ wr.ownsRow B 41 2 (.slice (some ⟨r, 0, none⟩) cur.length cap) cur.length (flatL cur) ∧ Below B w wr
-- INS
theorem SortI.cell {B r cap : Nat} {l : List Lab} {w : World} {cur : List Lab} {wr : World} (h : SortI B r cap l w cur wr) {j : Nat} (hj : j < cur.length) : wr.cell? ⟨r, j * 2, none⟩ = some (.string (lth cur j).1) ∧ wr.cell? ⟨r, j * 2 + 1, none⟩ = some (.string (lth cur j).2) := by
  obtain ⟨h1, h2⟩ := flatL_at cur j hj
  exact ⟨(h.2.1.cellAt (j * 2) (by omega)).trans h1, (h.2.1.cellAt (j * 2 + 1) (by omega)).trans h2⟩
theorem SortI.lt {B r cap : Nat} {l : List Lab} {w : World} {cur : List Lab} {wr : World} (h : SortI B r cap l w cur wr) : r < wr.heap.size ∧ B ≤ r := by
  have := h.2.1.lt r rfl
  exact ⟨this.2, this.1⟩
theorem SortI.later {B r cap : Nat} {l : List Lab} {w : World} {cur : List Lab} {wr w' : World} (h : SortI B r cap l w cur wr) (hb : Below wr.heap.size wr w') : SortI B r cap l w cur w' := by
  refine ⟨h.1, h.2.1.kept (row := none) ⟨hb.os, hb.tape, hb.output, hb.size, fun i hi _ => hb.block i hi⟩ (.inr (by simp [Value.ownBlock])), h.2.2.trans (hb.mono (by have := h.lt; omega))⟩
theorem SortI.swap {B r cap : Nat} {l : List Lab} {w : World} {cur : List Lab} {wr : World} (h : SortI B r cap l w cur wr) {j : Nat} (h0 : 0 < j) (hj : j < cur.length) :
    SortI B r cap l w (swapL cur j) ((((wr.setCell ⟨r, j * 2, none⟩ (.string (lth cur (j - 1)).1)).setCell ⟨r, j * 2 + 1, none⟩ (.string (lth cur (j - 1)).2)).setCell ⟨r, (j - 1) * 2, none⟩ (.string (lth cur j).1)).setCell ⟨r, (j - 1) * 2 + 1, none⟩ (.string (lth cur j).2)) := by
  have hB := h.lt.2
  refine ⟨(perm_swap h0 hj).trans h.1, ?_, (((h.2.2.setCell hB _).setCell hB _).setCell hB _).setCell hB _⟩
  have := ((((h.2.1.stored (j * 2) (.string (lth cur (j - 1)).1)).1.stored (j * 2 + 1) (.string (lth cur (j - 1)).2)).1.stored ((j - 1) * 2) (.string (lth cur j).1)).1.stored ((j - 1) * 2 + 1) (.string (lth cur j).2)).1
  rw [flatL_set, flatL_set] at this
  rw [swapL_len]
  exact this
def SortEnd (B r cap : Nat) (l : List Lab) (w w' : World) : Prop := ∃ cur, SortI B r cap l w cur w' ∧ Srt cur cur.length
set_option maxRecDepth 100000 in
set_option maxHeartbeats 4000000 in
theorem insSort_any (B r cap : Nat) (l : List Lab) (hl : l.length ≤ 12) (w : World) (h0 : SortI B r cap l w l w) :
    Calls Tryd.prog 63 #[.slice (some ⟨r, 0, none⟩) l.length cap, .int .i64 0, .int .i64 l.length, .func (.func 29) #[] #[]] w fun e w' => (∃ v, e = .returned v) ∧ SortEnd B r cap l w w' := by
  have H0 := Lib.hid h0
  clear h0
  go_enter Tryd.func63, Tryd.ntmps63
  go_wp2_with fail
  go_loopw [8] (fun i wr => ∃ (k : Nat) (cur : List Lab), i = .int .i64 ((k : Int) + 1) ∧ k ≤ l.length ∧ Hid (Srt cur (k + 1)) ∧ Hid (SortI B r cap l w cur wr)) (fun i _ => l.length + 1 - (RowKit.intOf i).toNat)
  case atStart => exact ⟨0, l, by simp, Nat.zero_le _, (fun a b h1 h2 => by omega), H0.out⟩
  case round =>
    obtain ⟨k, cur, rfl, hk, HS, HI⟩ := hrel
    have hcl := HI.out.1.length_eq
    by_cases hlt : k + 1 < l.length
    · have dlt : decide ((k : Int) + 1 < (l.length : Int)) = true := by simp; omega
      have HM := Lib.hid (Mid.start HS.out (by omega))
      have HCL := Lib.hid hcl
      clear hcl HS
      go_wp2_with fail
      obtain ⟨wo, rfl⟩ : ∃ wo : World, wo = wr := ⟨_, rfl⟩
      go_loopw [9] (fun j wr => ∃ (q : Nat) (cu : List Lab), j = .int .i64 (q : Int) ∧ q ≤ k + 1 ∧ Hid (Mid cu (k + 1) q) ∧ Hid (SortI B r cap l w cu wr)) (fun j _ => (RowKit.intOf j).toNat)
      case atStart => exact ⟨k + 1, cur, by simp, Nat.le_refl _, HM.out, HI.out⟩
      case round =>
        clear HM HI
        obtain ⟨q, cu, rfl, hq, HM, HI⟩ := hrel
        have hcl := HI.out.1.length_eq
        rcases q with _ | p
        · have HSN : Hid (Srt cu (k + 1 + 1)) := HM.out.done (.inl rfl)
          clear HM HCL hcl
          simp only [Int.natCast_zero]
          go_wp2_with fail
          go_quiet (fail)
          go_wp2_with fail
          go_roundw
          case rel => exact ⟨k + 1, cu, by simp, by omega, HSN.out, HI.out.later (below_drewN (below_0 _) _)⟩
          case measure => simp [RowKit.intOf]; omega
        · have hp1 : p + 1 < cu.length := by omega
          obtain ⟨c1, c2⟩ := HI.out.cell hp1
          obtain ⟨c3, c4⟩ := HI.out.cell (show p < cu.length by omega)
          obtain ⟨hrlt, hBr⟩ := HI.out.lt
          rw [show ((p + 1 : Nat) : Int) = (p : Int) + 1 from by omega]
          have F1 := After.cell c1 hrlt
          have F2 := After.cell c2 hrlt
          have F3 := After.cell c3 hrlt
          have F4 := After.cell c4 hrlt
          haveI := After.some wr
          have C1 : Hid (∀ y : After wr, Calls Tryd.prog 29 #[.agg #[.string (lth cu (p + 1)).1, .string (lth cu (p + 1)).2], .agg #[.string (lth cu p).1, .string (lth cu p).2]] y.at_ fun e w' => e = .returned (.int .i64 (cmpI (tx (lth cu (p + 1)).1) (tx (lth cu p).1))) ∧ Below y.at_.heap.size y.at_ w') := fun y => cmpF_any (lth cu (p + 1)) (lth cu p) y.at_
          have HLT : Hid (decide (cmpI (tx (lth cu (p + 1)).1) (tx (lth cu p).1) < 0) = ahead (lth cu (p + 1)) (lth cu p)) := cmpI_lt _ _
          have hi1 : (0 : Int) ≤ (p : Int) := by omega
          have hi2 : (p : Int) + 1 < (l.length : Int) := by omega
          have hi5 : (0 : Int) ≤ (p : Int) + 1 := by omega
          have hi3 : (p : Int) < (l.length : Int) := by omega
          have hi4 : decide ((0 : Int) < (p : Int) + 1) = true := decide_eq_true (by omega)
          have HCL2 := Lib.hid hcl
          have HSW : Hid (ahead (lth cu (p + 1)) (lth cu p) = true → Mid (swapL cu (p + 1)) (k + 1) p) := fun h => HM.out.swap (by omega) h
          have HDN : Hid (ahead (lth cu (p + 1)) (lth cu p) = false → Srt cu (k + 1 + 1)) := fun h => HM.out.done (.inr h)
          have HSI : Hid (∀ w9, Below wr.heap.size wr w9 → SortI B r cap l w (swapL cu (p + 1)) ((((w9.setCell ⟨r, (p + 1) * 2, none⟩ (.string (lth cu p).1)).setCell ⟨r, (p + 1) * 2 + 1, none⟩ (.string (lth cu p).2)).setCell ⟨r, p * 2, none⟩ (.string (lth cu (p + 1)).1)).setCell ⟨r, p * 2 + 1, none⟩ (.string (lth cu (p + 1)).2))) := fun w9 h => (HI.out.later h).swap (by omega) hp1
          have HFZ : Hid (∀ w9, Below wr.heap.size wr w9 → ∀ o, w9.frozen? ⟨r, o, none⟩ = false) := fun w9 h o => (HI.out.later h).2.1.frozenAt o
          generalize lth cu (p + 1) = x at *
          generalize lth cu p = y at *
          generalize cmpI (tx x.1) (tx y.1) = c at *
          clear hcl HCL HM
          cases hc : ahead x y with
          | true =>
            rw [hc] at HLT
            have hlt0 : decide (c < 0) = true := HLT.out
            have HSW2 := Lib.hid (HSW.out hc)
            clear hc HSW HDN
            go_wp2_with fail
            refine wp_region_below (by kernel_rfl) (by kernel_rfl) ?_
            repeat (go_big_quiet_step (with_reducible exact after_calls (C1.out _)))
            refine wpQuiet_nil ?_
            rintro w9 ⟨⟨w8, hb9⟩, h9⟩
            obtain rfl : w9 = w8 := h9
            have d1 := (hb9.cell (p := ⟨r, (p + 1) * 2, none⟩) hrlt).trans c1
            have d2 := (hb9.cell (p := ⟨r, (p + 1) * 2 + 1, none⟩) hrlt).trans c2
            have d3 := (hb9.cell (p := ⟨r, p * 2, none⟩) hrlt).trans c3
            have d4 := (hb9.cell (p := ⟨r, p * 2 + 1, none⟩) hrlt).trans c4
            have f1 := HFZ.out w9 hb9 ((p + 1) * 2)
            have f2 := HFZ.out w9 hb9 ((p + 1) * 2 + 1)
            have f3 := HFZ.out w9 hb9 (p * 2)
            have f4 := HFZ.out w9 hb9 (p * 2 + 1)
            have HS9 := Lib.hid (HSI.out w9 hb9)
            have hr9 : r < w9.heap.size := by have := hb9.size; omega
            clear HSI HFZ C1 F1 F2 F3 F4 c1 c2 c3 c4 hb9 HI
            go_wp2_with fail
            refine wp_region_U (S := fun w' => w'.cell? ⟨r, (p + 1) * 2, none⟩ = some (.string x.1) ∧ w'.cell? ⟨r, (p + 1) * 2 + 1, none⟩ = some (.string x.2) ∧ w'.cell? ⟨r, p * 2, none⟩ = some (.string y.1) ∧ w'.cell? ⟨r, p * 2 + 1, none⟩ = some (.string y.2)) (s := 15) (by kernel_rfl) ?_
            refine wpAnyU_take (i := 0) (v := (.slice (some ⟨r, 0, none⟩) l.length cap)) rfl (by kernel_rfl) (by kernel_rfl) (by kernel_rfl) (by kernel_rfl) (by decide) (by kernel_rfl) (fun _ _ _ h => h) (Or.inl ⟨by rfl, ?_⟩) ⟨d1, d2, d3, d4⟩ ?_
            · (intro w hSw; (try dsimp only at hSw); obtain ⟨s0, s1, s2, s3⟩ := hSw; go_simp)
            simp only [Act.put, List.setIfInBounds_toArray, List.set_cons_zero, List.set_cons_succ]
            refine wpAnyU_take (i := 1) (v := (.int .i64 ((p : Int) + 1))) rfl (by kernel_rfl) (by kernel_rfl) (by kernel_rfl) (by kernel_rfl) (by decide) (by kernel_rfl) (fun _ _ _ h => h) (Or.inl ⟨by rfl, ?_⟩) ⟨d1, d2, d3, d4⟩ ?_
            · (intro w hSw; (try dsimp only at hSw); obtain ⟨s0, s1, s2, s3⟩ := hSw; go_simp)
            simp only [Act.put, List.setIfInBounds_toArray, List.set_cons_zero, List.set_cons_succ]
            refine wpAnyU_take (i := 5) (v := (.slice (some ⟨r, 0, none⟩) l.length cap)) rfl (by kernel_rfl) (by kernel_rfl) (by kernel_rfl) (by kernel_rfl) (by decide) (by kernel_rfl) (fun _ _ _ h => h) (Or.inl ⟨by rfl, ?_⟩) ⟨d1, d2, d3, d4⟩ ?_
            · (intro w hSw; (try dsimp only at hSw); obtain ⟨s0, s1, s2, s3⟩ := hSw; go_simp)
            simp only [Act.put, List.setIfInBounds_toArray, List.set_cons_zero, List.set_cons_succ]
            refine wpAnyU_take (i := 6) (v := (.int .i64 ((p : Int) + 1))) rfl (by kernel_rfl) (by kernel_rfl) (by kernel_rfl) (by kernel_rfl) (by decide) (by kernel_rfl) (fun _ _ _ h => h) (Or.inl ⟨by rfl, ?_⟩) ⟨d1, d2, d3, d4⟩ ?_
            · (intro w hSw; (try dsimp only at hSw); obtain ⟨s0, s1, s2, s3⟩ := hSw; go_simp)
            simp only [Act.put, List.setIfInBounds_toArray, List.set_cons_zero, List.set_cons_succ]
            refine wpAnyU_take (i := 7) (v := (.int .i64 (p : Int))) rfl (by kernel_rfl) (by kernel_rfl) (by kernel_rfl) (by kernel_rfl) (by decide) (by kernel_rfl) (fun _ _ _ h => h) (Or.inl ⟨by rfl, ?_⟩) ⟨d1, d2, d3, d4⟩ ?_
            · (intro w hSw; have hwr : IntKind.i64.wrap ((p : Int) + 1 - 1) = (p : Int) := (IntWalk.i64_in _ (by omega)).trans (by omega); have hw2 : IntKind.i64.wrap (p : Int) = (p : Int) := IntWalk.i64_in _ (by omega); go_simp)
            simp only [Act.put, List.setIfInBounds_toArray, List.set_cons_zero, List.set_cons_succ]
            refine wpAnyU_take (i := 8) (v := (.pointer (some ⟨r, p * 2, none⟩))) rfl (by kernel_rfl) (by kernel_rfl) (by kernel_rfl) (by kernel_rfl) (by decide) (by kernel_rfl) (fun _ _ _ h => h) (Or.inl ⟨by rfl, ?_⟩) ⟨d1, d2, d3, d4⟩ ?_
            · (intro w hSw; (try dsimp only at hSw); obtain ⟨s0, s1, s2, s3⟩ := hSw; go_simp)
            simp only [Act.put, List.setIfInBounds_toArray, List.set_cons_zero, List.set_cons_succ]
            refine wpAnyU_take (i := 9) (v := (.agg #[.string y.1, .string y.2])) rfl (by kernel_rfl) (by kernel_rfl) (by kernel_rfl) (by kernel_rfl) (by decide) (by kernel_rfl) (fun _ _ _ h => h) (Or.inl ⟨by rfl, ?_⟩) ⟨d1, d2, d3, d4⟩ ?_
            · (intro w hSw; (try dsimp only at hSw); obtain ⟨s0, s1, s2, s3⟩ := hSw; go_simp)
            simp only [Act.put, List.setIfInBounds_toArray, List.set_cons_zero, List.set_cons_succ]
            refine wpAnyU_take0 (i := 10) (v := (.slice (some ⟨r, 0, none⟩) l.length cap)) rfl (by kernel_rfl) (by kernel_rfl) (by kernel_rfl) (by decide) (fun _ _ _ h => h) (Or.inl ⟨by rfl, ?_⟩) (fun _ => ⟨d1, d2, d3, d4⟩) ?_
            · (intro w hSw; go_simp)
            simp only [Act.put, List.setIfInBounds_toArray, List.set_cons_zero, List.set_cons_succ]
            refine wpAnyU_take0 (i := 11) (v := (.int .i64 ((p : Int) + 1))) rfl (by kernel_rfl) (by kernel_rfl) (by kernel_rfl) (by decide) (fun _ _ _ h => h) (Or.inl ⟨by rfl, ?_⟩) (fun _ => ⟨d1, d2, d3, d4⟩) ?_
            · (intro w hSw; go_simp)
            simp only [Act.put, List.setIfInBounds_toArray, List.set_cons_zero, List.set_cons_succ]
            refine wpAnyU_take0 (i := 12) (v := (.pointer (some ⟨r, (p + 1) * 2, none⟩))) rfl (by kernel_rfl) (by kernel_rfl) (by kernel_rfl) (by decide) (fun _ _ _ h => h) (Or.inl ⟨by rfl, ?_⟩) (fun _ => ⟨d1, d2, d3, d4⟩) ?_
            · (intro w hSw; go_simp)
            simp only [Act.put, List.setIfInBounds_toArray, List.set_cons_zero, List.set_cons_succ]
            refine wpAnyU_take (i := 13) (v := (.agg #[.string x.1, .string x.2])) rfl (by kernel_rfl) (by kernel_rfl) (by kernel_rfl) (by kernel_rfl) (by decide) (by kernel_rfl) (fun _ _ _ h => h) (Or.inl ⟨by rfl, ?_⟩) ⟨d1, d2, d3, d4⟩ ?_
            · (intro w hSw; (try dsimp only at hSw); obtain ⟨s0, s1, s2, s3⟩ := hSw; go_simp)
            simp only [Act.put, List.setIfInBounds_toArray, List.set_cons_zero, List.set_cons_succ]
            refine wpAnyU_take0 (i := 2) (v := (.slice (some ⟨r, 0, none⟩) l.length cap)) rfl (by kernel_rfl) (by kernel_rfl) (by kernel_rfl) (by decide) (fun _ _ _ h => h) (Or.inl ⟨by rfl, ?_⟩) (fun _ => ⟨d1, d2, d3, d4⟩) ?_
            · (intro w hSw; go_simp)
            simp only [Act.put, List.setIfInBounds_toArray, List.set_cons_zero, List.set_cons_succ]
            refine wpAnyU_take0 (i := 3) (v := (.int .i64 ((p : Int) + 1))) rfl (by kernel_rfl) (by kernel_rfl) (by kernel_rfl) (by decide) (fun _ _ _ h => h) (Or.inl ⟨by rfl, ?_⟩) (fun _ => ⟨d1, d2, d3, d4⟩) ?_
            · (intro w hSw; go_simp)
            simp only [Act.put, List.setIfInBounds_toArray, List.set_cons_zero, List.set_cons_succ]
            refine wpAnyU_take0 (i := 4) (v := (.int .i64 (p : Int))) rfl (by kernel_rfl) (by kernel_rfl) (by kernel_rfl) (by decide) (fun _ _ _ h => h) (Or.inl ⟨by rfl, ?_⟩) (fun _ => ⟨d1, d2, d3, d4⟩) ?_
            · (intro w hSw; have hwr : IntKind.i64.wrap ((p : Int) + 1 - 1) = (p : Int) := (IntWalk.i64_in _ (by omega)).trans (by omega); have hw2 : IntKind.i64.wrap (p : Int) = (p : Int) := IntWalk.i64_in _ (by omega); go_simp)
            simp only [Act.put, List.setIfInBounds_toArray, List.set_cons_zero, List.set_cons_succ]
            refine wpAnyU_take (i := 14) (v := (.pointer (some ⟨r, (p + 1) * 2, none⟩))) rfl (by kernel_rfl) (by kernel_rfl) (by kernel_rfl) (by kernel_rfl) (by decide) (by kernel_rfl) (fun _ _ _ h => h) (Or.inl ⟨by rfl, ?_⟩) ⟨d1, d2, d3, d4⟩ ?_
            · (intro w hSw; (try dsimp only at hSw); obtain ⟨s0, s1, s2, s3⟩ := hSw; go_simp)
            simp only [Act.put, List.setIfInBounds_toArray, List.set_cons_zero, List.set_cons_succ]
            refine wpAnyU_one (i := 15) (by kernel_rfl) rfl (fun K hK => ?_)
            go_simp
            refine hK.out _ _ (fun h => by cases h) ?_
            clear hK K
            try simp only [Act.put, List.getElem_toArray, List.getElem_cons_succ, List.getElem_cons_zero, List.setIfInBounds_toArray, List.set_cons_zero, List.set_cons_succ]
            refine wpAnyU_one (i := 16) (by kernel_rfl) rfl (fun K hK => ?_)
            go_simp
            refine hK.out _ _ (fun h => by cases h) ?_
            clear hK K
            try simp only [Act.put, List.getElem_toArray, List.getElem_cons_succ, List.getElem_cons_zero, List.setIfInBounds_toArray, List.set_cons_zero, List.set_cons_succ]
            refine wpAnyU_one (i := 17) (by kernel_rfl) rfl (fun K hK => ?_)
            go_simp
            refine hK.out _ _ (fun h => by cases h) ?_
            clear hK K
            try simp only [Act.put, List.getElem_toArray, List.getElem_cons_succ, List.getElem_cons_zero, List.setIfInBounds_toArray, List.set_cons_zero, List.set_cons_succ]
            refine wpAnyU_done (by kernel_rfl) ?_ _
            go_wp2_with fail
            go_roundw
            case rel => exact ⟨p, swapL cu (p + 1), rfl, by omega, HSW2.out, HS9.out.later (below_drewN (below_0 _) 1)⟩
            case measure => simp [RowKit.intOf] <;> omega
          | false =>
            rw [hc] at HLT
            have hlt0 : decide (c < 0) = false := HLT.out
            have HSN := Lib.hid (HDN.out hc)
            clear hc HSW HDN HSI HFZ
            go_wp2_with fail
            refine wp_region_below (by kernel_rfl) (by kernel_rfl) ?_
            repeat (go_big_quiet_step (with_reducible exact after_calls (C1.out _)))
            refine wpQuiet_nil ?_
            rintro w9 ⟨⟨w8, hb9⟩, h9⟩
            obtain rfl : w9 = w8 := h9
            have HI9 := Lib.hid (HI.out.later hb9)
            clear C1 F1 F2 F3 F4 c1 c2 c3 c4 hb9 HI
            go_wp2_with fail
            go_roundw
            case rel => exact ⟨k + 1, cu, by simp, by omega, HSN.out, HI9.out⟩
            case measure => simp [RowKit.intOf]; omega
    · have dlt : decide ((k : Int) + 1 < (l.length : Int)) = false := by simp; omega
      have HSN : Hid (Srt cur cur.length) := fun a b h1 h2 => HS.out a b h1 (by omega)
      go_wp2_with fail
      go_end0
      exact ⟨⟨_, rfl⟩, cur, HI.out, HSN.out⟩
set_option maxRecDepth 100000 in
theorem pdq_any (B r cap : Nat) (l : List Lab) (hl : l.length ≤ 12) (q : Int) (w : World) (h0 : SortI B r cap l w l w) :
    Calls Tryd.prog 46 #[.slice (some ⟨r, 0, none⟩) l.length cap, .int .i64 0, .int .i64 l.length, .int .i64 q, .func (.func 29) #[] #[]] w fun e w' => (∃ v, e = .returned v) ∧ SortEnd B r cap l w w' := by
  have Q := Lib.hid (insSort_any B r cap l hl w h0)
  have d12 : decide ((l.length : Int) ≤ 12) = true := decide_eq_true (by omega)
  clear h0
  go_enter Tryd.func46, Tryd.ntmps46
  go_wp2_with fail
  refine wp_loop_rounds 1 ?_
  rw [rounds_succ]
  go_wp2_with fail
  refine Q.out.mono ?_
  rintro e w1 ⟨⟨v, rfl⟩, h1⟩
  go_wp2_with fail
  refine bodyPost_ret (results_none rfl _ _ _) rfl ?_
  exact ⟨⟨_, rfl⟩, h1⟩
theorem sortFunc_any (B r cap : Nat) (l : List Lab) (hl : l.length ≤ 12) (w : World) (h0 : SortI B r cap l w l w) :
    Calls Tryd.prog 28 #[.slice (some ⟨r, 0, none⟩) l.length cap, .func (.func 29) #[] #[]] w fun e w' => (∃ v, e = .returned v) ∧ SortEnd B r cap l w w' := by
  have Q : Hid (∀ q, Calls Tryd.prog 46 #[.slice (some ⟨r, 0, none⟩) l.length cap, .int .i64 0, .int .i64 l.length, .int .i64 q, .func (.func 29) #[] #[]] w fun e w' => (∃ v, e = .returned v) ∧ SortEnd B r cap l w w') := fun q => pdq_any B r cap l hl q w h0
  have hn : (l.length : Int) ≤ 12 := by omega
  clear h0
  generalize l.length = n at *
  go_enter Tryd.func28, Tryd.ntmps28
  go_wp2_with fail
  refine (Tryd.bits_Len _ _ (by omega) (by omega)).mono ?_
  rintro e w1 ⟨rfl, rfl⟩
  go_wp2_with fail
  refine (Q.out _).mono ?_
  rintro e w1 ⟨⟨v, rfl⟩, h1⟩
  go_wp2_with fail
  go_end0
  exact ⟨⟨_, rfl⟩, h1⟩
end Go.Proofs.YtlcpigkgbihebaaDoor

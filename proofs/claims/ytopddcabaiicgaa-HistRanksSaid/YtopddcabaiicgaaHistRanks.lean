/-
  The walk of the law aviarylaw09.HistRanks: call by call, each callee by its contract.
-/
import Derived.Test.YtopddcabaiicgaaHistShown
import Derived.Test.YtopddcabaiicgaaHistSame
import Derived.Test.YtopddcabaiicgaaHistLaws
import Derived.Test.YtopddcabaiicgaaHistLaws3
namespace Go.Proofs.Ytopddcabaiicgaa
open Go.RowKit
set_option linter.unusedVariables false
set_option linter.unusedSimpArgs false
theorem Sb.after {w w' : World} {A : Option Addr} {l : Bins} (h : Sb w w.heap.size A l) (hb : Below w.heap.size w w') : Sb w' w'.heap.size A l := Sb.later h hb
set_option maxRecDepth 100000 in
set_option maxHeartbeats 1000000 in
theorem histRanks_bad (f v place : Int) (al : Option Addr) (nl capl : Nat) (w : World) (hf : fineB f = false) :
    Calls Try.prog 7 #[.int .i64 f, .slice al nl capl, .int .u64 v, .int .i64 place] w fun e w' => e = .returned (.bool true) ∧ Below w.heap.size w w' := by
  have hc : f < 0 ∨ (0 ≤ f ∧ 3 < f) := by simp [fineB] at hf; omega
  clear hf
  rcases hc with h | ⟨h1, h⟩
  all_goals
    go_enter Try.func7, Try.ntmps7
    go_wp2_with fail
    refine (shown_any _).mono ?_
    rintro e w1 ⟨rfl, T⟩
    go_wp2_with fail
    go_ret
    exact ⟨rfl, T⟩
theorem int_eqq {k : IntKind} {a b : Int} (h : a = b) : Value.int k a = .int k b := by rw [h]
/-- Between two rounds. -/
def RwI (w : World) (g : Nat) (f : Int) (X : Bins) (wr : World) : Prop :=
  (∃ A cap, Blk wr g 25 #[.int .i64 f, .slice A X.length cap] ∧ HeldB wr w.heap.size (.slice A X.length cap) X) ∧ Below w.heap.size w wr
def HsX (f : Int) (l : List Int) (k : Nat) : Bins := (ofH f (once (l.take k))).2.1
theorem hsX_step {f : Int} (hf : fineB f = true) {l : List Int} (hU : Us l) {k : Nat} (hk : k < l.length) : addH f (HsX f l k) (nth l k) 1 = (f, HsX f l (k + 1), 0) ∧ UBs (HsX f l k) ∧ (HsX f l k).length ≤ k := by
  obtain ⟨X, e1, h1⟩ := of_law hf (once_ui (hU.take k))
  obtain ⟨Y, e2, h2⟩ := of_law hf (once_ui (hU.take (k + 1)))
  have l1 := (ofH_facts (f := f) (once_ui (hU.take k))).2
  have e3 : l.take (k + 1) = l.take k ++ [nth l k] := by rw [List.take_succ_eq_append_getElem hk]; simp [nth, hk]
  have e4 := e2
  rw [e3, once, List.map_append, List.map_singleton, ofH_snoc] at e4
  have e5 : ofH f ((l.take k).map fun x => (x, 1)) = (f, X, 0) := e1
  rw [e5, stepH, if_pos rfl] at e4
  unfold HsX
  rw [e1, e2]
  rw [e1] at l1
  refine ⟨e4, h1.ub, ?_⟩
  simp [once] at l1
  exact Nat.le_trans l1 (by omega)
theorem take_nth_snoc {l : List Int} {k : Nat} (hk : k < l.length) : l.take (k + 1) = l.take k ++ [nth l k] := by rw [List.take_succ_eq_append_getElem hk]; simp [nth, hk]
set_option maxRecDepth 100000 in
set_option maxHeartbeats 16000000 in
theorem histRanks_good (w : World) (f v place pm : Int) (nl capl : Nat) (al : Option Addr) (l : List Int) (hf : fineB f = true) (hv : U v) (hU : Us l) (hsl : Sl w w.heap.size al l) (hk : min (nl : Int) 100 = (l.length : Int)) (hnl : nl ≤ 9223372036854775807) (h100 : l.length ≤ 100) (hplace : I64 place) (hpm : max 0 place = pm) :
    Calls Try.prog 7 #[.int .i64 f, .slice al nl capl, .int .u64 v, .int .i64 place] w fun e w' => e = .returned (.bool true) ∧ Below w.heap.size w w' := by
  have T := below_0 w
  have SL := Lib.hid hsl
  have SW := Lib.hid hsl
  clear hsl
  obtain ⟨f1, f2⟩ := fine_of hf
  obtain ⟨L, top, e1, uL, lL, e2, utop, RK⟩ := ranks_law hf hv hU h100
  have HTP := Lib.hid e2
  have HEL : Hid (HsX f l l.length = L) := by show _ = _; unfold HsX; rw [List.take_of_length_le (Nat.le_refl _), e1]
  have HRK := Lib.hid RK.rank
  have HLE := RK.le
  have HVT := RK.vt
  have HTT := Lib.hid RK.total
  have HNO := Lib.hid RK.none_
  have HSO := Lib.hid RK.some_
  have hbi := bucketF_i64 f hv
  obtain ⟨bb, hbb⟩ : ∃ b, bucketF f v = b := ⟨_, rfl⟩
  have HBB := Lib.hid hbb
  rw [hbb] at hbi HTP
  obtain ⟨q, hq⟩ : ∃ q, boundsF f bb = q := ⟨_, rfl⟩
  rw [hq] at HTP
  have HQ := Lib.hid hq
  clear e1 e2 RK hbb hq
  go_enter Try.func7, Try.ntmps7
  go_wp2_with fail
  refine (shown_any _).mono ?_
  rintro e w0 ⟨rfl, hb0⟩
  replace SL := Lib.hid (SL.out.later hb0)
  replace T := Below.two T hb0
  have TW0 : Hid (w.heap.size ≤ w0.heap.size) := T.size
  clear hb0
  have X0 := Lib.hid (Blk.new w0 25 #[.int .i64 f, .slice none 0 0])
  have hba := below_al (below_0 w0) (.cells #[.int .i64 f, .slice none 0 0] 25)
  replace SL := Lib.hid (SL.out.later hba)
  replace T := Below.two T hba
  have hgw := TW0.out
  clear hba
  go_wp2_with fail
  generalize w0.alloc (.cells #[.int .i64 f, .slice none 0 0] 25) = w1 at *
  refine (bucket_any f v hv _).mono ?_
  rintro e w2 ⟨rfl, n2, rfl⟩
  rw [HBB.out]
  have hbq := below_drewN (below_0 w1) n2
  replace SL := Lib.hid (SL.out.later hbq)
  replace T := Below.two T hbq
  replace X0 := Lib.hid (X0.out.later hbq)
  clear hbq
  generalize w1.drewN n2 = w2 at *
  go_wp2_with fail
  refine (bounds_any f bb hbi _).mono ?_
  rintro e w3 ⟨rfl, n3, rfl⟩
  rw [HQ.out]
  have hbq := below_drewN (below_0 w2) n3
  replace SL := Lib.hid (SL.out.later hbq)
  replace T := Below.two T hbq
  replace X0 := Lib.hid (X0.out.later hbq)
  clear hbq
  generalize w2.drewN n3 = w3 at *
  have hI : RwI w w0.heap.size f (HsX f l 0) w3 := ⟨⟨none, 0, X0.out, heldB_nil _ _⟩, T⟩
  have HI := Lib.hid hI
  have HBW : Hid (Below w.heap.size w w3) := T
  clear hI X0
  have hq1 : q.2.1 = top := HTP.out
  have T3 := Lib.hid T
  clear T
  go_wp2_with fail
  obtain ⟨ql, qt, qo⟩ := q
  simp only at hq1
  subst hq1
  go_loopw [11, 12, 16] (fun lo hi i wr => ∃ k : Nat, k ≤ l.length ∧ i = .int .i64 k ∧ lo = .int .u64 (cnt (l.take k) v) ∧ hi = .int .u64 (cnt (l.take k) qt) ∧ RwI w w0.heap.size f (HsX f l k) wr) (fun _ _ i _ => l.length - (RowKit.intOf i).toNat)
  case atStart => exact ⟨0, Nat.zero_le _, rfl, rfl, rfl, HI.out⟩
  case round =>
    obtain ⟨k, hkl, rfl, rfl, rfl, ⟨⟨A2, c2, X, hh⟩, T⟩⟩ := hrel
    clear HI
    have x0 := X.d0
    have x1 := X.d1
    have zx := X.lt
    have HX := Lib.hid X
    have HH := Lib.hid hh
    clear X hh
    have bl1 := cnt_bd (l.take k) v
    have bl2 := cnt_bd (l.take k) qt
    have ht := List.length_take_le k l
    by_cases hlt : k < l.length
    · obtain ⟨b, off, rfl, hb, hcs⟩ := SW.out.at_ (by omega)
      have h1 := hcs k hlt
      have i1 := (T.cell (p := ⟨b, off + k, none⟩) hb).trans h1
      have hbw : b < wr.heap.size := by have := T.size; omega
      have un := nth_U hU k
      obtain ⟨hst, hUx, hLx⟩ := hsX_step hf hU hlt
      have HN := Lib.hid hst
      have HC1 := Lib.hid (cnt_snoc (l.take k) (nth l k) v)
      have HC2 := Lib.hid (cnt_snoc (l.take k) (nth l k) qt)
      rw [← take_nth_snoc hlt] at HC1 HC2
      obtain ⟨z, hz⟩ : ∃ z, HsX f l (k + 1) = z := ⟨_, rfl⟩
      rw [hz] at HN
      have HZ := Lib.hid hz
      generalize HsX f l k = x at *
      generalize nth l k = it at *
      generalize cnt (l.take k) v = lo at *
      generalize cnt (l.take k) qt = hi at *
      have hi1 : (0 : Int) ≤ (k : Int) := by omega
      have hi2 : (k : Int) < (nl : Int) := by omega
      have hi3 : (k : Int) < 100 := by omega
      have hi4 : k < nl := by omega
      obtain ⟨A2', c2', e2, hc2, hA2, hS2, hF2⟩ := HH.out
      cases e2
      have HS2 := Lib.hid hS2
      have HKK := Lib.hid hk
      clear hcs h1 hst hz hS2 hF2 hA2 hc2 hk
      have nbg : b ≠ w0.heap.size := by omega
      go_wp2_with fail
      by_cases c1 : it ≤ v
      · have c2' : it ≤ qt := by omega
        refine wp_region_held_drew (S := fun w' => w'.cell? ⟨w0.heap.size, 0, none⟩ = some (.int .i64 f) ∧ w'.cell? ⟨w0.heap.size, 1, none⟩ = some (.slice A2 x.length c2) ∧ w'.cell? ⟨b, off + k, none⟩ = some (.int .u64 it)) (by kernel_rfl) ⟨x0, x1, i1⟩ (fun hHeld => ?_)
        refine wpAnyH_take (i := 0) (v := (.agg #[.int .i64 f, .slice A2 x.length c2])) rfl (by kernel_rfl) (by kernel_rfl) (by kernel_rfl) (fun _ _ _ h => h) (Or.inl ⟨by rfl, ?_⟩) hHeld ?_
        · (intro w hSw; (try dsimp only at hSw); (try obtain ⟨s0, s1, s2⟩ := hSw); go_simp)
        simp only [Act.put, List.setIfInBounds_toArray, List.set_cons_zero, List.set_cons_succ]
        refine wpAnyH_take (i := 1) (v := (.slice (some ⟨b, off, none⟩) nl capl)) rfl (by kernel_rfl) (by kernel_rfl) (by kernel_rfl) (fun _ _ _ h => h) (Or.inl ⟨by rfl, ?_⟩) hHeld ?_
        · (intro w hSw; (try dsimp only at hSw); (try obtain ⟨s0, s1, s2⟩ := hSw); go_simp)
        simp only [Act.put, List.setIfInBounds_toArray, List.set_cons_zero, List.set_cons_succ]
        refine wpAnyH_take (i := 2) (v := (.int .i64 (k : Int))) rfl (by kernel_rfl) (by kernel_rfl) (by kernel_rfl) (fun _ _ _ h => h) (Or.inl ⟨by rfl, ?_⟩) hHeld ?_
        · (intro w hSw; (try dsimp only at hSw); (try obtain ⟨s0, s1, s2⟩ := hSw); go_simp)
        simp only [Act.put, List.setIfInBounds_toArray, List.set_cons_zero, List.set_cons_succ]
        refine wpAnyH_take (i := 3) (v := (.pointer (some ⟨b, off + k, none⟩))) rfl (by kernel_rfl) (by kernel_rfl) (by kernel_rfl) (fun _ _ _ h => h) (Or.inl ⟨by rfl, ?_⟩) hHeld ?_
        · (intro w hSw; (try dsimp only at hSw); (try obtain ⟨s0, s1, s2⟩ := hSw); go_simp)
        simp only [Act.put, List.setIfInBounds_toArray, List.set_cons_zero, List.set_cons_succ]
        refine wpAnyH_take (i := 4) (v := (.int .u64 it)) rfl (by kernel_rfl) (by kernel_rfl) (by kernel_rfl) (fun _ _ _ h => h) (Or.inl ⟨by rfl, ?_⟩) hHeld ?_
        · (intro w hSw; (try dsimp only at hSw); (try obtain ⟨s0, s1, s2⟩ := hSw); go_simp)
        simp only [Act.put, List.setIfInBounds_toArray, List.set_cons_zero, List.set_cons_succ]
        refine wpAnyH_ready (rs := [5, 9]) (by kernel_rfl) (by simp) ?_
        refine AllReadyH.cons rfl (fun K0 hK0 => ?_) (AllReadyH.cons rfl (fun K0 hK0 => ?_) AllReadyH.nil)
        · go_simp
          refine (add_any f A2 x c2 it 1 un (by simp [U]) hUx (by omega) _ (by exact HS2.out)).mono ?_
          rintro e w4 ⟨hb4, v4, rfl, hh4⟩
          rw [HN.out] at hh4 ⊢
          obtain ⟨A3, c3, rfl, hc3, hA3, hS3, hF3⟩ := hh4
          have hb5 : Below wr.heap.size wr w4 := ⟨hb4.os, hb4.tape, hb4.output, hb4.size, hb4.block⟩
          have HH3 : Hid (HeldB w4 w.heap.size (.slice A3 z.length c3) z) := ⟨A3, c3, rfl, hc3, hA3, hS3, hF3.from T.size⟩
          clear hc3 hA3 hS3 hF3 hb4
          simp only
          replace HX := Lib.hid (HX.out.later hb5)
          replace i1 := (hb5.cell (p := ⟨b, off + k, none⟩) hbw).trans i1
          replace T := Below.two T hb5
          replace hbw := Nat.lt_of_lt_of_le hbw hb5.size
          clear x0 x1
          have x0 := HX.out.d0
          have x1 := HX.out.d1
          clear hb5
          refine hK0.out _ _ ⟨x0, x1, i1⟩ (fun hHeld => ?_)
          clear hK0 K0
          try simp only [Act.put, List.setIfInBounds_toArray, List.set_cons_zero, List.set_cons_succ]
          refine wpAnyH_take (i := 6) (v := (.tuple #[.agg #[.int .i64 f, .slice A3 z.length c3], .int .i64 0])) rfl (by kernel_rfl) (by kernel_rfl) (by kernel_rfl) (fun _ _ _ h => h) (Or.inl ⟨by rfl, ?_⟩) hHeld ?_
          · (intro w hSw; (try dsimp only at hSw); (try obtain ⟨s0, s1, s2⟩ := hSw); go_simp)
          simp only [Act.put, List.setIfInBounds_toArray, List.set_cons_zero, List.set_cons_succ]
          refine wpAnyH_take (i := 7) (v := (.agg #[.int .i64 f, .slice A3 z.length c3])) rfl (by kernel_rfl) (by kernel_rfl) (by kernel_rfl) (fun _ _ _ h => h) (Or.inl ⟨by rfl, ?_⟩) hHeld ?_
          · (intro w hSw; (try dsimp only at hSw); (try obtain ⟨s0, s1, s2⟩ := hSw); go_simp)
          simp only [Act.put, List.setIfInBounds_toArray, List.set_cons_zero, List.set_cons_succ]
          refine wpAnyH_take (i := 8) (v := (.int .i64 0)) rfl (by kernel_rfl) (by kernel_rfl) (by kernel_rfl) (fun _ _ _ h => h) (Or.inl ⟨by rfl, ?_⟩) hHeld ?_
          · (intro w hSw; (try dsimp only at hSw); (try obtain ⟨s0, s1, s2⟩ := hSw); go_simp)
          simp only [Act.put, List.setIfInBounds_toArray, List.set_cons_zero, List.set_cons_succ]
          refine wpAnyH_ready (rs := [9]) (by kernel_rfl) (by simp) ?_
          refine AllReadyH.cons rfl (fun K0 hK0 => ?_) AllReadyH.nil
          go_simp
          have hba := below_al (below_0 w4) (.cells #[.int .i64 0, .slice none 0 0] 25)
          have N := Lib.hid (Blk.new w4 25 #[.int .i64 0, .slice none 0 0])
          have zb := HX.out.lt
          have zb2 := hbw
          have HH4 := Lib.hid (HH3.out.later hba)
          replace HX := Lib.hid (HX.out.later hba)
          replace i1 := (hba.cell (p := ⟨b, off + k, none⟩) hbw).trans i1
          replace T := Below.two T hba
          replace hbw := Nat.lt_of_lt_of_le hbw hba.size
          clear x0 x1
          have x0 := HX.out.d0
          have x1 := HX.out.d1
          clear hba
          generalize w4.alloc (.cells #[.int .i64 0, .slice none 0 0] 25) = w5 at *
          refine hK0.out _ _ ⟨x0, x1, i1⟩ (fun hHeld => ?_)
          clear hK0 K0
          try simp only [Act.put, List.setIfInBounds_toArray, List.set_cons_zero, List.set_cons_succ]
          refine wpAnyH_ready (rs := [10]) (by kernel_rfl) (by simp) ?_
          refine AllReadyH.cons rfl (fun K0 hK0 => ?_) AllReadyH.nil
          have zn := N.out.lt
          have fn0 := N.out.frozen 0
          have fn1 := N.out.frozen 1
          have y0 := N.out.d0
          have y1 := N.out.d1
          go_simp
          have ne1 : w0.heap.size ≠ w4.heap.size := by omega
          have ne2 : b ≠ w4.heap.size := by omega
          have GS := grow_set2 w5 w4.heap.size (.int .i64 f) (.slice A3 z.length c3)
          have X5 := Lib.hid (HX.out.grown GS (fun e => ne1 (by injection e)))
          have N5 := Lib.hid (N.out.set2 (x := .int .i64 f) (y := .slice A3 z.length c3))
          have H5 := Lib.hid (heldB_set2 (x := .int .i64 f) (y := .slice A3 z.length c3) HH4.out N.out)
          have T5 := Lib.hid (below_turned T GS (by omega))
          have j1 := (World.cell?_of_block (a := ⟨b, off + k, none⟩) (GS.block b hbw (fun e => ne2 (by injection e)))).trans i1
          clear GS x0 x1 i1 y0 y1 fn0 fn1
          refine hK0.out _ _ ⟨X5.out.d0, X5.out.d1, j1⟩ (fun hHeld => ?_)
          clear hK0 K0
          try simp only [Act.put, List.setIfInBounds_toArray, List.set_cons_zero, List.set_cons_succ]
          refine wpAnyH_take (i := 11) (v := (.int .i64 0)) rfl (by kernel_rfl) (by kernel_rfl) (by kernel_rfl) (fun _ _ _ h => h) (Or.inl ⟨by rfl, ?_⟩) hHeld ?_
          · (intro w hSw; go_simp)
          simp only [Act.put, List.setIfInBounds_toArray, List.set_cons_zero, List.set_cons_succ]
          refine wpAnyH_done (by kernel_rfl) ?_ _
          clear HX T HH4 HH3 N
          generalize (w5.setCell ⟨w4.heap.size, 0, none⟩ (.int .i64 f)).setCell ⟨w4.heap.size, 1, none⟩ (.slice A3 z.length c3) = w6 at *
          have n0 := N5.out.d0
          have n1 := N5.out.d1
          have x60 := X5.out.d0
          have x61 := X5.out.d1
          have g0 := X5.out.frozen 0
          have g1 := X5.out.frozen 1
          have z6 := X5.out.lt
          have z7 := N5.out.lt
          have hI : RwI w w0.heap.size f z ((w6.setCell ⟨w0.heap.size, 0, none⟩ (.int .i64 f)).setCell ⟨w0.heap.size, 1, none⟩ (.slice A3 z.length c3)) := ⟨⟨A3, c3, X5.out.set2, heldB_set2 H5.out X5.out⟩, below_set2 T5.out hgw _ _⟩
          have HI := Lib.hid hI
          have j2 : ((w6.setCell ⟨w0.heap.size, 0, none⟩ (.int .i64 f)).setCell ⟨w0.heap.size, 1, none⟩ (.slice A3 z.length c3)).cell? ⟨b, off + k, none⟩ = some (.int .u64 it) := (World.cell?_of_block (a := ⟨b, off + k, none⟩) ((grow_set2 w6 w0.heap.size _ _).block b (by omega) (fun e => nbg (by injection e)))).trans j1
          clear hI
          go_wp2_with fail
          go_roundw
          case rel => exact ⟨k + 1, by omega, by go_num, by rw [HC1.out]; exact int_eqq (by simp [c1]), by rw [HC2.out]; exact int_eqq (by simp [c2']), by rw [HZ.out]; exact HI.out⟩
          case measure => simp [RowKit.intOf]; omega
        · go_simp
          have hba := below_drewN (below_al (below_0 wr) (.cells #[.int .i64 0, .slice none 0 0] 25)) 1
          have N0 := Lib.hid (Blk.new wr 25 #[.int .i64 0, .slice none 0 0])
          have zb := HX.out.lt
          have zb2 := hbw
          have HS3 := Lib.hid (Sb.later HS2.out hba)
          replace HX := Lib.hid (HX.out.later hba)
          replace i1 := (hba.cell (p := ⟨b, off + k, none⟩) hbw).trans i1
          replace T := Below.two T hba
          replace hbw := Nat.lt_of_lt_of_le hbw hba.size
          clear x0 x1
          have x0 := HX.out.d0
          have x1 := HX.out.d1
          clear hba
          have N0 : Hid (Blk ((wr.alloc (.cells #[.int .i64 0, .slice none 0 0] 25)).drewN 1) wr.heap.size 25 #[.int .i64 0, .slice none 0 0]) := N0
          have hw5 : (wr.alloc (.cells #[.int .i64 0, .slice none 0 0] 25)).drewN 1 = (wr.alloc (.cells #[.int .i64 0, .slice none 0 0] 25)).drew := rfl
          rw [hw5] at HX T i1 hbw x0 x1 N0 HS3
          clear hw5
          generalize (wr.alloc (.cells #[.int .i64 0, .slice none 0 0] 25)).drew = w7 at *
          refine hK0.out _ _ ⟨x0, x1, i1⟩ (fun hHeld => ?_)
          clear hK0 K0
          try simp only [Act.put, List.setIfInBounds_toArray, List.set_cons_zero, List.set_cons_succ]
          refine wpAnyH_ready (rs := [5]) (by kernel_rfl) (by simp) ?_
          refine AllReadyH.cons rfl (fun K0 hK0 => ?_) AllReadyH.nil
          go_simp
          refine (add_any f A2 x c2 it 1 un (by simp [U]) hUx (by omega) _ (by exact HS3.out)).mono ?_
          rintro e w4 ⟨hb4, v4, rfl, hh4⟩
          rw [HN.out] at hh4 ⊢
          obtain ⟨A3, c3, rfl, hc3, hA3, hS3, hF3⟩ := hh4
          have hb5 : Below w7.heap.size w7 w4 := ⟨hb4.os, hb4.tape, hb4.output, hb4.size, hb4.block⟩
          have HH3 : Hid (HeldB w4 w.heap.size (.slice A3 z.length c3) z) := ⟨A3, c3, rfl, hc3, hA3, hS3, hF3.from T.size⟩
          clear hc3 hA3 hS3 hF3 hb4
          simp only
          have N := Lib.hid (N0.out.later hb5)
          replace HX := Lib.hid (HX.out.later hb5)
          replace i1 := (hb5.cell (p := ⟨b, off + k, none⟩) hbw).trans i1
          replace T := Below.two T hb5
          replace hbw := Nat.lt_of_lt_of_le hbw hb5.size
          clear x0 x1
          have x0 := HX.out.d0
          have x1 := HX.out.d1
          clear hb5
          have HH4 := HH3
          generalize w4 = w5 at *
          refine hK0.out _ _ ⟨x0, x1, i1⟩ (fun hHeld => ?_)
          clear hK0 K0
          try simp only [Act.put, List.setIfInBounds_toArray, List.set_cons_zero, List.set_cons_succ]
          refine wpAnyH_take (i := 6) (v := (.tuple #[.agg #[.int .i64 f, .slice A3 z.length c3], .int .i64 0])) rfl (by kernel_rfl) (by kernel_rfl) (by kernel_rfl) (fun _ _ _ h => h) (Or.inl ⟨by rfl, ?_⟩) hHeld ?_
          · (intro w hSw; (try dsimp only at hSw); (try obtain ⟨s0, s1, s2⟩ := hSw); go_simp)
          simp only [Act.put, List.setIfInBounds_toArray, List.set_cons_zero, List.set_cons_succ]
          refine wpAnyH_take (i := 7) (v := (.agg #[.int .i64 f, .slice A3 z.length c3])) rfl (by kernel_rfl) (by kernel_rfl) (by kernel_rfl) (fun _ _ _ h => h) (Or.inl ⟨by rfl, ?_⟩) hHeld ?_
          · (intro w hSw; (try dsimp only at hSw); (try obtain ⟨s0, s1, s2⟩ := hSw); go_simp)
          simp only [Act.put, List.setIfInBounds_toArray, List.set_cons_zero, List.set_cons_succ]
          refine wpAnyH_take (i := 8) (v := (.int .i64 0)) rfl (by kernel_rfl) (by kernel_rfl) (by kernel_rfl) (fun _ _ _ h => h) (Or.inl ⟨by rfl, ?_⟩) hHeld ?_
          · (intro w hSw; (try dsimp only at hSw); (try obtain ⟨s0, s1, s2⟩ := hSw); go_simp)
          simp only [Act.put, List.setIfInBounds_toArray, List.set_cons_zero, List.set_cons_succ]
          refine wpAnyH_ready (rs := [10]) (by kernel_rfl) (by simp) ?_
          refine AllReadyH.cons rfl (fun K0 hK0 => ?_) AllReadyH.nil
          have zn := N.out.lt
          have fn0 := N.out.frozen 0
          have fn1 := N.out.frozen 1
          have y0 := N.out.d0
          have y1 := N.out.d1
          go_simp
          have ne1 : w0.heap.size ≠ wr.heap.size := by omega
          have ne2 : b ≠ wr.heap.size := by omega
          have GS := grow_set2 w5 wr.heap.size (.int .i64 f) (.slice A3 z.length c3)
          have X5 := Lib.hid (HX.out.grown GS (fun e => ne1 (by injection e)))
          have N5 := Lib.hid (N.out.set2 (x := .int .i64 f) (y := .slice A3 z.length c3))
          have H5 := Lib.hid (heldB_set2 (x := .int .i64 f) (y := .slice A3 z.length c3) HH4.out N.out)
          have T5 := Lib.hid (below_turned T GS (by omega))
          have j1 := (World.cell?_of_block (a := ⟨b, off + k, none⟩) (GS.block b hbw (fun e => ne2 (by injection e)))).trans i1
          clear GS x0 x1 i1 y0 y1 fn0 fn1
          refine hK0.out _ _ ⟨X5.out.d0, X5.out.d1, j1⟩ (fun hHeld => ?_)
          clear hK0 K0
          try simp only [Act.put, List.setIfInBounds_toArray, List.set_cons_zero, List.set_cons_succ]
          refine wpAnyH_take (i := 11) (v := (.int .i64 0)) rfl (by kernel_rfl) (by kernel_rfl) (by kernel_rfl) (fun _ _ _ h => h) (Or.inl ⟨by rfl, ?_⟩) hHeld ?_
          · (intro w hSw; go_simp)
          simp only [Act.put, List.setIfInBounds_toArray, List.set_cons_zero, List.set_cons_succ]
          refine wpAnyH_done (by kernel_rfl) ?_ _
          clear HX T HH4 HH3 N
          generalize (w5.setCell ⟨wr.heap.size, 0, none⟩ (.int .i64 f)).setCell ⟨wr.heap.size, 1, none⟩ (.slice A3 z.length c3) = w6 at *
          have n0 := N5.out.d0
          have n1 := N5.out.d1
          have x60 := X5.out.d0
          have x61 := X5.out.d1
          have g0 := X5.out.frozen 0
          have g1 := X5.out.frozen 1
          have z6 := X5.out.lt
          have z7 := N5.out.lt
          have hI : RwI w w0.heap.size f z ((w6.setCell ⟨w0.heap.size, 0, none⟩ (.int .i64 f)).setCell ⟨w0.heap.size, 1, none⟩ (.slice A3 z.length c3)) := ⟨⟨A3, c3, X5.out.set2, heldB_set2 H5.out X5.out⟩, below_set2 T5.out hgw _ _⟩
          have HI := Lib.hid hI
          have j2 : ((w6.setCell ⟨w0.heap.size, 0, none⟩ (.int .i64 f)).setCell ⟨w0.heap.size, 1, none⟩ (.slice A3 z.length c3)).cell? ⟨b, off + k, none⟩ = some (.int .u64 it) := (World.cell?_of_block (a := ⟨b, off + k, none⟩) ((grow_set2 w6 w0.heap.size _ _).block b (by omega) (fun e => nbg (by injection e)))).trans j1
          clear hI
          go_wp2_with fail
          go_roundw
          case rel => exact ⟨k + 1, by omega, by go_num, by rw [HC1.out]; exact int_eqq (by simp [c1]), by rw [HC2.out]; exact int_eqq (by simp [c2']), by rw [HZ.out]; exact HI.out⟩
          case measure => simp [RowKit.intOf]; omega
      · by_cases c2' : it ≤ qt
        · refine wp_region_held_drew (S := fun w' => w'.cell? ⟨w0.heap.size, 0, none⟩ = some (.int .i64 f) ∧ w'.cell? ⟨w0.heap.size, 1, none⟩ = some (.slice A2 x.length c2) ∧ w'.cell? ⟨b, off + k, none⟩ = some (.int .u64 it)) (by kernel_rfl) ⟨x0, x1, i1⟩ (fun hHeld => ?_)
          refine wpAnyH_take (i := 0) (v := (.agg #[.int .i64 f, .slice A2 x.length c2])) rfl (by kernel_rfl) (by kernel_rfl) (by kernel_rfl) (fun _ _ _ h => h) (Or.inl ⟨by rfl, ?_⟩) hHeld ?_
          · (intro w hSw; (try dsimp only at hSw); (try obtain ⟨s0, s1, s2⟩ := hSw); go_simp)
          simp only [Act.put, List.setIfInBounds_toArray, List.set_cons_zero, List.set_cons_succ]
          refine wpAnyH_take (i := 1) (v := (.slice (some ⟨b, off, none⟩) nl capl)) rfl (by kernel_rfl) (by kernel_rfl) (by kernel_rfl) (fun _ _ _ h => h) (Or.inl ⟨by rfl, ?_⟩) hHeld ?_
          · (intro w hSw; (try dsimp only at hSw); (try obtain ⟨s0, s1, s2⟩ := hSw); go_simp)
          simp only [Act.put, List.setIfInBounds_toArray, List.set_cons_zero, List.set_cons_succ]
          refine wpAnyH_take (i := 2) (v := (.int .i64 (k : Int))) rfl (by kernel_rfl) (by kernel_rfl) (by kernel_rfl) (fun _ _ _ h => h) (Or.inl ⟨by rfl, ?_⟩) hHeld ?_
          · (intro w hSw; (try dsimp only at hSw); (try obtain ⟨s0, s1, s2⟩ := hSw); go_simp)
          simp only [Act.put, List.setIfInBounds_toArray, List.set_cons_zero, List.set_cons_succ]
          refine wpAnyH_take (i := 3) (v := (.pointer (some ⟨b, off + k, none⟩))) rfl (by kernel_rfl) (by kernel_rfl) (by kernel_rfl) (fun _ _ _ h => h) (Or.inl ⟨by rfl, ?_⟩) hHeld ?_
          · (intro w hSw; (try dsimp only at hSw); (try obtain ⟨s0, s1, s2⟩ := hSw); go_simp)
          simp only [Act.put, List.setIfInBounds_toArray, List.set_cons_zero, List.set_cons_succ]
          refine wpAnyH_take (i := 4) (v := (.int .u64 it)) rfl (by kernel_rfl) (by kernel_rfl) (by kernel_rfl) (fun _ _ _ h => h) (Or.inl ⟨by rfl, ?_⟩) hHeld ?_
          · (intro w hSw; (try dsimp only at hSw); (try obtain ⟨s0, s1, s2⟩ := hSw); go_simp)
          simp only [Act.put, List.setIfInBounds_toArray, List.set_cons_zero, List.set_cons_succ]
          refine wpAnyH_ready (rs := [5, 9]) (by kernel_rfl) (by simp) ?_
          refine AllReadyH.cons rfl (fun K0 hK0 => ?_) (AllReadyH.cons rfl (fun K0 hK0 => ?_) AllReadyH.nil)
          · go_simp
            refine (add_any f A2 x c2 it 1 un (by simp [U]) hUx (by omega) _ (by exact HS2.out)).mono ?_
            rintro e w4 ⟨hb4, v4, rfl, hh4⟩
            rw [HN.out] at hh4 ⊢
            obtain ⟨A3, c3, rfl, hc3, hA3, hS3, hF3⟩ := hh4
            have hb5 : Below wr.heap.size wr w4 := ⟨hb4.os, hb4.tape, hb4.output, hb4.size, hb4.block⟩
            have HH3 : Hid (HeldB w4 w.heap.size (.slice A3 z.length c3) z) := ⟨A3, c3, rfl, hc3, hA3, hS3, hF3.from T.size⟩
            clear hc3 hA3 hS3 hF3 hb4
            simp only
            replace HX := Lib.hid (HX.out.later hb5)
            replace i1 := (hb5.cell (p := ⟨b, off + k, none⟩) hbw).trans i1
            replace T := Below.two T hb5
            replace hbw := Nat.lt_of_lt_of_le hbw hb5.size
            clear x0 x1
            have x0 := HX.out.d0
            have x1 := HX.out.d1
            clear hb5
            refine hK0.out _ _ ⟨x0, x1, i1⟩ (fun hHeld => ?_)
            clear hK0 K0
            try simp only [Act.put, List.setIfInBounds_toArray, List.set_cons_zero, List.set_cons_succ]
            refine wpAnyH_take (i := 6) (v := (.tuple #[.agg #[.int .i64 f, .slice A3 z.length c3], .int .i64 0])) rfl (by kernel_rfl) (by kernel_rfl) (by kernel_rfl) (fun _ _ _ h => h) (Or.inl ⟨by rfl, ?_⟩) hHeld ?_
            · (intro w hSw; (try dsimp only at hSw); (try obtain ⟨s0, s1, s2⟩ := hSw); go_simp)
            simp only [Act.put, List.setIfInBounds_toArray, List.set_cons_zero, List.set_cons_succ]
            refine wpAnyH_take (i := 7) (v := (.agg #[.int .i64 f, .slice A3 z.length c3])) rfl (by kernel_rfl) (by kernel_rfl) (by kernel_rfl) (fun _ _ _ h => h) (Or.inl ⟨by rfl, ?_⟩) hHeld ?_
            · (intro w hSw; (try dsimp only at hSw); (try obtain ⟨s0, s1, s2⟩ := hSw); go_simp)
            simp only [Act.put, List.setIfInBounds_toArray, List.set_cons_zero, List.set_cons_succ]
            refine wpAnyH_take (i := 8) (v := (.int .i64 0)) rfl (by kernel_rfl) (by kernel_rfl) (by kernel_rfl) (fun _ _ _ h => h) (Or.inl ⟨by rfl, ?_⟩) hHeld ?_
            · (intro w hSw; (try dsimp only at hSw); (try obtain ⟨s0, s1, s2⟩ := hSw); go_simp)
            simp only [Act.put, List.setIfInBounds_toArray, List.set_cons_zero, List.set_cons_succ]
            refine wpAnyH_ready (rs := [9]) (by kernel_rfl) (by simp) ?_
            refine AllReadyH.cons rfl (fun K0 hK0 => ?_) AllReadyH.nil
            go_simp
            have hba := below_al (below_0 w4) (.cells #[.int .i64 0, .slice none 0 0] 25)
            have N := Lib.hid (Blk.new w4 25 #[.int .i64 0, .slice none 0 0])
            have zb := HX.out.lt
            have zb2 := hbw
            have HH4 := Lib.hid (HH3.out.later hba)
            replace HX := Lib.hid (HX.out.later hba)
            replace i1 := (hba.cell (p := ⟨b, off + k, none⟩) hbw).trans i1
            replace T := Below.two T hba
            replace hbw := Nat.lt_of_lt_of_le hbw hba.size
            clear x0 x1
            have x0 := HX.out.d0
            have x1 := HX.out.d1
            clear hba
            generalize w4.alloc (.cells #[.int .i64 0, .slice none 0 0] 25) = w5 at *
            refine hK0.out _ _ ⟨x0, x1, i1⟩ (fun hHeld => ?_)
            clear hK0 K0
            try simp only [Act.put, List.setIfInBounds_toArray, List.set_cons_zero, List.set_cons_succ]
            refine wpAnyH_ready (rs := [10]) (by kernel_rfl) (by simp) ?_
            refine AllReadyH.cons rfl (fun K0 hK0 => ?_) AllReadyH.nil
            have zn := N.out.lt
            have fn0 := N.out.frozen 0
            have fn1 := N.out.frozen 1
            have y0 := N.out.d0
            have y1 := N.out.d1
            go_simp
            have ne1 : w0.heap.size ≠ w4.heap.size := by omega
            have ne2 : b ≠ w4.heap.size := by omega
            have GS := grow_set2 w5 w4.heap.size (.int .i64 f) (.slice A3 z.length c3)
            have X5 := Lib.hid (HX.out.grown GS (fun e => ne1 (by injection e)))
            have N5 := Lib.hid (N.out.set2 (x := .int .i64 f) (y := .slice A3 z.length c3))
            have H5 := Lib.hid (heldB_set2 (x := .int .i64 f) (y := .slice A3 z.length c3) HH4.out N.out)
            have T5 := Lib.hid (below_turned T GS (by omega))
            have j1 := (World.cell?_of_block (a := ⟨b, off + k, none⟩) (GS.block b hbw (fun e => ne2 (by injection e)))).trans i1
            clear GS x0 x1 i1 y0 y1 fn0 fn1
            refine hK0.out _ _ ⟨X5.out.d0, X5.out.d1, j1⟩ (fun hHeld => ?_)
            clear hK0 K0
            try simp only [Act.put, List.setIfInBounds_toArray, List.set_cons_zero, List.set_cons_succ]
            refine wpAnyH_take (i := 11) (v := (.int .i64 0)) rfl (by kernel_rfl) (by kernel_rfl) (by kernel_rfl) (fun _ _ _ h => h) (Or.inl ⟨by rfl, ?_⟩) hHeld ?_
            · (intro w hSw; go_simp)
            simp only [Act.put, List.setIfInBounds_toArray, List.set_cons_zero, List.set_cons_succ]
            refine wpAnyH_done (by kernel_rfl) ?_ _
            clear HX T HH4 HH3 N
            generalize (w5.setCell ⟨w4.heap.size, 0, none⟩ (.int .i64 f)).setCell ⟨w4.heap.size, 1, none⟩ (.slice A3 z.length c3) = w6 at *
            have n0 := N5.out.d0
            have n1 := N5.out.d1
            have x60 := X5.out.d0
            have x61 := X5.out.d1
            have g0 := X5.out.frozen 0
            have g1 := X5.out.frozen 1
            have z6 := X5.out.lt
            have z7 := N5.out.lt
            have hI : RwI w w0.heap.size f z ((w6.setCell ⟨w0.heap.size, 0, none⟩ (.int .i64 f)).setCell ⟨w0.heap.size, 1, none⟩ (.slice A3 z.length c3)) := ⟨⟨A3, c3, X5.out.set2, heldB_set2 H5.out X5.out⟩, below_set2 T5.out hgw _ _⟩
            have HI := Lib.hid hI
            have j2 : ((w6.setCell ⟨w0.heap.size, 0, none⟩ (.int .i64 f)).setCell ⟨w0.heap.size, 1, none⟩ (.slice A3 z.length c3)).cell? ⟨b, off + k, none⟩ = some (.int .u64 it) := (World.cell?_of_block (a := ⟨b, off + k, none⟩) ((grow_set2 w6 w0.heap.size _ _).block b (by omega) (fun e => nbg (by injection e)))).trans j1
            clear hI
            go_wp2_with fail
            go_roundw
            case rel => exact ⟨k + 1, by omega, by go_num, by rw [HC1.out]; exact int_eqq (by simp [c1]), by rw [HC2.out]; exact int_eqq (by simp [c2']), by rw [HZ.out]; exact HI.out⟩
            case measure => simp [RowKit.intOf]; omega
          · go_simp
            have hba := below_drewN (below_al (below_0 wr) (.cells #[.int .i64 0, .slice none 0 0] 25)) 1
            have N0 := Lib.hid (Blk.new wr 25 #[.int .i64 0, .slice none 0 0])
            have zb := HX.out.lt
            have zb2 := hbw
            have HS3 := Lib.hid (Sb.later HS2.out hba)
            replace HX := Lib.hid (HX.out.later hba)
            replace i1 := (hba.cell (p := ⟨b, off + k, none⟩) hbw).trans i1
            replace T := Below.two T hba
            replace hbw := Nat.lt_of_lt_of_le hbw hba.size
            clear x0 x1
            have x0 := HX.out.d0
            have x1 := HX.out.d1
            clear hba
            have N0 : Hid (Blk ((wr.alloc (.cells #[.int .i64 0, .slice none 0 0] 25)).drewN 1) wr.heap.size 25 #[.int .i64 0, .slice none 0 0]) := N0
            have hw5 : (wr.alloc (.cells #[.int .i64 0, .slice none 0 0] 25)).drewN 1 = (wr.alloc (.cells #[.int .i64 0, .slice none 0 0] 25)).drew := rfl
            rw [hw5] at HX T i1 hbw x0 x1 N0 HS3
            clear hw5
            generalize (wr.alloc (.cells #[.int .i64 0, .slice none 0 0] 25)).drew = w7 at *
            refine hK0.out _ _ ⟨x0, x1, i1⟩ (fun hHeld => ?_)
            clear hK0 K0
            try simp only [Act.put, List.setIfInBounds_toArray, List.set_cons_zero, List.set_cons_succ]
            refine wpAnyH_ready (rs := [5]) (by kernel_rfl) (by simp) ?_
            refine AllReadyH.cons rfl (fun K0 hK0 => ?_) AllReadyH.nil
            go_simp
            refine (add_any f A2 x c2 it 1 un (by simp [U]) hUx (by omega) _ (by exact HS3.out)).mono ?_
            rintro e w4 ⟨hb4, v4, rfl, hh4⟩
            rw [HN.out] at hh4 ⊢
            obtain ⟨A3, c3, rfl, hc3, hA3, hS3, hF3⟩ := hh4
            have hb5 : Below w7.heap.size w7 w4 := ⟨hb4.os, hb4.tape, hb4.output, hb4.size, hb4.block⟩
            have HH3 : Hid (HeldB w4 w.heap.size (.slice A3 z.length c3) z) := ⟨A3, c3, rfl, hc3, hA3, hS3, hF3.from T.size⟩
            clear hc3 hA3 hS3 hF3 hb4
            simp only
            have N := Lib.hid (N0.out.later hb5)
            replace HX := Lib.hid (HX.out.later hb5)
            replace i1 := (hb5.cell (p := ⟨b, off + k, none⟩) hbw).trans i1
            replace T := Below.two T hb5
            replace hbw := Nat.lt_of_lt_of_le hbw hb5.size
            clear x0 x1
            have x0 := HX.out.d0
            have x1 := HX.out.d1
            clear hb5
            have HH4 := HH3
            generalize w4 = w5 at *
            refine hK0.out _ _ ⟨x0, x1, i1⟩ (fun hHeld => ?_)
            clear hK0 K0
            try simp only [Act.put, List.setIfInBounds_toArray, List.set_cons_zero, List.set_cons_succ]
            refine wpAnyH_take (i := 6) (v := (.tuple #[.agg #[.int .i64 f, .slice A3 z.length c3], .int .i64 0])) rfl (by kernel_rfl) (by kernel_rfl) (by kernel_rfl) (fun _ _ _ h => h) (Or.inl ⟨by rfl, ?_⟩) hHeld ?_
            · (intro w hSw; (try dsimp only at hSw); (try obtain ⟨s0, s1, s2⟩ := hSw); go_simp)
            simp only [Act.put, List.setIfInBounds_toArray, List.set_cons_zero, List.set_cons_succ]
            refine wpAnyH_take (i := 7) (v := (.agg #[.int .i64 f, .slice A3 z.length c3])) rfl (by kernel_rfl) (by kernel_rfl) (by kernel_rfl) (fun _ _ _ h => h) (Or.inl ⟨by rfl, ?_⟩) hHeld ?_
            · (intro w hSw; (try dsimp only at hSw); (try obtain ⟨s0, s1, s2⟩ := hSw); go_simp)
            simp only [Act.put, List.setIfInBounds_toArray, List.set_cons_zero, List.set_cons_succ]
            refine wpAnyH_take (i := 8) (v := (.int .i64 0)) rfl (by kernel_rfl) (by kernel_rfl) (by kernel_rfl) (fun _ _ _ h => h) (Or.inl ⟨by rfl, ?_⟩) hHeld ?_
            · (intro w hSw; (try dsimp only at hSw); (try obtain ⟨s0, s1, s2⟩ := hSw); go_simp)
            simp only [Act.put, List.setIfInBounds_toArray, List.set_cons_zero, List.set_cons_succ]
            refine wpAnyH_ready (rs := [10]) (by kernel_rfl) (by simp) ?_
            refine AllReadyH.cons rfl (fun K0 hK0 => ?_) AllReadyH.nil
            have zn := N.out.lt
            have fn0 := N.out.frozen 0
            have fn1 := N.out.frozen 1
            have y0 := N.out.d0
            have y1 := N.out.d1
            go_simp
            have ne1 : w0.heap.size ≠ wr.heap.size := by omega
            have ne2 : b ≠ wr.heap.size := by omega
            have GS := grow_set2 w5 wr.heap.size (.int .i64 f) (.slice A3 z.length c3)
            have X5 := Lib.hid (HX.out.grown GS (fun e => ne1 (by injection e)))
            have N5 := Lib.hid (N.out.set2 (x := .int .i64 f) (y := .slice A3 z.length c3))
            have H5 := Lib.hid (heldB_set2 (x := .int .i64 f) (y := .slice A3 z.length c3) HH4.out N.out)
            have T5 := Lib.hid (below_turned T GS (by omega))
            have j1 := (World.cell?_of_block (a := ⟨b, off + k, none⟩) (GS.block b hbw (fun e => ne2 (by injection e)))).trans i1
            clear GS x0 x1 i1 y0 y1 fn0 fn1
            refine hK0.out _ _ ⟨X5.out.d0, X5.out.d1, j1⟩ (fun hHeld => ?_)
            clear hK0 K0
            try simp only [Act.put, List.setIfInBounds_toArray, List.set_cons_zero, List.set_cons_succ]
            refine wpAnyH_take (i := 11) (v := (.int .i64 0)) rfl (by kernel_rfl) (by kernel_rfl) (by kernel_rfl) (fun _ _ _ h => h) (Or.inl ⟨by rfl, ?_⟩) hHeld ?_
            · (intro w hSw; go_simp)
            simp only [Act.put, List.setIfInBounds_toArray, List.set_cons_zero, List.set_cons_succ]
            refine wpAnyH_done (by kernel_rfl) ?_ _
            clear HX T HH4 HH3 N
            generalize (w5.setCell ⟨wr.heap.size, 0, none⟩ (.int .i64 f)).setCell ⟨wr.heap.size, 1, none⟩ (.slice A3 z.length c3) = w6 at *
            have n0 := N5.out.d0
            have n1 := N5.out.d1
            have x60 := X5.out.d0
            have x61 := X5.out.d1
            have g0 := X5.out.frozen 0
            have g1 := X5.out.frozen 1
            have z6 := X5.out.lt
            have z7 := N5.out.lt
            have hI : RwI w w0.heap.size f z ((w6.setCell ⟨w0.heap.size, 0, none⟩ (.int .i64 f)).setCell ⟨w0.heap.size, 1, none⟩ (.slice A3 z.length c3)) := ⟨⟨A3, c3, X5.out.set2, heldB_set2 H5.out X5.out⟩, below_set2 T5.out hgw _ _⟩
            have HI := Lib.hid hI
            have j2 : ((w6.setCell ⟨w0.heap.size, 0, none⟩ (.int .i64 f)).setCell ⟨w0.heap.size, 1, none⟩ (.slice A3 z.length c3)).cell? ⟨b, off + k, none⟩ = some (.int .u64 it) := (World.cell?_of_block (a := ⟨b, off + k, none⟩) ((grow_set2 w6 w0.heap.size _ _).block b (by omega) (fun e => nbg (by injection e)))).trans j1
            clear hI
            go_wp2_with fail
            go_roundw
            case rel => exact ⟨k + 1, by omega, by go_num, by rw [HC1.out]; exact int_eqq (by simp [c1]), by rw [HC2.out]; exact int_eqq (by simp [c2']), by rw [HZ.out]; exact HI.out⟩
            case measure => simp [RowKit.intOf]; omega
        · refine wp_region_held_drew (S := fun w' => w'.cell? ⟨w0.heap.size, 0, none⟩ = some (.int .i64 f) ∧ w'.cell? ⟨w0.heap.size, 1, none⟩ = some (.slice A2 x.length c2) ∧ w'.cell? ⟨b, off + k, none⟩ = some (.int .u64 it)) (by kernel_rfl) ⟨x0, x1, i1⟩ (fun hHeld => ?_)
          refine wpAnyH_take (i := 0) (v := (.agg #[.int .i64 f, .slice A2 x.length c2])) rfl (by kernel_rfl) (by kernel_rfl) (by kernel_rfl) (fun _ _ _ h => h) (Or.inl ⟨by rfl, ?_⟩) hHeld ?_
          · (intro w hSw; (try dsimp only at hSw); (try obtain ⟨s0, s1, s2⟩ := hSw); go_simp)
          simp only [Act.put, List.setIfInBounds_toArray, List.set_cons_zero, List.set_cons_succ]
          refine wpAnyH_take (i := 1) (v := (.slice (some ⟨b, off, none⟩) nl capl)) rfl (by kernel_rfl) (by kernel_rfl) (by kernel_rfl) (fun _ _ _ h => h) (Or.inl ⟨by rfl, ?_⟩) hHeld ?_
          · (intro w hSw; (try dsimp only at hSw); (try obtain ⟨s0, s1, s2⟩ := hSw); go_simp)
          simp only [Act.put, List.setIfInBounds_toArray, List.set_cons_zero, List.set_cons_succ]
          refine wpAnyH_take (i := 2) (v := (.int .i64 (k : Int))) rfl (by kernel_rfl) (by kernel_rfl) (by kernel_rfl) (fun _ _ _ h => h) (Or.inl ⟨by rfl, ?_⟩) hHeld ?_
          · (intro w hSw; (try dsimp only at hSw); (try obtain ⟨s0, s1, s2⟩ := hSw); go_simp)
          simp only [Act.put, List.setIfInBounds_toArray, List.set_cons_zero, List.set_cons_succ]
          refine wpAnyH_take (i := 3) (v := (.pointer (some ⟨b, off + k, none⟩))) rfl (by kernel_rfl) (by kernel_rfl) (by kernel_rfl) (fun _ _ _ h => h) (Or.inl ⟨by rfl, ?_⟩) hHeld ?_
          · (intro w hSw; (try dsimp only at hSw); (try obtain ⟨s0, s1, s2⟩ := hSw); go_simp)
          simp only [Act.put, List.setIfInBounds_toArray, List.set_cons_zero, List.set_cons_succ]
          refine wpAnyH_take (i := 4) (v := (.int .u64 it)) rfl (by kernel_rfl) (by kernel_rfl) (by kernel_rfl) (fun _ _ _ h => h) (Or.inl ⟨by rfl, ?_⟩) hHeld ?_
          · (intro w hSw; (try dsimp only at hSw); (try obtain ⟨s0, s1, s2⟩ := hSw); go_simp)
          simp only [Act.put, List.setIfInBounds_toArray, List.set_cons_zero, List.set_cons_succ]
          refine wpAnyH_ready (rs := [5, 9]) (by kernel_rfl) (by simp) ?_
          refine AllReadyH.cons rfl (fun K0 hK0 => ?_) (AllReadyH.cons rfl (fun K0 hK0 => ?_) AllReadyH.nil)
          · go_simp
            refine (add_any f A2 x c2 it 1 un (by simp [U]) hUx (by omega) _ (by exact HS2.out)).mono ?_
            rintro e w4 ⟨hb4, v4, rfl, hh4⟩
            rw [HN.out] at hh4 ⊢
            obtain ⟨A3, c3, rfl, hc3, hA3, hS3, hF3⟩ := hh4
            have hb5 : Below wr.heap.size wr w4 := ⟨hb4.os, hb4.tape, hb4.output, hb4.size, hb4.block⟩
            have HH3 : Hid (HeldB w4 w.heap.size (.slice A3 z.length c3) z) := ⟨A3, c3, rfl, hc3, hA3, hS3, hF3.from T.size⟩
            clear hc3 hA3 hS3 hF3 hb4
            simp only
            replace HX := Lib.hid (HX.out.later hb5)
            replace i1 := (hb5.cell (p := ⟨b, off + k, none⟩) hbw).trans i1
            replace T := Below.two T hb5
            replace hbw := Nat.lt_of_lt_of_le hbw hb5.size
            clear x0 x1
            have x0 := HX.out.d0
            have x1 := HX.out.d1
            clear hb5
            refine hK0.out _ _ ⟨x0, x1, i1⟩ (fun hHeld => ?_)
            clear hK0 K0
            try simp only [Act.put, List.setIfInBounds_toArray, List.set_cons_zero, List.set_cons_succ]
            refine wpAnyH_take (i := 6) (v := (.tuple #[.agg #[.int .i64 f, .slice A3 z.length c3], .int .i64 0])) rfl (by kernel_rfl) (by kernel_rfl) (by kernel_rfl) (fun _ _ _ h => h) (Or.inl ⟨by rfl, ?_⟩) hHeld ?_
            · (intro w hSw; (try dsimp only at hSw); (try obtain ⟨s0, s1, s2⟩ := hSw); go_simp)
            simp only [Act.put, List.setIfInBounds_toArray, List.set_cons_zero, List.set_cons_succ]
            refine wpAnyH_take (i := 7) (v := (.agg #[.int .i64 f, .slice A3 z.length c3])) rfl (by kernel_rfl) (by kernel_rfl) (by kernel_rfl) (fun _ _ _ h => h) (Or.inl ⟨by rfl, ?_⟩) hHeld ?_
            · (intro w hSw; (try dsimp only at hSw); (try obtain ⟨s0, s1, s2⟩ := hSw); go_simp)
            simp only [Act.put, List.setIfInBounds_toArray, List.set_cons_zero, List.set_cons_succ]
            refine wpAnyH_take (i := 8) (v := (.int .i64 0)) rfl (by kernel_rfl) (by kernel_rfl) (by kernel_rfl) (fun _ _ _ h => h) (Or.inl ⟨by rfl, ?_⟩) hHeld ?_
            · (intro w hSw; (try dsimp only at hSw); (try obtain ⟨s0, s1, s2⟩ := hSw); go_simp)
            simp only [Act.put, List.setIfInBounds_toArray, List.set_cons_zero, List.set_cons_succ]
            refine wpAnyH_ready (rs := [9]) (by kernel_rfl) (by simp) ?_
            refine AllReadyH.cons rfl (fun K0 hK0 => ?_) AllReadyH.nil
            go_simp
            have hba := below_al (below_0 w4) (.cells #[.int .i64 0, .slice none 0 0] 25)
            have N := Lib.hid (Blk.new w4 25 #[.int .i64 0, .slice none 0 0])
            have zb := HX.out.lt
            have zb2 := hbw
            have HH4 := Lib.hid (HH3.out.later hba)
            replace HX := Lib.hid (HX.out.later hba)
            replace i1 := (hba.cell (p := ⟨b, off + k, none⟩) hbw).trans i1
            replace T := Below.two T hba
            replace hbw := Nat.lt_of_lt_of_le hbw hba.size
            clear x0 x1
            have x0 := HX.out.d0
            have x1 := HX.out.d1
            clear hba
            generalize w4.alloc (.cells #[.int .i64 0, .slice none 0 0] 25) = w5 at *
            refine hK0.out _ _ ⟨x0, x1, i1⟩ (fun hHeld => ?_)
            clear hK0 K0
            try simp only [Act.put, List.setIfInBounds_toArray, List.set_cons_zero, List.set_cons_succ]
            refine wpAnyH_ready (rs := [10]) (by kernel_rfl) (by simp) ?_
            refine AllReadyH.cons rfl (fun K0 hK0 => ?_) AllReadyH.nil
            have zn := N.out.lt
            have fn0 := N.out.frozen 0
            have fn1 := N.out.frozen 1
            have y0 := N.out.d0
            have y1 := N.out.d1
            go_simp
            have ne1 : w0.heap.size ≠ w4.heap.size := by omega
            have ne2 : b ≠ w4.heap.size := by omega
            have GS := grow_set2 w5 w4.heap.size (.int .i64 f) (.slice A3 z.length c3)
            have X5 := Lib.hid (HX.out.grown GS (fun e => ne1 (by injection e)))
            have N5 := Lib.hid (N.out.set2 (x := .int .i64 f) (y := .slice A3 z.length c3))
            have H5 := Lib.hid (heldB_set2 (x := .int .i64 f) (y := .slice A3 z.length c3) HH4.out N.out)
            have T5 := Lib.hid (below_turned T GS (by omega))
            have j1 := (World.cell?_of_block (a := ⟨b, off + k, none⟩) (GS.block b hbw (fun e => ne2 (by injection e)))).trans i1
            clear GS x0 x1 i1 y0 y1 fn0 fn1
            refine hK0.out _ _ ⟨X5.out.d0, X5.out.d1, j1⟩ (fun hHeld => ?_)
            clear hK0 K0
            try simp only [Act.put, List.setIfInBounds_toArray, List.set_cons_zero, List.set_cons_succ]
            refine wpAnyH_take (i := 11) (v := (.int .i64 0)) rfl (by kernel_rfl) (by kernel_rfl) (by kernel_rfl) (fun _ _ _ h => h) (Or.inl ⟨by rfl, ?_⟩) hHeld ?_
            · (intro w hSw; go_simp)
            simp only [Act.put, List.setIfInBounds_toArray, List.set_cons_zero, List.set_cons_succ]
            refine wpAnyH_done (by kernel_rfl) ?_ _
            clear HX T HH4 HH3 N
            generalize (w5.setCell ⟨w4.heap.size, 0, none⟩ (.int .i64 f)).setCell ⟨w4.heap.size, 1, none⟩ (.slice A3 z.length c3) = w6 at *
            have n0 := N5.out.d0
            have n1 := N5.out.d1
            have x60 := X5.out.d0
            have x61 := X5.out.d1
            have g0 := X5.out.frozen 0
            have g1 := X5.out.frozen 1
            have z6 := X5.out.lt
            have z7 := N5.out.lt
            have hI : RwI w w0.heap.size f z ((w6.setCell ⟨w0.heap.size, 0, none⟩ (.int .i64 f)).setCell ⟨w0.heap.size, 1, none⟩ (.slice A3 z.length c3)) := ⟨⟨A3, c3, X5.out.set2, heldB_set2 H5.out X5.out⟩, below_set2 T5.out hgw _ _⟩
            have HI := Lib.hid hI
            have j2 : ((w6.setCell ⟨w0.heap.size, 0, none⟩ (.int .i64 f)).setCell ⟨w0.heap.size, 1, none⟩ (.slice A3 z.length c3)).cell? ⟨b, off + k, none⟩ = some (.int .u64 it) := (World.cell?_of_block (a := ⟨b, off + k, none⟩) ((grow_set2 w6 w0.heap.size _ _).block b (by omega) (fun e => nbg (by injection e)))).trans j1
            clear hI
            go_wp2_with fail
            go_roundw
            case rel => exact ⟨k + 1, by omega, by go_num, by rw [HC1.out]; exact int_eqq (by simp [c1]), by rw [HC2.out]; exact int_eqq (by simp [c2']), by rw [HZ.out]; exact HI.out⟩
            case measure => simp [RowKit.intOf]; omega
          · go_simp
            have hba := below_drewN (below_al (below_0 wr) (.cells #[.int .i64 0, .slice none 0 0] 25)) 1
            have N0 := Lib.hid (Blk.new wr 25 #[.int .i64 0, .slice none 0 0])
            have zb := HX.out.lt
            have zb2 := hbw
            have HS3 := Lib.hid (Sb.later HS2.out hba)
            replace HX := Lib.hid (HX.out.later hba)
            replace i1 := (hba.cell (p := ⟨b, off + k, none⟩) hbw).trans i1
            replace T := Below.two T hba
            replace hbw := Nat.lt_of_lt_of_le hbw hba.size
            clear x0 x1
            have x0 := HX.out.d0
            have x1 := HX.out.d1
            clear hba
            have N0 : Hid (Blk ((wr.alloc (.cells #[.int .i64 0, .slice none 0 0] 25)).drewN 1) wr.heap.size 25 #[.int .i64 0, .slice none 0 0]) := N0
            have hw5 : (wr.alloc (.cells #[.int .i64 0, .slice none 0 0] 25)).drewN 1 = (wr.alloc (.cells #[.int .i64 0, .slice none 0 0] 25)).drew := rfl
            rw [hw5] at HX T i1 hbw x0 x1 N0 HS3
            clear hw5
            generalize (wr.alloc (.cells #[.int .i64 0, .slice none 0 0] 25)).drew = w7 at *
            refine hK0.out _ _ ⟨x0, x1, i1⟩ (fun hHeld => ?_)
            clear hK0 K0
            try simp only [Act.put, List.setIfInBounds_toArray, List.set_cons_zero, List.set_cons_succ]
            refine wpAnyH_ready (rs := [5]) (by kernel_rfl) (by simp) ?_
            refine AllReadyH.cons rfl (fun K0 hK0 => ?_) AllReadyH.nil
            go_simp
            refine (add_any f A2 x c2 it 1 un (by simp [U]) hUx (by omega) _ (by exact HS3.out)).mono ?_
            rintro e w4 ⟨hb4, v4, rfl, hh4⟩
            rw [HN.out] at hh4 ⊢
            obtain ⟨A3, c3, rfl, hc3, hA3, hS3, hF3⟩ := hh4
            have hb5 : Below w7.heap.size w7 w4 := ⟨hb4.os, hb4.tape, hb4.output, hb4.size, hb4.block⟩
            have HH3 : Hid (HeldB w4 w.heap.size (.slice A3 z.length c3) z) := ⟨A3, c3, rfl, hc3, hA3, hS3, hF3.from T.size⟩
            clear hc3 hA3 hS3 hF3 hb4
            simp only
            have N := Lib.hid (N0.out.later hb5)
            replace HX := Lib.hid (HX.out.later hb5)
            replace i1 := (hb5.cell (p := ⟨b, off + k, none⟩) hbw).trans i1
            replace T := Below.two T hb5
            replace hbw := Nat.lt_of_lt_of_le hbw hb5.size
            clear x0 x1
            have x0 := HX.out.d0
            have x1 := HX.out.d1
            clear hb5
            have HH4 := HH3
            generalize w4 = w5 at *
            refine hK0.out _ _ ⟨x0, x1, i1⟩ (fun hHeld => ?_)
            clear hK0 K0
            try simp only [Act.put, List.setIfInBounds_toArray, List.set_cons_zero, List.set_cons_succ]
            refine wpAnyH_take (i := 6) (v := (.tuple #[.agg #[.int .i64 f, .slice A3 z.length c3], .int .i64 0])) rfl (by kernel_rfl) (by kernel_rfl) (by kernel_rfl) (fun _ _ _ h => h) (Or.inl ⟨by rfl, ?_⟩) hHeld ?_
            · (intro w hSw; (try dsimp only at hSw); (try obtain ⟨s0, s1, s2⟩ := hSw); go_simp)
            simp only [Act.put, List.setIfInBounds_toArray, List.set_cons_zero, List.set_cons_succ]
            refine wpAnyH_take (i := 7) (v := (.agg #[.int .i64 f, .slice A3 z.length c3])) rfl (by kernel_rfl) (by kernel_rfl) (by kernel_rfl) (fun _ _ _ h => h) (Or.inl ⟨by rfl, ?_⟩) hHeld ?_
            · (intro w hSw; (try dsimp only at hSw); (try obtain ⟨s0, s1, s2⟩ := hSw); go_simp)
            simp only [Act.put, List.setIfInBounds_toArray, List.set_cons_zero, List.set_cons_succ]
            refine wpAnyH_take (i := 8) (v := (.int .i64 0)) rfl (by kernel_rfl) (by kernel_rfl) (by kernel_rfl) (fun _ _ _ h => h) (Or.inl ⟨by rfl, ?_⟩) hHeld ?_
            · (intro w hSw; (try dsimp only at hSw); (try obtain ⟨s0, s1, s2⟩ := hSw); go_simp)
            simp only [Act.put, List.setIfInBounds_toArray, List.set_cons_zero, List.set_cons_succ]
            refine wpAnyH_ready (rs := [10]) (by kernel_rfl) (by simp) ?_
            refine AllReadyH.cons rfl (fun K0 hK0 => ?_) AllReadyH.nil
            have zn := N.out.lt
            have fn0 := N.out.frozen 0
            have fn1 := N.out.frozen 1
            have y0 := N.out.d0
            have y1 := N.out.d1
            go_simp
            have ne1 : w0.heap.size ≠ wr.heap.size := by omega
            have ne2 : b ≠ wr.heap.size := by omega
            have GS := grow_set2 w5 wr.heap.size (.int .i64 f) (.slice A3 z.length c3)
            have X5 := Lib.hid (HX.out.grown GS (fun e => ne1 (by injection e)))
            have N5 := Lib.hid (N.out.set2 (x := .int .i64 f) (y := .slice A3 z.length c3))
            have H5 := Lib.hid (heldB_set2 (x := .int .i64 f) (y := .slice A3 z.length c3) HH4.out N.out)
            have T5 := Lib.hid (below_turned T GS (by omega))
            have j1 := (World.cell?_of_block (a := ⟨b, off + k, none⟩) (GS.block b hbw (fun e => ne2 (by injection e)))).trans i1
            clear GS x0 x1 i1 y0 y1 fn0 fn1
            refine hK0.out _ _ ⟨X5.out.d0, X5.out.d1, j1⟩ (fun hHeld => ?_)
            clear hK0 K0
            try simp only [Act.put, List.setIfInBounds_toArray, List.set_cons_zero, List.set_cons_succ]
            refine wpAnyH_take (i := 11) (v := (.int .i64 0)) rfl (by kernel_rfl) (by kernel_rfl) (by kernel_rfl) (fun _ _ _ h => h) (Or.inl ⟨by rfl, ?_⟩) hHeld ?_
            · (intro w hSw; go_simp)
            simp only [Act.put, List.setIfInBounds_toArray, List.set_cons_zero, List.set_cons_succ]
            refine wpAnyH_done (by kernel_rfl) ?_ _
            clear HX T HH4 HH3 N
            generalize (w5.setCell ⟨wr.heap.size, 0, none⟩ (.int .i64 f)).setCell ⟨wr.heap.size, 1, none⟩ (.slice A3 z.length c3) = w6 at *
            have n0 := N5.out.d0
            have n1 := N5.out.d1
            have x60 := X5.out.d0
            have x61 := X5.out.d1
            have g0 := X5.out.frozen 0
            have g1 := X5.out.frozen 1
            have z6 := X5.out.lt
            have z7 := N5.out.lt
            have hI : RwI w w0.heap.size f z ((w6.setCell ⟨w0.heap.size, 0, none⟩ (.int .i64 f)).setCell ⟨w0.heap.size, 1, none⟩ (.slice A3 z.length c3)) := ⟨⟨A3, c3, X5.out.set2, heldB_set2 H5.out X5.out⟩, below_set2 T5.out hgw _ _⟩
            have HI := Lib.hid hI
            have j2 : ((w6.setCell ⟨w0.heap.size, 0, none⟩ (.int .i64 f)).setCell ⟨w0.heap.size, 1, none⟩ (.slice A3 z.length c3)).cell? ⟨b, off + k, none⟩ = some (.int .u64 it) := (World.cell?_of_block (a := ⟨b, off + k, none⟩) ((grow_set2 w6 w0.heap.size _ _).block b (by omega) (fun e => nbg (by injection e)))).trans j1
            clear hI
            go_wp2_with fail
            go_roundw
            case rel => exact ⟨k + 1, by omega, by go_num, by rw [HC1.out]; exact int_eqq (by simp [c1]), by rw [HC2.out]; exact int_eqq (by simp [c2']), by rw [HZ.out]; exact HI.out⟩
            case measure => simp [RowKit.intOf]; omega
    · obtain rfl : k = l.length := by omega
      rw [List.take_of_length_le (Nat.le_refl _)]
      rw [HEL.out] at HX HH x1
      obtain ⟨A2', c2', e2, hc2, hA2, hS2, hF2⟩ := HH.out
      cases e2
      have S2 := Lib.hid hS2
      have ul : U (cnt l qt) := by have := cnt_bd l qt; unfold U; omega
      have un : U (l.length : Int) := by unfold U; omega
      have hlu : IntKind.u64.wrap (l.length : Int) = (l.length : Int) := by rw [IntKind.wrap_u64]; unfold U at un; omega
      have upm : U pm := by unfold I64 at hplace; unfold U; omega
      have hpu : IntKind.u64.wrap pm = pm := by rw [IntKind.wrap_u64]; unfold U at upm; omega
      clear hS2 hF2 hA2 hc2 bl1 bl2 ht
      have HLL : Hid (cnt l v ≤ cnt l qt) := HLE
      generalize hcv : cnt l v = lo at *
      generalize hcq : cnt l qt = hi at *
      have d1 : decide (hi < lo) = false := by simp; omega
      have e90 : Hid (cnt l v = lo) := hcv
      clear hcv hcq e90
      by_cases hn : nl ≤ 100
      · have hlast : decide ((l.length : Int) < (nl : Int)) = false := by simp; omega
        have hlast' : decide (l.length < nl) = false := by simp; omega
        go_wp2_with fail
        refine (rank_any f A2 L c2 v hv uL (by omega) _ S2.out).mono ?_
        rintro e w4 ⟨rfl, hb4⟩
        rw [HRK.out]
        replace S2 := Lib.hid (Sb.later S2.out hb4)
        replace HX := Lib.hid (HX.out.later hb4)
        replace T := Below.two T hb4
        clear hb4 x0 x1
        have x0 := HX.out.d0
        have x1 := HX.out.d1
        go_wp2_with fail
        refine (total_any f A2 L c2 uL (by omega) _ S2.out).mono ?_
        rintro e w5 ⟨rfl, hb5⟩
        rw [HTT.out]
        replace S2 := Lib.hid (Sb.later S2.out hb5)
        replace HX := Lib.hid (HX.out.later hb5)
        replace T := Below.two T hb5
        clear hb5 x0 x1
        have x0 := HX.out.d0
        have x1 := HX.out.d1
        go_wp2_with fail
        by_cases p1 : place < 0
        · have pz : pm = 0 := by omega
          have PZ := Lib.hid pz
          by_cases p2 : l.length = 0
          · have ES := Lib.hid (HNO.out pm (by omega))
            have dn : decide (0 < nl) = false := by simp; omega
            have dn' : decide ((0 : Int) < (nl : Int)) = false := by simp; omega
            have dn2 : ¬ 0 < nl := by omega
            clear pz p2
            refine (select_any f A2 L c2 pm uL (by omega) _ S2.out).mono ?_
            rintro e w6 ⟨rfl, hb6⟩
            rw [ES.out]
            go_wp2_with fail
            go_ret
            exact ⟨ret_bool (by first | rfl | simp | (simp; omega)), Below.two T hb6⟩
          · obtain ⟨a, b, es, _⟩ := HSO.out pm (by omega) (by omega)
            have ES := Lib.hid es
            have dn : decide (0 < nl) = true := by simp; omega
            have dn2 : 0 < nl := by omega
            clear es pz p2
            refine (select_any f A2 L c2 pm uL (by omega) _ S2.out).mono ?_
            rintro e w6 ⟨rfl, hb6⟩
            rw [ES.out]
            go_wp2_with fail
            go_ret
            exact ⟨ret_bool (by first | rfl | simp | (simp; omega)), Below.two T hb6⟩
        · have pz : pm = place := by omega
          have hpw : IntKind.u64.wrap place = place := by rw [← pz]; exact hpu
          by_cases p2 : (l.length : Int) ≤ place
          · have ES := Lib.hid (HNO.out pm (by omega))
            clear pz
            refine (select_any f A2 L c2 pm uL (by omega) _ S2.out).mono ?_
            rintro e w6 ⟨rfl, hb6⟩
            rw [ES.out]
            go_wp2_with fail
            go_ret
            exact ⟨ret_bool (by first | rfl | simp | (simp; omega)), Below.two T hb6⟩
          · obtain ⟨a, b, es, ua, ub, hgt, hlo⟩ := HSO.out pm (by omega) (by omega)
            have ES := Lib.hid es
            rw [pz] at hgt hlo
            obtain ⟨rb, hrb⟩ : ∃ r, rankF f L b = r := ⟨_, rfl⟩
            rw [hrb] at hgt
            have HRB := Lib.hid hrb
            have HLO := Lib.hid hlo
            clear es pz hrb hlo
            refine (select_any f A2 L c2 pm uL (by omega) _ S2.out).mono ?_
            rintro e w6 ⟨rfl, hb6⟩
            rw [ES.out]
            replace S2 := Lib.hid (Sb.later S2.out hb6)
            replace HX := Lib.hid (HX.out.later hb6)
            replace T := Below.two T hb6
            clear hb6 x0 x1
            have x0 := HX.out.d0
            have x1 := HX.out.d1
            go_wp2_with fail
            refine (rank_any f A2 L c2 b ub uL (by omega) _ S2.out).mono ?_
            rintro e w7 ⟨rfl, hb7⟩
            rw [HRB.out]
            replace S2 := Lib.hid (Sb.later S2.out hb7)
            replace HX := Lib.hid (HX.out.later hb7)
            replace T := Below.two T hb7
            clear hb7 x0 x1
            have x0 := HX.out.d0
            have x1 := HX.out.d1
            by_cases ha : a = 0
            · have da : (a == 0) = true := by simp [ha]
              clear ha
              go_wp2_with fail
              go_ret
              exact ⟨ret_bool (by first | rfl | simp | (simp; omega)), T⟩
            · have da : (a == 0) = false := by simp [ha]
              obtain ⟨a1, hra⟩ := HLO.out.resolve_left ha
              have a2 : a ≤ 18446744073709551615 := ua.2
              have ua1 : U (a - 1) := by unfold U at *; omega
              obtain ⟨ra, hre⟩ : ∃ r, rankF f L (a - 1) = r := ⟨_, rfl⟩
              rw [hre] at hra
              have HRA := Lib.hid hre
              clear ha hre
              go_wp2_with fail
              refine (rank_any f A2 L c2 (a - 1) ua1 uL (by omega) _ S2.out).mono ?_
              rintro e w8 ⟨rfl, hb8⟩
              rw [HRA.out]
              go_wp2_with fail
              go_ret
              exact ⟨ret_bool (by first | rfl | simp | (simp; omega)), Below.two T hb8⟩
      · have hlast : decide ((l.length : Int) < 100) = false := by simp; omega
        have hlast' : decide (l.length < 100) = false := by simp; omega
        have hlt1 : (l.length : Int) < (nl : Int) := by omega
        have hlt2 : l.length < nl := by omega
        go_wp2_with fail
        refine (rank_any f A2 L c2 v hv uL (by omega) _ S2.out).mono ?_
        rintro e w4 ⟨rfl, hb4⟩
        rw [HRK.out]
        replace S2 := Lib.hid (Sb.later S2.out hb4)
        replace HX := Lib.hid (HX.out.later hb4)
        replace T := Below.two T hb4
        clear hb4 x0 x1
        have x0 := HX.out.d0
        have x1 := HX.out.d1
        go_wp2_with fail
        refine (total_any f A2 L c2 uL (by omega) _ S2.out).mono ?_
        rintro e w5 ⟨rfl, hb5⟩
        rw [HTT.out]
        replace S2 := Lib.hid (Sb.later S2.out hb5)
        replace HX := Lib.hid (HX.out.later hb5)
        replace T := Below.two T hb5
        clear hb5 x0 x1
        have x0 := HX.out.d0
        have x1 := HX.out.d1
        go_wp2_with fail
        by_cases p1 : place < 0
        · have pz : pm = 0 := by omega
          have PZ := Lib.hid pz
          by_cases p2 : l.length = 0
          · have ES := Lib.hid (HNO.out pm (by omega))
            have dn : decide (0 < nl) = false := by simp; omega
            have dn' : decide ((0 : Int) < (nl : Int)) = false := by simp; omega
            have dn2 : ¬ 0 < nl := by omega
            clear pz p2
            refine (select_any f A2 L c2 pm uL (by omega) _ S2.out).mono ?_
            rintro e w6 ⟨rfl, hb6⟩
            rw [ES.out]
            go_wp2_with fail
            go_ret
            exact ⟨ret_bool (by first | rfl | simp | (simp; omega)), Below.two T hb6⟩
          · obtain ⟨a, b, es, _⟩ := HSO.out pm (by omega) (by omega)
            have ES := Lib.hid es
            have dn : decide (0 < nl) = true := by simp; omega
            have dn2 : 0 < nl := by omega
            clear es pz p2
            refine (select_any f A2 L c2 pm uL (by omega) _ S2.out).mono ?_
            rintro e w6 ⟨rfl, hb6⟩
            rw [ES.out]
            go_wp2_with fail
            go_ret
            exact ⟨ret_bool (by first | rfl | simp | (simp; omega)), Below.two T hb6⟩
        · have pz : pm = place := by omega
          have hpw : IntKind.u64.wrap place = place := by rw [← pz]; exact hpu
          by_cases p2 : (l.length : Int) ≤ place
          · have ES := Lib.hid (HNO.out pm (by omega))
            clear pz
            refine (select_any f A2 L c2 pm uL (by omega) _ S2.out).mono ?_
            rintro e w6 ⟨rfl, hb6⟩
            rw [ES.out]
            go_wp2_with fail
            go_ret
            exact ⟨ret_bool (by first | rfl | simp | (simp; omega)), Below.two T hb6⟩
          · obtain ⟨a, b, es, ua, ub, hgt, hlo⟩ := HSO.out pm (by omega) (by omega)
            have ES := Lib.hid es
            rw [pz] at hgt hlo
            obtain ⟨rb, hrb⟩ : ∃ r, rankF f L b = r := ⟨_, rfl⟩
            rw [hrb] at hgt
            have HRB := Lib.hid hrb
            have HLO := Lib.hid hlo
            clear es pz hrb hlo
            refine (select_any f A2 L c2 pm uL (by omega) _ S2.out).mono ?_
            rintro e w6 ⟨rfl, hb6⟩
            rw [ES.out]
            replace S2 := Lib.hid (Sb.later S2.out hb6)
            replace HX := Lib.hid (HX.out.later hb6)
            replace T := Below.two T hb6
            clear hb6 x0 x1
            have x0 := HX.out.d0
            have x1 := HX.out.d1
            go_wp2_with fail
            refine (rank_any f A2 L c2 b ub uL (by omega) _ S2.out).mono ?_
            rintro e w7 ⟨rfl, hb7⟩
            rw [HRB.out]
            replace S2 := Lib.hid (Sb.later S2.out hb7)
            replace HX := Lib.hid (HX.out.later hb7)
            replace T := Below.two T hb7
            clear hb7 x0 x1
            have x0 := HX.out.d0
            have x1 := HX.out.d1
            by_cases ha : a = 0
            · have da : (a == 0) = true := by simp [ha]
              clear ha
              go_wp2_with fail
              go_ret
              exact ⟨ret_bool (by first | rfl | simp | (simp; omega)), T⟩
            · have da : (a == 0) = false := by simp [ha]
              obtain ⟨a1, hra⟩ := HLO.out.resolve_left ha
              have a2 : a ≤ 18446744073709551615 := ua.2
              have ua1 : U (a - 1) := by unfold U at *; omega
              obtain ⟨ra, hre⟩ : ∃ r, rankF f L (a - 1) = r := ⟨_, rfl⟩
              rw [hre] at hra
              have HRA := Lib.hid hre
              clear ha hre
              go_wp2_with fail
              refine (rank_any f A2 L c2 (a - 1) ua1 uL (by omega) _ S2.out).mono ?_
              rintro e w8 ⟨rfl, hb8⟩
              rw [HRA.out]
              go_wp2_with fail
              go_ret
              exact ⟨ret_bool (by first | rfl | simp | (simp; omega)), Below.two T hb8⟩
theorem histRanks_walk (w : World) (f v place : Int) (nl capl : Nat) (al : Option Addr) (l : List Int) (hv : U v) (hU : Us l) (hsl : Sl w w.heap.size al l) (hk : min (nl : Int) 100 = (l.length : Int)) (hnl : nl ≤ 9223372036854775807) (h100 : l.length ≤ 100) (hplace : I64 place) :
    Calls Try.prog 7 #[.int .i64 f, .slice al nl capl, .int .u64 v, .int .i64 place] w fun e w' => e = .returned (.bool true) ∧ Below w.heap.size w w' := by
  cases hf : fineB f with
  | false => exact histRanks_bad f v place al nl capl w hf
  | true => exact histRanks_good w f v place _ nl capl al l hf hv hU hsl hk hnl h100 hplace rfl
end Go.Proofs.Ytopddcabaiicgaa

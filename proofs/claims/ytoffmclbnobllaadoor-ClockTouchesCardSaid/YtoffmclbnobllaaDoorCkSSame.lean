/-
  series.Same.
-/
import Derived.Test.YtoffmclbnobllaaDoorCkSeries
namespace Go.Proofs.YtoffmclbnobllaaDoor
open Go.RowKit
set_option linter.unusedVariables false
set_option linter.unusedSimpArgs false
theorem tx_eq {s t : ByteArray} : tx s = tx t ↔ s = t := ⟨fun h => tx_inj h, fun h => by rw [h]⟩
def sameL (l m : List Lab) : Bool := decide (l = m)
theorem take_eq_succ {l m : List Lab} {k : Nat} (h : l.take k = m.take k) (h1 : k < l.length) (h2 : k < m.length) (he : lth l k = lth m k) : l.take (k + 1) = m.take (k + 1) := by
  rw [take_lth_succ h1, take_lth_succ h2, h, he]
set_option maxRecDepth 100000 in
set_option maxHeartbeats 4000000 in
theorem equalL_any (A C : Option Addr) (l m : List Lab) (cap capm : Nat) (hl : l.length ≤ 4294967296) (hm : m.length ≤ 4294967296) (w : World) (hS : Lb w w.heap.size A l) (hM : Lb w w.heap.size C m) :
    Calls Tryd.prog 21 #[.slice A l.length cap, .slice C m.length capm] w fun e w' => e = .returned (.bool (sameL l m)) ∧ ∃ n, w' = w.drewN n := by
  by_cases hlen : l.length = m.length
  · have HS := Lib.hid hS
    have HM := Lib.hid hM
    have HL := Lib.hid hlen
    have d0 : ((l.length : Int) != (m.length : Int)) = false := by simp [hlen]
    clear hS hM hlen
    go_enter Tryd.func21, Tryd.ntmps21
    go_wp2_with fail
    clear d0
    go_loopw [13] (fun i wr => ∃ k n : Nat, i = .int .i64 (k : Int) ∧ k ≤ l.length ∧ Hid (l.take k = m.take k) ∧ wr = w.drewN n) (fun i _ => l.length - (RowKit.intOf i).toNat)
    case atStart => exact ⟨0, 0, rfl, Nat.zero_le _, rfl, rfl⟩
    case round =>
      obtain ⟨k, n, rfl, hk, HE, rfl⟩ := hrel
      by_cases h1 : k < l.length
      · have h2 : k < m.length := by rw [← HL.out]; exact h1
        have d1 : decide ((k : Int) < (l.length : Int)) = true := decide_eq_true (by omega)
        obtain ⟨b, off, rfl, hb, hc⟩ := HS.out.at_ (by omega)
        obtain ⟨i1, i2⟩ := hc k h1
        obtain ⟨b', off', rfl, hb', hc'⟩ := HM.out.at_ (by omega)
        obtain ⟨j1, j2⟩ := hc' k h2
        have hi1 : (0 : Int) ≤ (k : Int) := by omega
        have hi2 : (k : Int) < (l.length : Int) := by omega
        have hi3 : (k : Int) < (m.length : Int) := by omega
        have HX : Hid (lth l k = lth m k → l.take (k + 1) = m.take (k + 1)) := fun h => take_eq_succ HE.out h1 h2 h
        have HN : Hid (¬ lth l k = lth m k → sameL l m = false) := fun h => by
          unfold sameL
          simp only [decide_eq_false_iff_not]
          rintro rfl
          exact h rfl
        clear hc hc'
        generalize lth l k = x at *
        generalize lth m k = y at *
        obtain ⟨x1, x2⟩ := x
        obtain ⟨y1, y2⟩ := y
        simp only at i1 i2 j1 j2
        by_cases e1 : x1.toList = y1.toList
        · have b1 : (x1.toList == y1.toList) = true := by rw [beq_iff_eq]; exact e1
          have e1' : x1 = y1 := tx_eq.1 (by rw [← tx_toList, ← tx_toList, e1])
          by_cases e2 : x2.toList = y2.toList
          · have b2 : (x2.toList == y2.toList) = true := by rw [beq_iff_eq]; exact e2
            have HR := Lib.hid (HX.out (by rw [e1', tx_eq.1 (show tx x2 = tx y2 by rw [← tx_toList, ← tx_toList, e2])]))
            clear e1' HX HN
            go_wp2_with fail
            go_quiet (fail)
            go_wp2_with fail
            go_roundw
            case rel => exact ⟨k + 1, _, by go_num, by omega, HR.out, rfl⟩
            case measure => simp [RowKit.intOf]; omega
          · have b2 : (x2.toList == y2.toList) = false := by rw [beq_eq_false_iff_ne]; exact e2
            have HR := Lib.hid (HN.out (fun e => e2 (by injection e with _ e; rw [e])))
            clear e1' HX HN
            go_wp2_with fail
            go_quiet (fail)
            go_wp2_with fail
            go_ret
            exact ⟨ret_bool HR.out.symm, _, World.drewN_drewN _ _ _⟩
        · have b1 : (x1.toList == y1.toList) = false := by rw [beq_eq_false_iff_ne]; exact e1
          have HR := Lib.hid (HN.out (fun e => e1 (by injection e with e _; rw [e])))
          clear HX HN
          go_wp2_with fail
          go_quiet (fail)
          go_wp2_with fail
          go_ret
          exact ⟨ret_bool HR.out.symm, _, World.drewN_drewN _ _ _⟩
      · have hkk : k = l.length := by omega
        subst hkk
        have HR : Hid (sameL l m = true) := by
          show _ = _
          have := HE.out
          rw [List.take_length, HL.out, List.take_length] at this
          unfold sameL; simpa using this
        clear HL HE
        have d1 : decide ((l.length : Int) < (l.length : Int)) = false := by simp
        go_wp2_with fail
        go_ret
        exact ⟨ret_bool HR.out.symm, _, rfl⟩
  · have d0 : ((l.length : Int) != (m.length : Int)) = true := by simp; omega
    have HR : Hid (sameL l m = false) := by show _ = _; unfold sameL; simp only [decide_eq_false_iff_not]; rintro rfl; exact hlen rfl
    clear hS hM
    go_enter Tryd.func21, Tryd.ntmps21
    go_wp2_with fail
    go_ret
    exact ⟨ret_bool HR.out.symm, 0, rfl⟩
theorem equalL_below (A C : Option Addr) (l m : List Lab) (cap capm : Nat) (hl : l.length ≤ 4294967296) (hm : m.length ≤ 4294967296) {v : Bool} (hv : sameL l m = v) (w : World) (hS : Lb w w.heap.size A l) (hM : Lb w w.heap.size C m) :
    Calls Tryd.prog 21 #[.slice A l.length cap, .slice C m.length capm] w fun e w' => e = .returned (.bool v) ∧ Below w.heap.size w w' :=
  (equalL_any A C l m cap capm hl hm w hS hM).mono fun _ _ ⟨h1, n, h2⟩ => ⟨hv ▸ h1, h2 ▸ below_drewN (below_0 _) n⟩
def sameS (x y : Ser) : Bool := decide (x = y)
set_option maxRecDepth 100000 in
set_option maxHeartbeats 8000000 in
theorem same1_any (x y : SerM) (w : World) (hx : SerOk w w.heap.size x) (hy : SerOk w w.heap.size y) (fx : SerFit x.s) (fy : SerFit y.s) :
    Calls Tryd.prog 20 #[serV x, serV y] w fun e w' => e = .returned (.bool (sameS x.s y.s)) ∧ Below w.heap.size w w' := by
  have hb0 := Lib.hid (below_al (below_al (below_0 w) (.cells (serA x) 43)) (.cells (serA y) 43))
  have XB := Lib.hid ((Blk.new w 43 (serA x)).alloc (.cells (serA y) 43))
  have YB : Hid (Blk ((w.alloc (.cells (serA x) 43)).alloc (.cells (serA y) 43)) (w.heap.size + 1) 43 (serA y)) := by
    have h : (w.alloc (.cells (serA x) 43)).heap.size = w.heap.size + 1 := by simp
    have := Blk.new (w.alloc (.cells (serA x) 43)) 43 (serA y)
    rw [h] at this
    exact this
  have hx1 := hx.later hb0.out
  have hy1 := hy.later hb0.out
  have QL := Lib.hid (equalL_below x.la y.la x.s.l y.s.l x.lc y.lc (by have := fx.l; omega) (by have := fy.l; omega) rfl _ hx1.l hy1.l)
  have QK : Hid (∀ w', Below ((w.alloc (.cells (serA x) 43)).alloc (.cells (serA y) 43)).heap.size ((w.alloc (.cells (serA x) 43)).alloc (.cells (serA y) 43)) w' → Calls Tryd.prog 22 #[skV x.m, skV y.m] w' fun e w'' => e = .returned (.bool (decide (x.s.k = y.s.k))) ∧ Below w'.heap.size w' w'') := fun w' h => by
    have := ksame_any x.m y.m w' (hx1.later h).k (hy1.later h).k (by rw [x.hk]; exact fx.k) (by rw [y.hk]; exact fy.k)
    rw [x.hk, y.hk] at this
    exact this
  have HR : Hid (sameS x.s y.s = (decide (x.s.seen = y.s.seen) && (sameL x.s.l y.s.l && decide (x.s.k = y.s.k)))) := by
    show _ = _
    have : (x.s = y.s) ↔ (x.s.seen = y.s.seen ∧ x.s.l = y.s.l ∧ x.s.k = y.s.k) := by
      cases x.s; cases y.s; simp; constructor
      · rintro ⟨a, b, c⟩; exact ⟨c, a, b⟩
      · rintro ⟨c, a, b⟩; exact ⟨a, b, c⟩
    unfold sameS sameL
    rw [decide_eq_decide.2 this, Bool.decide_and, Bool.decide_and]
  clear hx hy hx1 hy1 fx fy
  generalize decide (x.s.k = y.s.k) = dk at *
  generalize sameL x.s.l y.s.l = dl at *
  generalize sameS x.s y.s = ds at *
  obtain ⟨⟨l, k, seen⟩, ⟨⟨kind, level, e, bits, regs, rows, cols, c, fine, g⟩, ea, ec, ca, cc, ga, gc⟩, la, lc, hk⟩ := x
  obtain ⟨⟨l', k', seen'⟩, ⟨⟨kind', level', e', bits', regs', rows', cols', c', fine', g'⟩, ea', ec', ca', cc', ga', gc'⟩, la', lc', hk'⟩ := y
  unfold serV serA skV at *
  simp only at QL QK XB YB hb0 ⊢
  replace HR : Hid (ds = (decide (seen = seen') && (dl && dk))) := HR
  clear hk hk'
  by_cases h1 : seen = seen'
  · have b1 : (seen == seen') = true := by rw [beq_iff_eq]; exact h1
    replace HR : Hid (ds = (dl && dk)) := by have := HR.out; rw [decide_eq_true h1, Bool.true_and] at this; exact this
    clear h1
    cases dl with
    | false =>
      go_enter Tryd.func20, Tryd.ntmps20
      go_wp2_with fail
      refine QL.out.mono ?_
      rintro r w1 ⟨rfl, hb2⟩
      go_wp2_with fail
      go_ret
      exact ⟨by rw [HR.out]; rfl, Below.two hb0.out hb2⟩
    | true =>
      go_enter Tryd.func20, Tryd.ntmps20
      go_wp2_with fail
      refine QL.out.mono ?_
      rintro r w1 ⟨rfl, hb2⟩
      have HB2 := Lib.hid hb2
      have X1 := Lib.hid (XB.out.later hb2)
      have Y1 := Lib.hid (YB.out.later hb2)
      clear hb2 QL XB YB
      have x1 := X1.out.cell 1
      have x2 := X1.out.cell 2
      have x3 := X1.out.cell 3
      have x4 := X1.out.cell 4
      have x5 := X1.out.cell 5
      have x6 := X1.out.cell 6
      have x7 := X1.out.cell 7
      have x8 := X1.out.cell 8
      have x9 := X1.out.cell 9
      have x10 := X1.out.cell 10
      have y1 := Y1.out.cell 1
      have y2 := Y1.out.cell 2
      have y3 := Y1.out.cell 3
      have y4 := Y1.out.cell 4
      have y5 := Y1.out.cell 5
      have y6 := Y1.out.cell 6
      have y7 := Y1.out.cell 7
      have y8 := Y1.out.cell 8
      have y9 := Y1.out.cell 9
      have y10 := Y1.out.cell 10
      simp only [List.getElem?_toArray, List.getElem?_cons_zero, List.getElem?_cons_succ] at x1 y1 x2 y2 x3 y3 x4 y4 x5 y5 x6 y6 x7 y7 x8 y8 x9 y9 x10 y10
      go_wp2_with fail
      refine (QK.out _ HB2.out).mono ?_
      rintro r w2 ⟨rfl, hb3⟩
      go_wp2_with fail
      go_ret
      exact ⟨by rw [HR.out]; rfl, Below.two hb0.out (Below.two HB2.out hb3)⟩
  · have b1 : (seen == seen') = false := by rw [beq_eq_false_iff_ne]; exact h1
    replace HR : Hid (ds = false) := by have := HR.out; rw [decide_eq_false h1, Bool.false_and] at this; exact this
    clear h1
    go_enter Tryd.func20, Tryd.ntmps20
    go_wp2_with fail
    go_ret
    exact ⟨by rw [HR.out]; rfl, hb0.out⟩
def sameT (a b : List Ser) : Bool := decide (a = b)
theorem sers_take_succ {a b : List SerM} {k : Nat} (h : (a.map (·.s)).take k = (b.map (·.s)).take k) (h1 : k < a.length) (h2 : k < b.length) (he : a[k].s = b[k].s) : (a.map (·.s)).take (k + 1) = (b.map (·.s)).take (k + 1) := by
  rw [List.take_succ_eq_append_getElem (by rw [List.length_map]; exact h1), List.take_succ_eq_append_getElem (by rw [List.length_map]; exact h2), h]
  simp [he]
set_option maxRecDepth 100000 in
set_option maxHeartbeats 8000000 in
theorem equalF_any (A C : Option Addr) (ms ns : List SerM) (cap capn : Nat) (hl : ms.length ≤ 1000) (hl2 : ns.length ≤ 1000) (hf : ∀ m ∈ ms, SerFit m.s) (hg : ∀ m ∈ ns, SerFit m.s) (w : World) (hS : Tab w w.heap.size A ms) (hM : Tab w w.heap.size C ns) :
    Calls Tryd.prog 19 #[.slice A ms.length cap, .slice C ns.length capn, .func (.func 20) #[] #[]] w fun e w' => e = .returned (.bool (sameT (ms.map (·.s)) (ns.map (·.s)))) ∧ Below w.heap.size w w' := by
  by_cases hlen : ms.length = ns.length
  · have HS := Lib.hid hS
    have HM := Lib.hid hM
    have HF := Lib.hid hf
    have HG := Lib.hid hg
    have HL := Lib.hid hlen
    have d0 : ((ms.length : Int) != (ns.length : Int)) = false := by simp [hlen]
    clear hS hM hlen hf hg
    go_enter Tryd.func19, Tryd.ntmps19
    go_wp2_with fail
    clear d0
    go_loopw [17] (fun i wr => ∃ k : Nat, i = .int .i64 (k : Int) ∧ k ≤ ms.length ∧ Hid ((ms.map (·.s)).take k = (ns.map (·.s)).take k) ∧ Hid (Below w.heap.size w wr)) (fun i _ => ms.length - (RowKit.intOf i).toNat)
    case atStart => exact ⟨0, rfl, Nat.zero_le _, rfl, below_0 _⟩
    case round =>
      obtain ⟨k, rfl, hk, HE, HB⟩ := hrel
      by_cases h1 : k < ms.length
      · have h2 : k < ns.length := by rw [← HL.out]; exact h1
        have d1 : decide ((k : Int) < (ms.length : Int)) = true := decide_eq_true (by omega)
        obtain ⟨b, off, rfl, hb, hc⟩ := HS.out.at_ (by omega)
        obtain ⟨i0, i1, i2, i3, i4, i5, i6, i7, i8, i9, i10, i11⟩ := (hc k h1).below HB.out hb
        obtain ⟨b', off', rfl, hb', hc'⟩ := HM.out.at_ (by omega)
        have HAT2 : Hid (SerAt w b' (off' + k * 12) ns[k]) := hc' k h2
        have hi1 : (0 : Int) ≤ (k : Int) := by omega
        have hi2 : (k : Int) < (ms.length : Int) := by omega
        have hi3 : (k : Int) < (ns.length : Int) := by omega
        have HO1 := Lib.hid ((HS.out.ok _ (List.getElem_mem h1)).later HB.out)
        have HO2 := Lib.hid ((HM.out.ok _ (List.getElem_mem h2)).later HB.out)
        have HF1 := Lib.hid (HF.out _ (List.getElem_mem h1))
        have HF2 := Lib.hid (HG.out _ (List.getElem_mem h2))
        have HX : Hid (ms[k].s = ns[k].s → (ms.map (·.s)).take (k + 1) = (ns.map (·.s)).take (k + 1)) := fun h => sers_take_succ HE.out h1 h2 h
        have HN : Hid (¬ ms[k].s = ns[k].s → sameT (ms.map (·.s)) (ns.map (·.s)) = false) := fun h => by
          unfold sameT
          simp only [decide_eq_false_iff_not]
          intro e
          apply h
          have : (ms.map (·.s))[k]? = (ns.map (·.s))[k]? := by rw [e]
          simpa [h1, h2] using this
        clear hc hc'
        generalize ms[k] = x at *
        generalize ns[k] = y at *
        have hbw' : b' < wr.heap.size := by have := HB.out.size; omega
        obtain ⟨j0, j1, j2, j3, j4, j5, j6, j7, j8, j9, j10, j11⟩ := HAT2.out.below HB.out hb'
        clear HAT2
        go_wp2_with fail
        have hb1 := Lib.hid (below_al (below_al (below_0 wr) (.cells (serA x) 43)) (.cells (serA y) 43))
        have QS := Lib.hid (same1_any x y ((wr.alloc (.cells (serA x) 43)).alloc (.cells (serA y) 43)) (HO1.out.later hb1.out) (HO2.out.later hb1.out) HF1.out HF2.out)
        clear HO1 HO2 HF1 HF2 i0 i1 i2 i3 i4 i5 i6 i7 i8 i9 i10 i11 j0 j1 j2 j3 j4 j5 j6 j7 j8 j9 j10 j11
        refine QS.out.mono ?_
        rintro r w1 ⟨rfl, hb2⟩
        have HB2 := Lib.hid (Below.two HB.out (Below.two hb1.out hb2))
        clear hb1 hb2 QS
        by_cases he : x.s = y.s
        · have hs : sameS x.s y.s = true := by unfold sameS; exact decide_eq_true he
          have HR := Lib.hid (HX.out he)
          rw [hs]
          clear HX HN hs he
          go_wp2_with fail
          go_roundw
          case rel => exact ⟨k + 1, by go_num, by omega, HR.out, HB2.out⟩
          case measure => simp [RowKit.intOf]; omega
        · have hs : sameS x.s y.s = false := by unfold sameS; exact decide_eq_false he
          have HR := Lib.hid (HN.out he)
          rw [hs]
          clear HX HN hs he
          go_wp2_with fail
          go_ret
          exact ⟨by rw [HR.out]; rfl, HB2.out⟩
      · have hkk : k = ms.length := by omega
        subst hkk
        have HR : Hid (sameT (ms.map (·.s)) (ns.map (·.s)) = true) := by
          show _ = _
          have := HE.out
          rw [List.take_of_length_le (by rw [List.length_map]; exact Nat.le_refl _), List.take_of_length_le (by rw [List.length_map, HL.out]; exact Nat.le_refl _)] at this
          unfold sameT; simpa using this
        have d1 : decide ((ms.length : Int) < (ms.length : Int)) = false := by simp
        clear HL HE
        go_wp2_with fail
        go_ret
        exact ⟨by rw [HR.out]; rfl, HB.out⟩
  · have d0 : ((ms.length : Int) != (ns.length : Int)) = true := by simp; omega
    have HR : Hid (sameT (ms.map (·.s)) (ns.map (·.s)) = false) := by
      show _ = _; unfold sameT; simp only [decide_eq_false_iff_not]
      intro e
      have := congrArg List.length e
      rw [List.length_map, List.length_map] at this
      exact hlen this
    clear hS hM
    go_enter Tryd.func19, Tryd.ntmps19
    go_wp2_with fail
    go_ret
    exact ⟨by rw [HR.out]; rfl, below_0 _⟩
theorem ssame_any (A C : Option Addr) (ms ns : List SerM) (cap capn : Nat) (hl : ms.length ≤ 1000) (hl2 : ns.length ≤ 1000) (hf : ∀ m ∈ ms, SerFit m.s) (hg : ∀ m ∈ ns, SerFit m.s) (w : World) (hS : Tab w w.heap.size A ms) (hM : Tab w w.heap.size C ns) :
    Calls Tryd.prog 11 #[.slice A ms.length cap, .slice C ns.length capn] w fun e w' => e = .returned (.bool (sameT (ms.map (·.s)) (ns.map (·.s)))) ∧ Below w.heap.size w w' := by
  have Q := Lib.hid (equalF_any A C ms ns cap capn hl hl2 hf hg w hS hM)
  clear hS hM hf hg
  go_enter Tryd.func11, Tryd.ntmps11
  go_wp2_with fail
  refine Q.out.mono ?_
  rintro r w1 ⟨rfl, hb⟩
  go_wp2_with fail
  go_ret
  exact ⟨rfl, hb⟩
end Go.Proofs.YtoffmclbnobllaaDoor

/-
  aviaryref12.One, Same and Right.
-/
import Derived.Test.YtoffmclbnobllaaGreatDoorCkRRight
import Derived.Test.YtoffmclbnobllaaGreatDoorCkSSame
namespace Go.Proofs.YtoffmclbnobllaaGreatDoor
open Go.RowKit
set_option linter.unusedVariables false
set_option linter.unusedSimpArgs false
set_option maxRecDepth 100000 in
set_option maxHeartbeats 8000000 in
theorem rone_any (x y : SerM) (w : World) (hx : SerOk w w.heap.size x) (hy : SerOk w w.heap.size y) (fx : SerFit x.s) (fy : SerFit y.s) :
    Calls Tryz.prog 23 #[serV x, serV y] w fun e w' => e = .returned (.bool (sameS x.s y.s)) ∧ Below w.heap.size w w' := by
  have hb0 := Lib.hid (below_al (below_al (below_0 w) (.cells (serA x) 50)) (.cells (serA y) 50))
  have XB := Lib.hid ((Blk.new w 50 (serA x)).alloc (.cells (serA y) 50))
  have YB : Hid (Blk ((w.alloc (.cells (serA x) 50)).alloc (.cells (serA y) 50)) (w.heap.size + 1) 50 (serA y)) := by
    have h : (w.alloc (.cells (serA x) 50)).heap.size = w.heap.size + 1 := by simp
    have := Blk.new (w.alloc (.cells (serA x) 50)) 50 (serA y)
    rw [h] at this
    exact this
  have hx1 := hx.later hb0.out
  have hy1 := hy.later hb0.out
  have QL := Lib.hid (rsame_below x.la y.la x.s.l y.s.l x.lc y.lc (by have := fx.l; omega) (by have := fy.l; omega) _ hx1.l hy1.l)
  have QK : Hid (∀ w', Below ((w.alloc (.cells (serA x) 50)).alloc (.cells (serA y) 50)).heap.size ((w.alloc (.cells (serA x) 50)).alloc (.cells (serA y) 50)) w' → Calls Tryz.prog 36 #[skV x.m, skV y.m] w' fun e w'' => e = .returned (.bool (decide (x.s.k = y.s.k))) ∧ Below w'.heap.size w' w'') := fun w' h => by
    have := rksame_any x.m y.m w' (hx1.later h).k (hy1.later h).k (by rw [x.hk]; exact fx.k) (by rw [y.hk]; exact fy.k)
    rw [x.hk, y.hk] at this
    exact this
  have HR : Hid (sameS x.s y.s = (sameL x.s.l y.s.l && (decide (x.s.k = y.s.k) && decide (x.s.seen = y.s.seen)))) := by
    show _ = _
    have : (x.s = y.s) ↔ (x.s.l = y.s.l ∧ x.s.k = y.s.k ∧ x.s.seen = y.s.seen) := by
      cases x.s; cases y.s; simp
    unfold sameS sameL
    rw [decide_eq_decide.2 this, Bool.decide_and, Bool.decide_and]
  clear hx hy hx1 hy1 fx fy
  generalize decide (x.s.k = y.s.k) = dk at *
  generalize sameL x.s.l y.s.l = dl at *
  generalize sameS x.s y.s = ds at *
  obtain ⟨⟨l, k, seen⟩, ⟨⟨kind, level, e, bits, regs, rows, cols, c, fine, g⟩, ea, ec, ca, cc, ga, gc⟩, la, lc, hk⟩ := x
  obtain ⟨⟨l', k', seen'⟩, ⟨⟨kind', level', e', bits', regs', rows', cols', c', fine', g'⟩, ea', ec', ca', cc', ga', gc'⟩, la', lc', hk'⟩ := y
  unfold serV serA skV at *
  simp only at QL QK XB YB hb0 ⊢
  replace HR : Hid (ds = (dl && (dk && decide (seen = seen')))) := HR
  clear hk hk'
  cases dl with
  | false =>
    go_enter Tryz.func23, Tryz.ntmps23
    go_wp2_with fail
    refine QL.out.mono ?_
    rintro r w1 ⟨rfl, hb2⟩
    have HB2 := Lib.hid hb2
    have X1 := Lib.hid (XB.out.later hb2)
    have Y1 := Lib.hid (YB.out.later hb2)
    clear hb2 QL XB YB
    go_wp2_with fail
    go_ret
    exact ⟨by rw [HR.out]; rfl, Below.two hb0.out HB2.out⟩
  | true =>
    cases dk with
    | false =>
      go_enter Tryz.func23, Tryz.ntmps23
      go_wp2_with fail
      refine QL.out.mono ?_
      rintro r w1 ⟨rfl, hb2⟩
      have HB2 := Lib.hid hb2
      have X1 := Lib.hid (XB.out.later hb2)
      have Y1 := Lib.hid (YB.out.later hb2)
      clear hb2 QL XB YB
      have x0 := X1.out.cell 0
      have x1 := X1.out.cell 1
      have x2 := X1.out.cell 2
      have x3 := X1.out.cell 3
      have x4 := X1.out.cell 4
      have x5 := X1.out.cell 5
      have x6 := X1.out.cell 6
      have x7 := X1.out.cell 7
      have x8 := X1.out.cell 8
      have x9 := X1.out.cell 9
      have x10 := X1.out.cell 10
      have x11 := X1.out.cell 11
      have y0 := Y1.out.cell 0
      have y1 := Y1.out.cell 1
      have y2 := Y1.out.cell 2
      have y3 := Y1.out.cell 3
      have y4 := Y1.out.cell 4
      have y5 := Y1.out.cell 5
      have y6 := Y1.out.cell 6
      have y7 := Y1.out.cell 7
      have y8 := Y1.out.cell 8
      have y9 := Y1.out.cell 9
      have y10 := Y1.out.cell 10
      have y11 := Y1.out.cell 11
      simp only [List.getElem?_toArray, List.getElem?_cons_zero, List.getElem?_cons_succ] at x0 y0 x1 y1 x2 y2 x3 y3 x4 y4 x5 y5 x6 y6 x7 y7 x8 y8 x9 y9 x10 y10 x11 y11
      go_wp2_with fail
      refine (QK.out _ HB2.out).mono ?_
      rintro r w2 ⟨rfl, hb3⟩
      have HB3 := Lib.hid (Below.two HB2.out hb3)
      have X2 := Lib.hid (X1.out.later hb3)
      have Y2 := Lib.hid (Y1.out.later hb3)
      clear hb3 QK X1 Y1 x0 y0 x1 y1 x2 y2 x3 y3 x4 y4 x5 y5 x6 y6 x7 y7 x8 y8 x9 y9 x10 y10 x11 y11
      go_wp2_with fail
      go_ret
      exact ⟨by rw [HR.out]; rfl, Below.two hb0.out HB3.out⟩
    | true =>
      by_cases h1 : seen = seen'
      · have b1 : (seen == seen') = true := by rw [beq_iff_eq]; exact h1
        replace HR : Hid (ds = true) := by have := HR.out; rw [decide_eq_true h1] at this; exact this
        clear h1
        go_enter Tryz.func23, Tryz.ntmps23
        go_wp2_with fail
        refine QL.out.mono ?_
        rintro r w1 ⟨rfl, hb2⟩
        have HB2 := Lib.hid hb2
        have X1 := Lib.hid (XB.out.later hb2)
        have Y1 := Lib.hid (YB.out.later hb2)
        clear hb2 QL XB YB
        have x0 := X1.out.cell 0
        have x1 := X1.out.cell 1
        have x2 := X1.out.cell 2
        have x3 := X1.out.cell 3
        have x4 := X1.out.cell 4
        have x5 := X1.out.cell 5
        have x6 := X1.out.cell 6
        have x7 := X1.out.cell 7
        have x8 := X1.out.cell 8
        have x9 := X1.out.cell 9
        have x10 := X1.out.cell 10
        have x11 := X1.out.cell 11
        have y0 := Y1.out.cell 0
        have y1 := Y1.out.cell 1
        have y2 := Y1.out.cell 2
        have y3 := Y1.out.cell 3
        have y4 := Y1.out.cell 4
        have y5 := Y1.out.cell 5
        have y6 := Y1.out.cell 6
        have y7 := Y1.out.cell 7
        have y8 := Y1.out.cell 8
        have y9 := Y1.out.cell 9
        have y10 := Y1.out.cell 10
        have y11 := Y1.out.cell 11
        simp only [List.getElem?_toArray, List.getElem?_cons_zero, List.getElem?_cons_succ] at x0 y0 x1 y1 x2 y2 x3 y3 x4 y4 x5 y5 x6 y6 x7 y7 x8 y8 x9 y9 x10 y10 x11 y11
        go_wp2_with fail
        refine (QK.out _ HB2.out).mono ?_
        rintro r w2 ⟨rfl, hb3⟩
        have HB3 := Lib.hid (Below.two HB2.out hb3)
        have X2 := Lib.hid (X1.out.later hb3)
        have Y2 := Lib.hid (Y1.out.later hb3)
        clear hb3 QK X1 Y1 x0 y0 x1 y1 x2 y2 x3 y3 x4 y4 x5 y5 x6 y6 x7 y7 x8 y8 x9 y9 x10 y10 x11 y11
        have x0 := X2.out.cell 0
        have x1 := X2.out.cell 1
        have x2 := X2.out.cell 2
        have x3 := X2.out.cell 3
        have x4 := X2.out.cell 4
        have x5 := X2.out.cell 5
        have x6 := X2.out.cell 6
        have x7 := X2.out.cell 7
        have x8 := X2.out.cell 8
        have x9 := X2.out.cell 9
        have x10 := X2.out.cell 10
        have x11 := X2.out.cell 11
        have y0 := Y2.out.cell 0
        have y1 := Y2.out.cell 1
        have y2 := Y2.out.cell 2
        have y3 := Y2.out.cell 3
        have y4 := Y2.out.cell 4
        have y5 := Y2.out.cell 5
        have y6 := Y2.out.cell 6
        have y7 := Y2.out.cell 7
        have y8 := Y2.out.cell 8
        have y9 := Y2.out.cell 9
        have y10 := Y2.out.cell 10
        have y11 := Y2.out.cell 11
        simp only [List.getElem?_toArray, List.getElem?_cons_zero, List.getElem?_cons_succ] at x0 y0 x1 y1 x2 y2 x3 y3 x4 y4 x5 y5 x6 y6 x7 y7 x8 y8 x9 y9 x10 y10 x11 y11
        go_wp2_with fail
        go_ret
        exact ⟨by rw [HR.out]; rfl, Below.two hb0.out HB3.out⟩
      · have b1 : (seen == seen') = false := by rw [beq_eq_false_iff_ne]; exact h1
        replace HR : Hid (ds = false) := by have := HR.out; rw [decide_eq_false h1] at this; exact this
        clear h1
        go_enter Tryz.func23, Tryz.ntmps23
        go_wp2_with fail
        refine QL.out.mono ?_
        rintro r w1 ⟨rfl, hb2⟩
        have HB2 := Lib.hid hb2
        have X1 := Lib.hid (XB.out.later hb2)
        have Y1 := Lib.hid (YB.out.later hb2)
        clear hb2 QL XB YB
        have x0 := X1.out.cell 0
        have x1 := X1.out.cell 1
        have x2 := X1.out.cell 2
        have x3 := X1.out.cell 3
        have x4 := X1.out.cell 4
        have x5 := X1.out.cell 5
        have x6 := X1.out.cell 6
        have x7 := X1.out.cell 7
        have x8 := X1.out.cell 8
        have x9 := X1.out.cell 9
        have x10 := X1.out.cell 10
        have x11 := X1.out.cell 11
        have y0 := Y1.out.cell 0
        have y1 := Y1.out.cell 1
        have y2 := Y1.out.cell 2
        have y3 := Y1.out.cell 3
        have y4 := Y1.out.cell 4
        have y5 := Y1.out.cell 5
        have y6 := Y1.out.cell 6
        have y7 := Y1.out.cell 7
        have y8 := Y1.out.cell 8
        have y9 := Y1.out.cell 9
        have y10 := Y1.out.cell 10
        have y11 := Y1.out.cell 11
        simp only [List.getElem?_toArray, List.getElem?_cons_zero, List.getElem?_cons_succ] at x0 y0 x1 y1 x2 y2 x3 y3 x4 y4 x5 y5 x6 y6 x7 y7 x8 y8 x9 y9 x10 y10 x11 y11
        go_wp2_with fail
        refine (QK.out _ HB2.out).mono ?_
        rintro r w2 ⟨rfl, hb3⟩
        have HB3 := Lib.hid (Below.two HB2.out hb3)
        have X2 := Lib.hid (X1.out.later hb3)
        have Y2 := Lib.hid (Y1.out.later hb3)
        clear hb3 QK X1 Y1 x0 y0 x1 y1 x2 y2 x3 y3 x4 y4 x5 y5 x6 y6 x7 y7 x8 y8 x9 y9 x10 y10 x11 y11
        have x0 := X2.out.cell 0
        have x1 := X2.out.cell 1
        have x2 := X2.out.cell 2
        have x3 := X2.out.cell 3
        have x4 := X2.out.cell 4
        have x5 := X2.out.cell 5
        have x6 := X2.out.cell 6
        have x7 := X2.out.cell 7
        have x8 := X2.out.cell 8
        have x9 := X2.out.cell 9
        have x10 := X2.out.cell 10
        have x11 := X2.out.cell 11
        have y0 := Y2.out.cell 0
        have y1 := Y2.out.cell 1
        have y2 := Y2.out.cell 2
        have y3 := Y2.out.cell 3
        have y4 := Y2.out.cell 4
        have y5 := Y2.out.cell 5
        have y6 := Y2.out.cell 6
        have y7 := Y2.out.cell 7
        have y8 := Y2.out.cell 8
        have y9 := Y2.out.cell 9
        have y10 := Y2.out.cell 10
        have y11 := Y2.out.cell 11
        simp only [List.getElem?_toArray, List.getElem?_cons_zero, List.getElem?_cons_succ] at x0 y0 x1 y1 x2 y2 x3 y3 x4 y4 x5 y5 x6 y6 x7 y7 x8 y8 x9 y9 x10 y10 x11 y11
        go_wp2_with fail
        go_ret
        exact ⟨by rw [HR.out]; rfl, Below.two hb0.out HB3.out⟩
set_option maxRecDepth 100000 in
set_option maxHeartbeats 8000000 in
theorem rsameT_any (A C : Option Addr) (ms ns : List SerM) (cap capn : Nat) (hl : ms.length ≤ 1000) (hl2 : ns.length ≤ 1000) (hf : ∀ m ∈ ms, SerFit m.s) (hg : ∀ m ∈ ns, SerFit m.s) (w : World) (hS : Tab w w.heap.size A ms) (hM : Tab w w.heap.size C ns) :
    Calls Tryz.prog 16 #[.slice A ms.length cap, .slice C ns.length capn] w fun e w' => e = .returned (.bool (sameT (ms.map (·.s)) (ns.map (·.s)))) ∧ Below w.heap.size w w' := by
  by_cases hlen : ms.length = ns.length
  · have HS := Lib.hid hS
    have HM := Lib.hid hM
    have HF := Lib.hid hf
    have HG := Lib.hid hg
    have HL := Lib.hid hlen
    have d0 : ((ms.length : Int) != (ns.length : Int)) = false := by simp [hlen]
    clear hS hM hf hg hlen
    go_enter Tryz.func16, Tryz.ntmps16
    go_wp2_with fail
    clear d0
    go_loopw [5] (fun i wr => ∃ k : Nat, i = .int .i64 (k : Int) ∧ k ≤ ms.length ∧ Hid ((ms.map (·.s)).take k = (ns.map (·.s)).take k) ∧ Hid (Below w.heap.size w wr)) (fun i _ => ms.length - (RowKit.intOf i).toNat)
    case atStart => exact ⟨0, rfl, Nat.zero_le _, rfl, below_0 _⟩
    case round =>
      obtain ⟨k, rfl, hk, HE, HB⟩ := hrel
      by_cases h1 : k < ms.length
      · have h2 : k < ns.length := by rw [← HL.out]; exact h1
        have d1 : decide ((k : Int) < (ms.length : Int)) = true := decide_eq_true (by omega)
        obtain ⟨b, off, rfl, hb, hc⟩ := HS.out.at_ (by omega)
        obtain ⟨i0, i1, i2, i3, i4, i5, i6, i7, i8, i9, i10, i11⟩ := (hc k h1).below HB.out hb
        obtain ⟨b', off', rfl, hb', hc'⟩ := HM.out.at_ (by omega)
        obtain ⟨j0, j1, j2, j3, j4, j5, j6, j7, j8, j9, j10, j11⟩ := (hc' k h2).below HB.out hb'
        have hbw : b < wr.heap.size := by have := HB.out.size; omega
        have hbw' : b' < wr.heap.size := by have := HB.out.size; omega
        have hi1 : (0 : Int) ≤ (k : Int) := by omega
        have hi2 : (k : Int) < (ms.length : Int) := by omega
        have hi3 : (k : Int) < (ns.length : Int) := by omega
        have QO : Hid (∀ x : After wr, Calls Tryz.prog 23 #[serV ms[k], serV ns[k]] x.at_ fun e w' => e = .returned (.bool (sameS ms[k].s ns[k].s)) ∧ Below x.at_.heap.size x.at_ w') := fun x =>
          rone_any ms[k] ns[k] x.at_ (((HS.out.ok _ (List.getElem_mem h1)).later HB.out).later x.is) (((HM.out.ok _ (List.getElem_mem h2)).later HB.out).later x.is) (HF.out _ (List.getElem_mem h1)) (HG.out _ (List.getElem_mem h2))
        have HX : Hid (ms[k].s = ns[k].s → (ms.map (·.s)).take (k + 1) = (ns.map (·.s)).take (k + 1)) := fun h => sers_take_succ HE.out h1 h2 h
        have HN : Hid (¬ ms[k].s = ns[k].s → sameT (ms.map (·.s)) (ns.map (·.s)) = false) := fun h => by
          unfold sameT
          rw [decide_eq_false_iff_not]
          intro e
          have : (ms.map (·.s))[k]? = (ns.map (·.s))[k]? := by rw [e]
          exact h (by simpa [h1, h2] using this)
        clear hc hc'
        generalize ms[k] = x at *
        generalize ns[k] = y at *
        unfold serV at QO
        have F0 := After.cell i0 hbw
        have F1 := After.cell i1 hbw
        have F2 := After.cell i2 hbw
        have F3 := After.cell i3 hbw
        have F4 := After.cell i4 hbw
        have F5 := After.cell i5 hbw
        have F6 := After.cell i6 hbw
        have F7 := After.cell i7 hbw
        have F8 := After.cell i8 hbw
        have F9 := After.cell i9 hbw
        have F10 := After.cell i10 hbw
        have F11 := After.cell i11 hbw
        have G0 := After.cell j0 hbw'
        have G1 := After.cell j1 hbw'
        have G2 := After.cell j2 hbw'
        have G3 := After.cell j3 hbw'
        have G4 := After.cell j4 hbw'
        have G5 := After.cell j5 hbw'
        have G6 := After.cell j6 hbw'
        have G7 := After.cell j7 hbw'
        have G8 := After.cell j8 hbw'
        have G9 := After.cell j9 hbw'
        have G10 := After.cell j10 hbw'
        have G11 := After.cell j11 hbw'
        haveI hAW := After.some wr
        cases hs : sameS x.s y.s with
        | true =>
          have HR := Lib.hid (HX.out (by simpa [sameS] using hs))
          rw [hs] at QO
          clear HX HN hs
          go_wp2_with fail
          refine wp_region_below (by kernel_rfl) (by kernel_rfl) ?_
          repeat (go_big_quiet_step (first | with_reducible exact after_calls (QO.out _)))
          refine wpQuiet_nil ?_
          rintro w9 ⟨x9, hx9⟩
          have HB9 : Hid (Below w.heap.size w w9) := HB.out.trans ((show Below wr.heap.size wr w9 by rw [hx9]; exact x9.is).mono HB.out.size)
          clear hx9 x9 QO
          go_wp2_with fail
          go_roundw
          case rel => exact ⟨k + 1, by go_num, by omega, HR.out, HB9.out⟩
          case measure => simp [RowKit.intOf]; omega
        | false =>
          have HR := Lib.hid (HN.out (by simpa [sameS] using hs))
          rw [hs] at QO
          clear HX HN hs
          go_wp2_with fail
          refine wp_region_below (by kernel_rfl) (by kernel_rfl) ?_
          repeat (go_big_quiet_step (first | with_reducible exact after_calls (QO.out _)))
          refine wpQuiet_nil ?_
          rintro w9 ⟨x9, hx9⟩
          have HB9 : Hid (Below w.heap.size w w9) := HB.out.trans ((show Below wr.heap.size wr w9 by rw [hx9]; exact x9.is).mono HB.out.size)
          clear hx9 x9 QO
          go_wp2_with fail
          go_ret
          exact ⟨ret_bool HR.out.symm, HB9.out⟩
      · have hkk : k = ms.length := by omega
        subst hkk
        have HR : Hid (sameT (ms.map (·.s)) (ns.map (·.s)) = true) := by
          show _ = _
          have := HE.out
          rw [List.take_of_length_le (by rw [List.length_map]; exact Nat.le_refl _), List.take_of_length_le (by rw [List.length_map, HL.out]; exact Nat.le_refl _)] at this
          unfold sameT; simpa using this
        clear HL HE
        have d1 : decide ((ms.length : Int) < (ms.length : Int)) = false := by simp
        go_wp2_with fail
        go_ret
        exact ⟨ret_bool HR.out.symm, HB.out⟩
  · have d0 : ((ms.length : Int) != (ns.length : Int)) = true := by simp; omega
    have HR : Hid (sameT (ms.map (·.s)) (ns.map (·.s)) = false) := by
      show _ = _
      unfold sameT
      rw [decide_eq_false_iff_not]
      intro e
      have := congrArg List.length e
      simp at this
      exact hlen this
    clear hS hM
    go_enter Tryz.func16, Tryz.ntmps16
    go_wp2_with fail
    go_ret
    exact ⟨ret_bool HR.out.symm, below_0 _⟩
set_option maxRecDepth 100000 in
set_option maxHeartbeats 8000000 in
theorem rrightT_any (A : Option Addr) (ms : List SerM) (cap : Nat) (hl : ms.length ≤ 1000) (hf : ∀ m ∈ ms, SerFit m.s) (w : World) (hS : Tab w w.heap.size A ms) :
    Calls Tryz.prog 22 #[.slice A ms.length cap] w fun e w' => e = .returned (.bool (rightT (ms.map (·.s)))) ∧ Below w.heap.size w w' := by
  have HS := Lib.hid hS
  have HF := Lib.hid hf
  clear hS hf
  go_enter Tryz.func22, Tryz.ntmps22
  go_wp2_with fail
  go_loopw [3] (fun i wr => ∃ k : Nat, i = .int .i64 (k : Int) ∧ k ≤ ms.length ∧ Hid (okUp (ms.map (·.s)) k = true) ∧ Hid (Below w.heap.size w wr)) (fun i _ => ms.length - (RowKit.intOf i).toNat)
  case atStart => exact ⟨0, rfl, Nat.zero_le _, rfl, below_0 _⟩
  case round =>
    obtain ⟨k, rfl, hk, HE, HB⟩ := hrel
    by_cases h1 : k < ms.length
    · have d1 : decide ((k : Int) < (ms.length : Int)) = true := decide_eq_true (by omega)
      obtain ⟨b, off, rfl, hb, hc⟩ := HS.out.at_ (by omega)
      obtain ⟨i0, i1, i2, i3, i4, i5, i6, i7, i8, i9, i10, i11⟩ := (hc k h1).below HB.out hb
      have hbw : b < wr.heap.size := by have := HB.out.size; omega
      have hi1 : (0 : Int) ≤ (k : Int) := by omega
      have hi2 : (k : Int) < (ms.length : Int) := by omega
      have HOK := Lib.hid ((HS.out.ok _ (List.getElem_mem h1)).later HB.out)
      have HFIT := Lib.hid (HF.out _ (List.getElem_mem h1))
      have HAT : Hid (okAt (ms.map (·.s)) k = (rightS ms[k].s && (decide (k = 0) || lessL (sth (ms.map (·.s)) (k - 1)).l ms[k].s.l))) := by show _ = _; rw [okAt, sth_map h1]
      have HUP := Lib.hid (okUp_succ (ms.map (·.s)) k)
      rw [HE.out, Bool.true_and] at HUP
      have HBAD : Hid (okAt (ms.map (·.s)) k = false → rightT (ms.map (·.s)) = false) := okUp_bad (by rw [List.length_map]; exact h1)
      have HPRE : Hid (∀ j, k = j + 1 → ∃ m : SerM, sth (ms.map (·.s)) (k - 1) = m.s ∧ (m.s.l.length ≤ 10 ∧ ∀ x ∈ m.s.l, x.1.size ≤ 20 ∧ x.2.size ≤ 120) ∧ Lb w w.heap.size m.la m.s.l ∧ w.cell? ⟨b, off + j * 12, none⟩ = some (.slice m.la m.s.l.length m.lc)) := fun j e => by
        subst e
        have hj : j < ms.length := by omega
        exact ⟨ms[j], sth_map hj, ⟨(HF.out _ (List.getElem_mem hj)).l, (HF.out _ (List.getElem_mem hj)).ls⟩, (HS.out.ok _ (List.getElem_mem hj)).l, (hc j hj).c0⟩
      clear hc
      generalize ms[k] = m at *
      have F0 := After.cell i0 hbw
      have F1 := After.cell i1 hbw
      have F2 := After.cell i2 hbw
      have F3 := After.cell i3 hbw
      have F4 := After.cell i4 hbw
      have F5 := After.cell i5 hbw
      have F6 := After.cell i6 hbw
      have F7 := After.cell i7 hbw
      have F8 := After.cell i8 hbw
      have F9 := After.cell i9 hbw
      have F10 := After.cell i10 hbw
      have F11 := After.cell i11 hbw
      haveI hAW := After.some wr
      have QR : Hid (∀ x : After wr, Calls Tryz.prog 32 #[.slice m.la m.s.l.length m.lc] x.at_ fun e w' => e = .returned (.bool (setB m.s.l)) ∧ Below x.at_.heap.size x.at_ w') := fun x => rright_any m.la m.s.l m.lc (by have := HFIT.out.l; omega) (fun y hy => by have := HFIT.out.ls y hy; omega) x.at_ (HOK.out.l.later x.is)
      have QK : Hid (∀ x : After wr, Calls Tryz.prog 33 #[skV m.m] x.at_ fun e w' => e = .returned (.bool (rightK m.s.k)) ∧ Below x.at_.heap.size x.at_ w') := fun x => by
        have := rkright_any m.m x.at_ (HOK.out.later x.is).k (by rw [m.hk]; exact HFIT.out.k)
        rw [m.hk] at this
        exact this
      unfold skV at QK
      cases hsb : setB m.s.l with
      | false =>
        have HR : Hid (rightT (ms.map (·.s)) = false) := HBAD.out (by rw [HAT.out, rightS, hsb]; rfl)
        rw [hsb] at QR
        clear HAT HUP HBAD HPRE hsb
        go_wp2_with fail
        refine wp_region_below (by kernel_rfl) (by kernel_rfl) ?_
        repeat (go_big_quiet_step (first | with_reducible exact after_calls (QR.out _) | with_reducible exact after_calls (QK.out _)))
        refine wpQuiet_nil ?_
        rintro w9 ⟨x9, hx9⟩
        have HB9 : Hid (Below w.heap.size w w9) := HB.out.trans ((show Below wr.heap.size wr w9 by rw [hx9]; exact x9.is).mono HB.out.size)
        clear hx9 x9
        go_wp2_with fail
        go_ret
        exact ⟨ret_bool HR.out.symm, HB9.out⟩
      | true =>
        cases hrk : rightK m.s.k with
        | false =>
          have HR : Hid (rightT (ms.map (·.s)) = false) := HBAD.out (by rw [HAT.out, rightS, hrk, Bool.and_false]; rfl)
          rw [hsb] at QR
          rw [hrk] at QK
          clear HAT HUP HBAD HPRE hsb hrk
          go_wp2_with fail
          refine wp_region_below (by kernel_rfl) (by kernel_rfl) ?_
          repeat (go_big_quiet_step (first | with_reducible exact after_calls (QR.out _) | with_reducible exact after_calls (QK.out _)))
          refine wpQuiet_nil ?_
          rintro w9 ⟨x9, hx9⟩
          have HB9 : Hid (Below w.heap.size w w9) := HB.out.trans ((show Below wr.heap.size wr w9 by rw [hx9]; exact x9.is).mono HB.out.size)
          clear hx9 x9
          go_wp2_with fail
          go_ret
          exact ⟨ret_bool HR.out.symm, HB9.out⟩
        | true =>
          have hrs : rightS m.s = true := by rw [rightS, hsb, hrk]; rfl
          rw [hrs, Bool.true_and] at HAT
          rw [HAT.out] at HUP HBAD
          rw [hsb] at QR
          rw [hrk] at QK
          clear hrs HAT hsb hrk
          by_cases hk0 : k = 0
          · have HR : Hid (okUp (ms.map (·.s)) (k + 1) = true) := HUP.out.trans (by rw [decide_eq_true hk0]; rfl)
            have g1 : decide ((0 : Int) < (k : Int)) = false := by simp; omega
            have g2 : decide (0 < k) = false := by simp; omega
            clear HUP HBAD hk0 HPRE
            go_wp2_with fail
            refine wp_region_below (by kernel_rfl) (by kernel_rfl) ?_
            repeat (go_big_quiet_step (first | with_reducible exact after_calls (QR.out _) | with_reducible exact after_calls (QK.out _)))
            refine wpQuiet_nil ?_
            rintro w9 ⟨x9, hx9⟩
            have HB9 : Hid (Below w.heap.size w w9) := HB.out.trans ((show Below wr.heap.size wr w9 by rw [hx9]; exact x9.is).mono HB.out.size)
            clear hx9 x9
            go_wp2_with fail
            go_roundw
            case rel => exact ⟨k + 1, by go_num, by omega, HR.out, HB9.out⟩
            case measure => simp [RowKit.intOf]; omega
          · obtain ⟨j, rfl⟩ : ∃ j, k = j + 1 := ⟨k - 1, by omega⟩
            have g1 : decide ((0 : Int) < ((j + 1 : Nat) : Int)) = true := decide_eq_true (by omega)
            obtain ⟨p, hp1, hp2, hp3, hp4⟩ := HPRE.out j rfl
            have hpc := (HB.out.cell (p := ⟨b, off + j * 12, none⟩) hb).trans hp4
            have FP := After.cell hpc hbw
            rw [hp1, decide_eq_false hk0, Bool.false_or] at HUP HBAD
            obtain ⟨v, hv⟩ : ∃ v, lessL p.s.l m.s.l = v := ⟨_, rfl⟩
            have QL : Hid (∀ y : After wr, Calls Tryz.prog 34 #[.slice p.la p.s.l.length p.lc, .slice m.la m.s.l.length m.lc] y.at_ fun e w' => e = .returned (.bool v) ∧ Below y.at_.heap.size y.at_ w') := fun y => hv ▸ rless_any _ _ _ _ _ _ (by omega) (by have := HFIT.out.l; omega) (fun x hx => by have := hp2.2 x hx; unfold maxLen; omega) (fun x hx => by have := HFIT.out.ls x hx; unfold maxLen; omega) y.at_ ((hp3.later HB.out).later y.is) (HOK.out.l.later y.is)
            rw [hv] at HUP HBAD
            have hj1 : (0 : Int) ≤ (j : Int) := by omega
            have hj2 : (j : Int) < (ms.length : Int) := by omega
            clear hv hp1 hp2 hp3 hp4 hk0 HPRE
            cases v with
            | false =>
              have HR : Hid (rightT (ms.map (·.s)) = false) := HBAD.out rfl
              clear HUP HBAD
              go_wp2_with fail
              refine wp_region_below (by kernel_rfl) (by kernel_rfl) ?_
              repeat (go_big_quiet_step (first | with_reducible exact after_calls (QR.out _) | with_reducible exact after_calls (QK.out _) | with_reducible exact after_calls (QL.out _)))
              refine wpQuiet_nil ?_
              rintro w9 ⟨x9, hx9⟩
              have HB9 : Hid (Below w.heap.size w w9) := HB.out.trans ((show Below wr.heap.size wr w9 by rw [hx9]; exact x9.is).mono HB.out.size)
              clear hx9 x9
              go_wp2_with fail
              go_ret
              exact ⟨ret_bool HR.out.symm, HB9.out⟩
            | true =>
              have HR := HUP
              clear HUP HBAD
              go_wp2_with fail
              refine wp_region_below (by kernel_rfl) (by kernel_rfl) ?_
              repeat (go_big_quiet_step (first | with_reducible exact after_calls (QR.out _) | with_reducible exact after_calls (QK.out _) | with_reducible exact after_calls (QL.out _)))
              refine wpQuiet_nil ?_
              rintro w9 ⟨x9, hx9⟩
              have HB9 : Hid (Below w.heap.size w w9) := HB.out.trans ((show Below wr.heap.size wr w9 by rw [hx9]; exact x9.is).mono HB.out.size)
              clear hx9 x9
              go_wp2_with fail
              go_roundw
              case rel => exact ⟨j + 1 + 1, by go_num, by omega, HR.out, HB9.out⟩
              case measure => simp [RowKit.intOf]; omega
    · have hkk : k = ms.length := by omega
      subst hkk
      have d1 : decide ((ms.length : Int) < (ms.length : Int)) = false := by simp
      have HR : Hid (rightT (ms.map (·.s)) = decide (ms.length ≤ 20)) := by
        show _ = _
        unfold rightT
        rw [List.length_map, HE.out, Bool.and_true]
      clear HE HS HF
      generalize ms.length = n at *
      by_cases h20 : n ≤ 20
      · have b20 : decide ((n : Int) ≤ 20) = true := decide_eq_true (by omega)
        rw [decide_eq_true h20] at HR
        clear h20
        go_wp2_with fail
        go_ret
        exact ⟨by rw [HR.out]; first | rfl | simp, HB.out⟩
      · have b20 : decide ((n : Int) ≤ 20) = false := decide_eq_false (by omega)
        rw [decide_eq_false h20] at HR
        clear h20
        go_wp2_with fail
        go_ret
        exact ⟨by rw [HR.out]; first | rfl | simp, HB.out⟩
end Go.Proofs.YtoffmclbnobllaaGreatDoor

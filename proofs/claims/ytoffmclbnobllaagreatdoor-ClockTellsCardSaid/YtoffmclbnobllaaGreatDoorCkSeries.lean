/-
  series.Right.
-/
import Derived.Test.YtoffmclbnobllaaGreatDoorCkRightK
namespace Go.Proofs.YtoffmclbnobllaaGreatDoor
open Go.RowKit
set_option linter.unusedVariables false
set_option linter.unusedSimpArgs false
def rightS (s : Ser) : Bool := setB s.l && rightK s.k
def sth (t : List Ser) (k : Nat) : Ser := (t[k]?).getD ⟨[], noSk 0 0, 0⟩
def okAt (t : List Ser) (k : Nat) : Bool := rightS (sth t k) && (decide (k = 0) || lessL (sth t (k - 1)).l (sth t k).l)
def okUp (t : List Ser) (k : Nat) : Bool := (List.range k).all (okAt t)
/-- Are series a table? -/
def rightT (t : List Ser) : Bool := decide (t.length ≤ 20) && okUp t t.length
theorem okUp_succ (t : List Ser) (k : Nat) : okUp t (k + 1) = (okUp t k && okAt t k) := by simp [okUp, List.range_succ]
theorem okUp_bad {t : List Ser} {k : Nat} (hk : k < t.length) (h : okAt t k = false) : rightT t = false := by
  cases hr : rightT t with
  | false => rfl
  | true =>
    unfold rightT okUp at hr
    rw [Bool.and_eq_true, List.all_eq_true] at hr
    rw [hr.2 k (List.mem_range.2 hk)] at h; cases h
theorem sth_map {ms : List SerM} {k : Nat} (h : k < ms.length) : sth (ms.map (·.s)) k = ms[k].s := by simp [sth, h]
def serA (m : SerM) : Array Value := #[.slice m.la m.s.l.length m.lc, .int .i64 m.m.s.kind, .int .i64 m.m.s.level, .slice m.m.ea m.m.s.e.length m.m.ec, .int .i64 m.m.s.bits, .string m.m.s.regs, .int .i64 m.m.s.rows, .int .i64 m.m.s.cols, .slice m.m.ca m.m.s.c.length m.m.cc, .int .i64 m.m.s.fine, .slice m.m.ga m.m.s.g.length m.m.gc, .int .u64 m.s.seen]
/-- A series in a box of its own. -/
theorem serBox {w : World} {g : Nat} {m : SerM} (h : Blk w g 50 (serA m)) : SerAt w g 0 m :=
  ⟨h.cell 0, h.cell 1, h.cell 2, h.cell 3, h.cell 4, h.cell 5, h.cell 6, h.cell 7, h.cell 8, h.cell 9, h.cell 10, h.cell 11⟩
set_option maxRecDepth 100000 in
set_option maxHeartbeats 4000000 in
theorem rightSer_any (m : SerM) (w : World) (hT : Tb w) (hm : SerOk w w.heap.size m) (hf : SerFit m.s) :
    Calls Tryz.prog 26 #[serV m] w fun e w' => e = .returned (.bool (rightS m.s)) ∧ Below w.heap.size w w' := by
  have hT1 : Tb (w.alloc (.cells (serA m) 50)) := hT.later (below_al (below_0 w) _)
  have hb1 := Lib.hid (below_al (below_0 w) (.cells (serA m) 50))
  have hm1 := Lib.hid (hm.later hb1.out)
  have QR := Lib.hid (right_any m.la m.s.l m.lc (fun x hx => by have := hf.ls x hx; omega) _ hT1 hm1.out.l)
  have QK : Hid (∀ w', Below (w.alloc (.cells (serA m) 50)).heap.size (w.alloc (.cells (serA m) 50)) w' → Calls Tryz.prog 42 #[skV m.m] w' fun e w'' => e = .returned (.bool (rightK m.s.k)) ∧ Below w'.heap.size w' w'') := fun w' h => by
    have := kright_any m.m w' (hm1.out.later h).k (by rw [m.hk]; exact hf.k)
    rw [m.hk] at this
    exact this
  have XB := Lib.hid (Blk.new w 50 (serA m))
  have HR : Hid (rightS m.s = (setB m.s.l && rightK m.s.k)) := rfl
  clear hT hT1 hm hm1 hf
  generalize rightK m.s.k = rk at *
  generalize rightS m.s = rs at *
  obtain ⟨⟨l, k, seen⟩, ⟨⟨kind, level, e, bits, regs, rows, cols, c, fine, g⟩, ea, ec, ca, cc, ga, gc⟩, la, lc, hk⟩ := m
  unfold serV serA skV at *
  simp only at QR QK XB HR hb1 ⊢
  clear hk
  cases hs : setB l with
  | false =>
    rw [hs] at QR HR
    clear hs
    go_enter Tryz.func26, Tryz.ntmps26
    go_wp2_with fail
    refine QR.out.mono ?_
    rintro r w1 ⟨rfl, hb2⟩
    go_wp2_with fail
    go_ret
    exact ⟨by rw [HR.out]; rfl, Below.two hb1.out hb2⟩
  | true =>
    rw [hs] at QR HR
    clear hs
    go_enter Tryz.func26, Tryz.ntmps26
    go_wp2_with fail
    refine QR.out.mono ?_
    rintro r w1 ⟨rfl, hb2⟩
    have HB2 := Lib.hid hb2
    have X1 := Lib.hid (XB.out.later hb2)
    clear hb2 QR XB
    have x1 := X1.out.cell 1
    have x2 := X1.out.cell 2
    have x3 := X1.out.cell 3
    have x4 := X1.out.cell 4
    have x5 := X1.out.cell 5
    have x6 := X1.out.cell 6
    have x7 := X1.out.cell 7
    have x8 := X1.out.cell 8
    have x9 := X1.out.cell 9
    have x10 := X1.out.cell 10
    simp only [List.getElem?_toArray, List.getElem?_cons_zero, List.getElem?_cons_succ] at x1 x2 x3 x4 x5 x6 x7 x8 x9 x10
    go_wp2_with fail
    refine (QK.out _ HB2.out).mono ?_
    rintro r w2 ⟨rfl, hb3⟩
    go_wp2_with fail
    go_ret
    exact ⟨by rw [HR.out, Bool.true_and]; rfl, Below.two hb1.out (Below.two HB2.out hb3)⟩
set_option maxRecDepth 100000 in
set_option maxHeartbeats 8000000 in
theorem sright_any (A : Option Addr) (ms : List SerM) (cap : Nat) (hl : ms.length ≤ 1000) (hf : ∀ m ∈ ms, SerFit m.s) (w : World) (hT : Tb w) (hS : Tab w w.heap.size A ms) :
    Calls Tryz.prog 18 #[.slice A ms.length cap] w fun e w' => e = .returned (.bool (rightT (ms.map (·.s)))) ∧ Below w.heap.size w w' := by
  by_cases h20 : ms.length ≤ 20
  · have b20 : decide (20 < (ms.length : Int)) = false := decide_eq_false (by omega)
    have b20' : decide (20 < ms.length) = false := decide_eq_false (by omega)
    have HS := Lib.hid hS
    have HF := Lib.hid hf
    have HT := Lib.hid hT
    have H20 := Lib.hid h20
    clear hS hf hT h20
    go_enter Tryz.func18, Tryz.ntmps18
    go_wp2_with fail
    clear b20 b20'
    go_loopw [10] (fun i wr => ∃ k : Nat, i = .int .i64 (k : Int) ∧ k ≤ ms.length ∧ Hid (okUp (ms.map (·.s)) k = true) ∧ Hid (Below w.heap.size w wr)) (fun i _ => ms.length - (RowKit.intOf i).toNat)
    case atStart => exact ⟨0, rfl, Nat.zero_le _, rfl, below_0 _⟩
    case round =>
      obtain ⟨k, rfl, hk, HE, HB⟩ := hrel
      by_cases h1 : k < ms.length
      · have d1 : decide ((k : Int) < (ms.length : Int)) = true := decide_eq_true (by omega)
        obtain ⟨b, off, rfl, hb, hc⟩ := HS.out.at_ (by omega)
        obtain ⟨i0, i1, i2, i3, i4, i5, i6, i7, i8, i9, i10, i11⟩ := (hc k h1).below HB.out hb
        have hbw : b < wr.heap.size := by have := HB.out.size; omega
        have hi1 : (0 : Int) ≤ (k : Int) := by omega
        have hi2 : (k : Int) < (ms.length : Int) := by omega
        have HOK := Lib.hid ((HS.out.ok _ (List.getElem_mem h1)).later HB.out)
        have HFIT := Lib.hid (HF.out _ (List.getElem_mem h1))
        have HAT : Hid (okAt (ms.map (·.s)) k = (rightS ms[k].s && (decide (k = 0) || lessL (sth (ms.map (·.s)) (k - 1)).l ms[k].s.l))) := by show _ = _; rw [okAt, sth_map h1]
        have HUP := Lib.hid (okUp_succ (ms.map (·.s)) k)
        rw [HE.out, Bool.true_and] at HUP
        have HBAD : Hid (okAt (ms.map (·.s)) k = false → rightT (ms.map (·.s)) = false) := okUp_bad (by rw [List.length_map]; exact h1)
        have HPRE : Hid (∀ j, k = j + 1 → ∃ m : SerM, sth (ms.map (·.s)) (k - 1) = m.s ∧ m.s.l.length ≤ 10 ∧ Lb w w.heap.size m.la m.s.l ∧ w.cell? ⟨b, off + j * 12, none⟩ = some (.slice m.la m.s.l.length m.lc)) := fun j e => by
          subst e
          have hj : j < ms.length := by omega
          exact ⟨ms[j], sth_map hj, (HF.out _ (List.getElem_mem hj)).l, (HS.out.ok _ (List.getElem_mem hj)).l, (hc j hj).c0⟩
        clear hc
        generalize ms[k] = m at *
        go_wp2_with fail
        have hb1 := Lib.hid (below_al (below_0 wr) (.cells (serA m) 50))
        have XB := Lib.hid (Blk.new wr 50 (serA m))
        have QR := Lib.hid (rightSer_any m (wr.alloc (.cells (serA m) 50)) (HT.out.later (HB.out.trans (hb1.out.mono HB.out.size))) (HOK.out.later hb1.out) HFIT.out)
        unfold serA at *
        refine QR.out.mono ?_
        rintro r w1 ⟨rfl, hb2⟩
        have HB2 := Lib.hid (Below.two HB.out (Below.two hb1.out hb2))
        have X1 := Lib.hid (XB.out.later hb2)
        have HOK1 := Lib.hid (HOK.out.later (Below.two hb1.out hb2))
        clear hb1 hb2 XB QR HOK
        generalize wr.heap.size = bx at *
        have hxw := X1.out.lt
        cases hrs : rightS m.s with
        | false =>
          have HR : Hid (rightT (ms.map (·.s)) = false) := HBAD.out (by rw [HAT.out, hrs, Bool.false_and])
          clear HAT HUP HBAD
          go_wp2_with fail
          go_ret
          exact ⟨by rw [HR.out]; rfl, HB2.out⟩
        | true =>
          rw [hrs, Bool.true_and] at HAT
          rw [HAT.out] at HUP HBAD
          clear hrs HAT
          have x0 := X1.out.cell 0
          simp only [List.getElem?_toArray, List.getElem?_cons_zero, List.getElem?_cons_succ] at x0
          haveI hAW := After.some w1
          have F0 := After.cell x0 hxw
          by_cases hk0 : k = 0
          · have HR : Hid (okUp (ms.map (·.s)) (k + 1) = true) := HUP.out.trans (by rw [decide_eq_true hk0]; rfl)
            have g1 : decide ((0 : Int) < (k : Int)) = false := by simp; omega
            have g2 : decide (0 < k) = false := by simp; omega
            clear HUP HBAD hk0 HPRE
            go_wp2_with fail
            refine wp_region_below (by kernel_rfl) (by kernel_rfl) ?_
            repeat (go_big_quiet_step (first | fail))
            refine wpQuiet_nil ?_
            rintro w9 ⟨y9, hy9⟩
            have HB9 : Hid (Below w.heap.size w w9) := HB2.out.trans ((show Below w1.heap.size w1 w9 by rw [hy9]; exact y9.is).mono HB2.out.size)
            clear hy9 y9
            go_wp2_with fail
            go_roundw
            case rel => exact ⟨k + 1, by go_num, by omega, HR.out, HB9.out⟩
            case measure => simp [RowKit.intOf]; omega
          · obtain ⟨j, rfl⟩ : ∃ j, k = j + 1 := ⟨k - 1, by omega⟩
            have g1 : decide ((0 : Int) < ((j + 1 : Nat) : Int)) = true := decide_eq_true (by omega)
            obtain ⟨p, hp1, hp2, hp3, hp4⟩ := HPRE.out j rfl
            have hpc := (HB2.out.cell (p := ⟨b, off + j * 12, none⟩) hb).trans hp4
            have hbw1 : b < w1.heap.size := by have := HB2.out.size; omega
            have F1 := After.cell hpc hbw1
            rw [hp1, decide_eq_false hk0, Bool.false_or] at HUP HBAD
            obtain ⟨v, hv⟩ : ∃ v, lessL p.s.l m.s.l = v := ⟨_, rfl⟩
            have QL : Hid (∀ y : After w1, Calls Tryz.prog 27 #[.slice p.la p.s.l.length p.lc, .slice m.la m.s.l.length m.lc] y.at_ fun e w' => e = .returned (.bool v) ∧ Below y.at_.heap.size y.at_ w') := fun y => hv ▸ less_any _ _ _ _ _ _ (by omega) (by have := HFIT.out.l; omega) y.at_ ((hp3.later HB2.out).later y.is) (HOK1.out.l.later y.is)
            rw [hv] at HUP HBAD
            have hj1 : (0 : Int) ≤ (j : Int) := by omega
            have hj2 : (j : Int) < (ms.length : Int) := by omega
            clear hv hp1 hp2 hp3 hp4 hk0 HPRE
            cases v with
            | false =>
              have HR : Hid (rightT (ms.map (·.s)) = false) := HBAD.out rfl
              clear HUP HBAD
              go_wp2_with fail
              refine wp_region_below (by kernel_rfl) (by kernel_rfl) ?_
              repeat (go_big_quiet_step (first | with_reducible exact after_calls (QL.out _)))
              refine wpQuiet_nil ?_
              rintro w9 ⟨y9, hy9⟩
              have HB9 : Hid (Below w.heap.size w w9) := HB2.out.trans ((show Below w1.heap.size w1 w9 by rw [hy9]; exact y9.is).mono HB2.out.size)
              clear hy9 y9
              go_wp2_with fail
              go_ret
              exact ⟨by rw [HR.out]; rfl, HB9.out⟩
            | true =>
              have HR := HUP
              clear HUP HBAD
              go_wp2_with fail
              refine wp_region_below (by kernel_rfl) (by kernel_rfl) ?_
              repeat (go_big_quiet_step (first | with_reducible exact after_calls (QL.out _)))
              refine wpQuiet_nil ?_
              rintro w9 ⟨y9, hy9⟩
              have HB9 : Hid (Below w.heap.size w w9) := HB2.out.trans ((show Below w1.heap.size w1 w9 by rw [hy9]; exact y9.is).mono HB2.out.size)
              clear hy9 y9
              go_wp2_with fail
              go_roundw
              case rel => exact ⟨j + 1 + 1, by go_num, by omega, HR.out, HB9.out⟩
              case measure => simp [RowKit.intOf]; omega
      · have hkk : k = ms.length := by omega
        subst hkk
        have d1 : decide ((ms.length : Int) < (ms.length : Int)) = false := by simp
        have HR : Hid (rightT (ms.map (·.s)) = true) := by
          show _ = _
          unfold rightT
          rw [List.length_map, HE.out, Bool.and_true, decide_eq_true H20.out]
        go_wp2_with fail
        go_ret
        exact ⟨by rw [HR.out]; rfl, HB.out⟩
  · have b20 : decide (20 < (ms.length : Int)) = true := decide_eq_true (by omega)
    have b20' : decide (20 < ms.length) = true := decide_eq_true (by omega)
    have HR : Hid (rightT (ms.map (·.s)) = false) := by
      show _ = _
      unfold rightT
      rw [List.length_map, decide_eq_false h20, Bool.false_and]
    clear h20
    go_enter Tryz.func18, Tryz.ntmps18
    go_wp2_with fail
    go_ret
    exact ⟨by rw [HR.out]; rfl, below_0 _⟩
end Go.Proofs.YtoffmclbnobllaaGreatDoor

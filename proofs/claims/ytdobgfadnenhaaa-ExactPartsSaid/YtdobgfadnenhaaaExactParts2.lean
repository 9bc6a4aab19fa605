/-
  The walk of the law aviarylaw06.ExactParts: call by call, each callee by its contract; and the plain law behind it.
-/
import Derived.Test.YtdobgfadnenhaaaExactShown
import Derived.Test.YtdobgfadnenhaaaExactParts
import Derived.Test.YtdobgfadnenhaaaExactFew
import Derived.Test.YtdobgfadnenhaaaGrow
import Derived.Deep.RegionHeld3
namespace Go.Proofs.Ytdobgfadnenhaaa
open Go.RowKit
set_option linter.unusedVariables false

set_option maxHeartbeats 8000000 in
theorem parts_cap (w : World) (n0 : Nat) (at_ : Int) (a0 : Option Addr) (x0 y0 : List Int)
    (hS0 : Sl w w.heap.size a0 x0) (hSY : Sl w w.heap.size a0 y0)
    (hk0 : (if (100 : Int) < (n0 : Int) then (100 : Int) else (n0 : Int)) = (x0.length : Int))
    (mu : Int) (hmu : (if (x0.length : Int) < at_ then (x0.length : Int) else at_) = mu) (hat : (if 0 < mu then mu else 0) = (y0.length : Int))
    (hq0 : x0.length ≤ y0.length) (hm0 : y0.length ≤ 9223372036854775807) (h0 : x0.length ≤ 100) (hyx : y0.length ≤ x0.length) (hxy : ∀ t, t ∈ x0 ↔ t ∈ y0 ∨ t ∈ []) :
    Calls Try.prog 7 #[.slice a0 n0 y0.length, .int .i64 at_] w fun e w' => e = .returned (.bool true) ∧ Below w.heap.size w w' := by
  have P0 := Lib.hid hS0
  have PY := Lib.hid hSY
  have HK0 := Lib.hid hk0
  clear hS0 hk0 hSY
  go_enter Try.func7, Try.ntmps7
  go_wp2_with fail
  refine (shown_any _).mono ?_
  rintro e w0 ⟨rfl, hb0⟩
  have Dw0 : Below w.heap.size w w0 := Below.two (below_0 w) hb0
  replace P0 := Lib.hid (P0.out.later Dw0)
  replace PY := Lib.hid (PY.out.later Dw0)
  have Tw0 := Dw0
  go_wp2_with fail
  refine (few_any _ n0 y0.length a0 x0 HK0.out hq0 hm0).mono ?_
  rintro e w' ⟨rfl, rfl⟩
  go_wp2_with fail
  refine (of_tot _ y0.length a0 x0 (by exact P0.out.later (below_0 w0)) (by omega)).mono ?_
  rintro e w1 ⟨hb1, v1, rfl, hh1⟩
  obtain ⟨A1, c1, rfl, hc1, hA1, hS1, hF1⟩ := hh1
  have Dw1 : Below w0.heap.size w0 w1 := Below.two (below_0 w0) hb1
  replace P0 := Lib.hid (P0.out.later Dw1)
  replace PY := Lib.hid (PY.out.later Dw1)
  have Tw1 := Below.two Tw0 Dw1
  have S1 := Lib.hid hS1
  clear hA1 hF1 hS1
  have X1 := Lib.hid (Boxed.new w1 24 (.slice A1 ((ofF x0).1).length c1))
  have kX1 := True.intro
  have zX1 := True.intro
  go_wp2_with fail
  refine (of_tot _ y0.length a0 y0 (by exact PY.out.later (below_al (below_0 w1) _)) (by omega)).mono ?_
  rintro e w2 ⟨hb2, v2, rfl, hh2⟩
  obtain ⟨A2, c2, rfl, hc2, hA2, hS2, hF2⟩ := hh2
  clear kX1 zX1
  have Dw2 : Below w1.heap.size w1 w2 := Below.two (below_al (below_0 w1) _) hb2
  replace P0 := Lib.hid (P0.out.later Dw2)
  replace PY := Lib.hid (PY.out.later Dw2)
  replace S1 := Lib.hid (S1.out.later Dw2)
  replace X1 := Lib.hid (boxed_below X1.out hb2)
  have Tw2 := Below.two Tw1 Dw2
  have S2 := Lib.hid hS2
  clear hA2 hF2 hS2
  have X2 := Lib.hid (Boxed.new w2 24 (.slice A2 ((ofF y0).1).length c2))
  have kX1 := X1.out.cell
  have zX1 := X1.out.lt
  have kX2 := True.intro
  have zX2 := True.intro
  go_wp2_with fail
  refine (of_tot _ 0 a0 [] (by exact Sl.nil) (by simp)).mono ?_
  rintro e w3 ⟨hb3, v3, rfl, hh3⟩
  obtain ⟨A3, c3, rfl, hc3, hA3, hS3, hF3⟩ := hh3
  clear kX1 zX1 kX2 zX2
  have Dw3 : Below w2.heap.size w2 w3 := Below.two (below_al (below_0 w2) _) hb3
  replace P0 := Lib.hid (P0.out.later Dw3)
  replace PY := Lib.hid (PY.out.later Dw3)
  replace S1 := Lib.hid (S1.out.later Dw3)
  replace S2 := Lib.hid (S2.out.later Dw3)
  replace X1 := Lib.hid (boxed_below X1.out Dw3)
  replace X2 := Lib.hid (boxed_below X2.out hb3)
  have Tw3 := Below.two Tw2 Dw3
  have S3 := Lib.hid hS3
  clear hA3 hF3 hS3
  have X3 := Lib.hid (Boxed.new w3 24 (.slice A3 ((ofF []).1).length c3))
  have kX1 := X1.out.cell
  have zX1 := X1.out.lt
  have kX2 := X2.out.cell
  have zX2 := X2.out.lt
  have kX3 := True.intro
  have zX3 := True.intro
  by_cases e1 : (ofF x0).2 = 0
  · have t1 : ((ofF x0).2 != 0) = false := by simpa using e1
    have t2 : ((ofF y0).2 == 0) = true := by rw [ofF_part e1 (fun t ht => (hxy t).2 (.inl ht))]; rfl
    have t3 : ((ofF []).2 == 0) = true := by rw [ofF_part e1 (y := []) (fun t ht => (hxy t).2 (.inr ht))]; rfl
    have em1 := mergeF_parts e1 hxy
    have em2 := mergeF_parts (y := []) (z := y0) e1 (fun t => (hxy t).trans Or.comm)
    have t4 : ((mergeF (ofF y0).1 (ofF []).1).2 == 0) = true := by rw [em1]; rfl
    have t5 : ((mergeF (ofF []).1 (ofF y0).1).2 == 0) = true := by rw [em2]; rfl
    have HM1 : Hid (eqB (mergeF (ofF y0).1 (ofF []).1).1 (ofF x0).1 = true) := by show eqB _ _ = true; rw [em1]; simp [eqB]
    have HM2 : Hid (eqB (mergeF (ofF []).1 (ofF y0).1).1 (ofF x0).1 = true) := by show eqB _ _ = true; rw [em2]; simp [eqB]
    have E1 := Lib.hid e1
    have HXY := Lib.hid hxy
    clear em1 em2 e1 hxy
    go_wp2_with fail
    refine (merge_tot _ c2 c3 A2 A3 ((ofF y0).1) ((ofF []).1) (by exact S2.out.later (below_al (below_0 w3) _)) (by exact S3.out.later (below_al (below_0 w3) _)) (by have := right_len (l := (ofF y0).1) (ofF_right y0); omega) (by have := right_len (l := (ofF []).1) (ofF_right []); omega)).mono ?_
    rintro e w4 ⟨hb4, v4, rfl, hh4⟩
    obtain ⟨A4, c4, rfl, hc4, hA4, hS4, hF4⟩ := hh4
    clear kX1 zX1 kX2 zX2 kX3 zX3
    have Dw4 : Below w3.heap.size w3 w4 := Below.two (below_al (below_0 w3) _) hb4
    replace P0 := Lib.hid (P0.out.later Dw4)
    replace PY := Lib.hid (PY.out.later Dw4)
    replace S1 := Lib.hid (S1.out.later Dw4)
    replace S2 := Lib.hid (S2.out.later Dw4)
    replace S3 := Lib.hid (S3.out.later Dw4)
    replace X1 := Lib.hid (boxed_below X1.out Dw4)
    replace X2 := Lib.hid (boxed_below X2.out Dw4)
    replace X3 := Lib.hid (boxed_below X3.out hb4)
    have Tw4 := Below.two Tw3 Dw4
    have S4 := Lib.hid hS4
    clear hA4 hF4 hS4
    have X4 := Lib.hid (Boxed.new w4 24 (.slice A4 ((mergeF ((ofF y0).1) ((ofF []).1)).1).length c4))
    have kX1 := X1.out.cell
    have zX1 := X1.out.lt
    have kX2 := X2.out.cell
    have zX2 := X2.out.lt
    have kX3 := X3.out.cell
    have zX3 := X3.out.lt
    have kX4 := True.intro
    have zX4 := True.intro
    go_wp2_with fail
    refine (merge_tot _ c3 c2 A3 A2 ((ofF []).1) ((ofF y0).1) (by exact S3.out.later (below_al (below_0 w4) _)) (by exact S2.out.later (below_al (below_0 w4) _)) (by have := right_len (l := (ofF []).1) (ofF_right []); omega) (by have := right_len (l := (ofF y0).1) (ofF_right y0); omega)).mono ?_
    rintro e w5 ⟨hb5, v5, rfl, hh5⟩
    obtain ⟨A5, c5, rfl, hc5, hA5, hS5, hF5⟩ := hh5
    clear kX1 zX1 kX2 zX2 kX3 zX3 kX4 zX4
    have Dw5 : Below w4.heap.size w4 w5 := Below.two (below_al (below_0 w4) _) hb5
    replace P0 := Lib.hid (P0.out.later Dw5)
    replace PY := Lib.hid (PY.out.later Dw5)
    replace S1 := Lib.hid (S1.out.later Dw5)
    replace S2 := Lib.hid (S2.out.later Dw5)
    replace S3 := Lib.hid (S3.out.later Dw5)
    replace S4 := Lib.hid (S4.out.later Dw5)
    replace X1 := Lib.hid (boxed_below X1.out Dw5)
    replace X2 := Lib.hid (boxed_below X2.out Dw5)
    replace X3 := Lib.hid (boxed_below X3.out Dw5)
    replace X4 := Lib.hid (boxed_below X4.out hb5)
    have Tw5 := Below.two Tw4 Dw5
    have S5 := Lib.hid hS5
    clear hA5 hF5 hS5
    have X5 := Lib.hid (Boxed.new w5 24 (.slice A5 ((mergeF ((ofF []).1) ((ofF y0).1)).1).length c5))
    have kX1 := X1.out.cell
    have zX1 := X1.out.lt
    have kX2 := X2.out.cell
    have zX2 := X2.out.lt
    have kX3 := X3.out.cell
    have zX3 := X3.out.lt
    have kX4 := X4.out.cell
    have zX4 := X4.out.lt
    have kX5 := True.intro
    have zX5 := True.intro
    go_wp2_with fail
    obtain ⟨W0, hW0⟩ : ∃ W0, (w5.alloc (.cells #[.slice A5 (mergeF (ofF []).1 (ofF y0).1).1.length c5] 24)).alloc (.cells #[.slice none 0 0] 24) = W0 := ⟨_, rfl⟩
    have DW : Below w5.heap.size w5 W0 := by rw [← hW0]; exact below_al (below_al (below_0 _) _) _
    have OB : Hid (Boxed W0 (w5.heap.size + 1) 24 (.slice none 0 0)) := by rw [← hW0]; have h := Boxed.new (w5.alloc (.cells #[.slice A5 (mergeF (ofF []).1 (ofF y0).1).1.length c5] 24)) 24 (.slice none 0 0); rwa [World.size_alloc] at h
    replace X5 : Hid (Boxed W0 w5.heap.size 24 (.slice A5 (mergeF (ofF []).1 (ofF y0).1).1.length c5)) := by rw [← hW0]; exact X5.out.alloc _
    replace P0 := Lib.hid (P0.out.later DW)
    replace PY := Lib.hid (PY.out.later DW)
    replace S1 := Lib.hid (S1.out.later DW)
    replace S2 := Lib.hid (S2.out.later DW)
    replace S3 := Lib.hid (S3.out.later DW)
    replace S4 := Lib.hid (S4.out.later DW)
    replace S5 := Lib.hid (S5.out.later DW)
    replace X1 := Lib.hid (boxed_below X1.out DW)
    replace X2 := Lib.hid (boxed_below X2.out DW)
    replace X3 := Lib.hid (boxed_below X3.out DW)
    replace X4 := Lib.hid (boxed_below X4.out DW)
    have z1 : w1.heap.size < w5.heap.size := zX1
    have z4 : w4.heap.size < w5.heap.size := zX4
    have TW := Below.two Tw5 DW
    have hs5 : w.heap.size ≤ w5.heap.size := Tw5.size
    rw [hW0]
    clear hW0 kX1 zX1 kX2 zX2 kX3 zX3 kX4 zX4 kX5 zX5
    go_loopw [17] (fun i wr => ∃ (r : Nat) (A : Option Addr) (c : Nat), r ≤ x0.length ∧ i = .int .i64 ((r : Int) - 1) ∧ Boxed wr (w5.heap.size + 1) 24 (.slice A (backTo x0 r).length c) ∧ Sl wr wr.heap.size A (backTo x0 r) ∧ W0.grownBy wr (some (w5.heap.size + 1))) (fun i _ => (intOf i + 1).toNat)
    case atStart => exact ⟨x0.length, none, 0, Nat.le_refl _, rfl, by rw [backTo_end]; exact OB.out, by rw [backTo_end]; exact Sl.nil, World.grownBy.refl _ _⟩
    case round =>
      obtain ⟨r, A, c, hr, rfl, hB, hS, hG⟩ := hrel
      have HS := Lib.hid hS
      have HB := Lib.hid hB
      have hkB := hB.cell
      have hfB := hB.frozen
      have hzB := hB.lt
      clear hS hB
      have hPX : Hid (Sl wr wr.heap.size a0 x0) := sl_grown P0.out OB.out (fun n e => by cases e) hG
      cases r with
      | succ r =>
        have hge : (0 : Int) ≤ ((r + 1 : Nat) : Int) - 1 := by omega
        have hlt : ((r + 1 : Nat) : Int) - 1 < (x0.length : Int) := by omega
        obtain ⟨b, off, ea, hb, hc⟩ := hPX.out.at_ (by omega)
        cases ea
        have hcc : wr.cell? ⟨b, off + r, none⟩ = some (.int .u64 (nth x0 r)) := hc r (by omega)
        have est := backTo_step E1.out (show r < x0.length by omega)
        have t6 : ((addF (backTo x0 (r + 1)) (nth x0 r)).2 != 0) = false := by rw [est]; rfl
        have EST := Lib.hid est
        have hbl := backTo_len E1.out (r + 1)
        clear hc est
        rw [show ((r + 1 : Nat) : Int) - 1 = (r : Int) from by omega]
        go_wp2_with fail
        have C1 : Hid (Calls Try.prog 12 #[.agg #[.slice A (backTo x0 (r + 1)).length c], .int .u64 (nth x0 r)] wr.drew (ExRes wr.drew (backTo x0 r, 0))) := by
          have h := add_tot wr.drew c A (backTo x0 (r + 1)) (nth x0 r) HS.out (by omega)
          rw [EST.out] at h
          exact h
        have C2 : Hid (Calls Try.prog 12 #[.agg #[.slice A (backTo x0 (r + 1)).length c], .int .u64 (nth x0 r)] (wr.alloc (.cells #[.slice none 0 0] 24)).drew (ExRes (wr.alloc (.cells #[.slice none 0 0] 24)).drew (backTo x0 r, 0))) := by
          have h := add_tot (wr.alloc (.cells #[.slice none 0 0] 24)).drew c A (backTo x0 (r + 1)) (nth x0 r) (HS.out.later (below_al (below_0 _) _).drew) (by omega)
          rw [EST.out] at h
          exact h
        have HN : Hid (Boxed (wr.alloc (.cells #[.slice none 0 0] 24)).drew wr.heap.size 24 (.slice none 0 0)) := Boxed.new wr 24 (.slice none 0 0)
        have HB2 : Hid (Boxed (wr.alloc (.cells #[.slice none 0 0] 24)).drew (w5.heap.size + 1) 24 (.slice A (backTo x0 (r + 1)).length c)) := HB.out.alloc _
        have HB1 : Hid (Boxed wr.drew (w5.heap.size + 1) 24 (.slice A (backTo x0 (r + 1)).length c)) := HB.out
        have HG1 := Lib.hid (grow_drew hG)
        have HG2 := Lib.hid (grow_drew (grow_alloc hG (.cells #[.slice none 0 0] 24)))
        have hne7 : w5.heap.size + 1 ≠ wr.heap.size := by omega
        have hne8 : wr.heap.size ≠ w5.heap.size + 1 := by omega
        have hbn : b < wr.heap.size := hb
        have hbne : b ≠ wr.heap.size := by omega
        have hbne' : wr.heap.size ≠ b := by omega
        have hri : (r : Int) < (x0.length : Int) := by omega
        have hri' : r < x0.length := by omega
        have hcW1 : wr.drew.cell? ⟨b, off + r, none⟩ = some (.int .u64 (nth x0 r)) := hcc
        have hcW2 : (wr.alloc (.cells #[.slice none 0 0] 24)).drew.cell? ⟨b, off + r, none⟩ = some (.int .u64 (nth x0 r)) := (World.cell?_alloc_lt wr _ _ hb).trans hcc
        have hkW2 : (wr.alloc (.cells #[.slice none 0 0] 24)).drew.cell? ⟨w5.heap.size + 1, 0, none⟩ = some (.slice A (backTo x0 (r + 1)).length c) := (World.cell?_alloc_lt wr _ _ hzB).trans hkB
        have HW1 := Lib.hid hcW1
        have HW2 := Lib.hid hcW2
        have HK2 := Lib.hid hkW2
        clear hcW1 hcW2 hkW2
        go_region_held3 (fun w' => w'.cell? ⟨w5.heap.size + 1, 0, none⟩ = some (.slice A (backTo x0 (r + 1)).length c) ∧ w'.cell? ⟨b, off + r, none⟩ = some (.int .u64 (nth x0 r))) (first | exact ⟨hkB, HW1.out⟩ | exact ⟨HK2.out, HW2.out⟩ | exact ⟨kB7, kc7⟩ | go_keep) ((go_at_call 12; first | ((with_reducible refine C1.out.mono ?_); rintro e w7 ⟨hb7, v7, rfl, A7, c7, rfl, hc7, _, hS7, _⟩; have HS7 := Lib.hid hS7; have B7 := boxed_below HB1.out hb7; have kB7 := B7.cell; have fB7 := B7.frozen; have zB7 := B7.lt; have G7 := grow_below HG1.out hb7; have kc7 : w7.cell? ⟨b, off + r, none⟩ = some (.int .u64 (nth x0 r)) := (bcell hb7).1 _ _ (by simp; try omega) |>.trans HW1.out; clear hS7) | ((with_reducible refine C2.out.mono ?_); rintro e w7 ⟨hb7, v7, rfl, A7, c7, rfl, hc7, _, hS7, _⟩; have HS7 := Lib.hid hS7; have N7 := boxed_below HN.out hb7; have B7 := boxed_below HB2.out hb7; have kB7 := B7.cell; have fB7 := B7.frozen; have zB7 := B7.lt; have kN7 := N7.cell; have fN7 := N7.frozen; have zN7 := N7.lt; have G7 := grow_below HG2.out hb7; have kc7 : w7.cell? ⟨b, off + r, none⟩ = some (.int .u64 (nth x0 r)) := (bcell hb7).1 _ _ (by simp; try omega) |>.trans HW2.out; clear hS7)))
        all_goals
          go_wp2_with fail
          go_roundw
          case rel =>
            first
              | (have n7 := N7; exact ⟨r, A7, c7, by omega, rfl, (boxed_far B7 (by omega) _).set _, sl_set (sl_set HS7.out N7 (fun n e => by cases e) _) (boxed_far B7 (by omega) _) (fun n e => by cases e) _, grow_set (grow_set_new G7 (Nat.le_trans hG.size (Nat.le_refl _)) _) _⟩)
              | exact ⟨r, A7, c7, by omega, rfl, (B7.set _).alloc _, (sl_set HS7.out B7 (fun n e => by cases e) _).later (below_al (below_0 _) _), grow_alloc (grow_set G7 _) _⟩
          case measure => simp [intOf]; try omega
      | zero =>
        have SZ1 : Hid (Sl wr wr.heap.size A1 (ofF x0).1) := sl_grown S1.out OB.out (fun n e => by cases e) hG
        have SZ4 := Lib.hid (sl_grown S4.out OB.out (fun n e => by cases e) hG)
        have SZ5 := Lib.hid (sl_grown S5.out OB.out (fun n e => by cases e) hG)
        have BZ1 := Lib.hid (boxed_grown X1.out hG (by omega))
        have BZ4 := Lib.hid (boxed_grown X4.out hG (by omega))
        have BZ5 := Lib.hid (boxed_grown X5.out hG (by omega))
        have TZ := below_grown TW hG (by omega)
        have HE : Hid (eqB (backTo x0 0) (ofF x0).1 = true) := by show eqB _ _ = true; rw [backTo_zero E1.out]; simp [eqB]
        have hbl := backTo_len E1.out 0
        rw [show ((0 : Nat) : Int) - 1 = -1 from rfl]
        clear P0 PY hPX S1 S2 S3 S4 S5 X1 X2 X3 X4 X5 hkB hfB hzB hG
        have kBZ1 := BZ1.out.cell
        have zBZ1 := BZ1.out.lt
        have kBZ4 := BZ4.out.cell
        have zBZ4 := BZ4.out.lt
        have kBZ5 := BZ5.out.cell
        have zBZ5 := BZ5.out.lt
        have kHB := HB.out.cell
        have zHB := HB.out.lt
        go_wp2_with fail
        refine (same_any _ c4 c1 A4 A1 ((mergeF ((ofF y0).1) ((ofF []).1)).1) ((ofF x0).1) (by exact SZ4.out.later (below_0 wr)) (by exact SZ1.out.later (below_0 wr)) (by have := right_len (l := (mergeF ((ofF y0).1) ((ofF []).1)).1) (mergeF_right _ _); omega) (by have := right_len (l := (ofF x0).1) (ofF_right x0); omega)).mono ?_
        rintro e w20 ⟨rfl, hb20⟩
        clear kBZ1 zBZ1 kBZ4 zBZ4 kBZ5 zBZ5 kHB zHB
        have Dw20 : Below wr.heap.size wr w20 := Below.two (below_0 wr) hb20
        replace SZ1 := Lib.hid (SZ1.out.later Dw20)
        replace SZ4 := Lib.hid (SZ4.out.later Dw20)
        replace SZ5 := Lib.hid (SZ5.out.later Dw20)
        replace HS := Lib.hid (HS.out.later Dw20)
        replace BZ1 := Lib.hid (boxed_below BZ1.out Dw20)
        replace BZ4 := Lib.hid (boxed_below BZ4.out Dw20)
        replace BZ5 := Lib.hid (boxed_below BZ5.out Dw20)
        replace HB := Lib.hid (boxed_below HB.out Dw20)
        have Tw20 := Below.two TZ Dw20
        have kBZ1 := BZ1.out.cell
        have zBZ1 := BZ1.out.lt
        have kBZ4 := BZ4.out.cell
        have zBZ4 := BZ4.out.lt
        have kBZ5 := BZ5.out.cell
        have zBZ5 := BZ5.out.lt
        have kHB := HB.out.cell
        have zHB := HB.out.lt
        rw [HM1.out]
        go_wp2_with fail
        refine (same_any _ c5 c1 A5 A1 ((mergeF ((ofF []).1) ((ofF y0).1)).1) ((ofF x0).1) (by exact SZ5.out.later (below_0 w20)) (by exact SZ1.out.later (below_0 w20)) (by have := right_len (l := (mergeF ((ofF []).1) ((ofF y0).1)).1) (mergeF_right _ _); omega) (by have := right_len (l := (ofF x0).1) (ofF_right x0); omega)).mono ?_
        rintro e w21 ⟨rfl, hb21⟩
        clear kBZ1 zBZ1 kBZ4 zBZ4 kBZ5 zBZ5 kHB zHB
        have Dw21 : Below w20.heap.size w20 w21 := Below.two (below_0 w20) hb21
        replace SZ1 := Lib.hid (SZ1.out.later Dw21)
        replace SZ4 := Lib.hid (SZ4.out.later Dw21)
        replace SZ5 := Lib.hid (SZ5.out.later Dw21)
        replace HS := Lib.hid (HS.out.later Dw21)
        replace BZ1 := Lib.hid (boxed_below BZ1.out Dw21)
        replace BZ4 := Lib.hid (boxed_below BZ4.out Dw21)
        replace BZ5 := Lib.hid (boxed_below BZ5.out Dw21)
        replace HB := Lib.hid (boxed_below HB.out Dw21)
        have Tw21 := Below.two Tw20 Dw21
        have kBZ1 := BZ1.out.cell
        have zBZ1 := BZ1.out.lt
        have kBZ4 := BZ4.out.cell
        have zBZ4 := BZ4.out.lt
        have kBZ5 := BZ5.out.cell
        have zBZ5 := BZ5.out.lt
        have kHB := HB.out.cell
        have zHB := HB.out.lt
        rw [HM2.out]
        go_wp2_with fail
        refine (same_any _ c c1 A A1 (backTo x0 0) ((ofF x0).1) (by exact HS.out.later (below_0 w21)) (by exact SZ1.out.later (below_0 w21)) (by omega) (by have := right_len (l := (ofF x0).1) (ofF_right x0); omega)).mono ?_
        rintro e w22 ⟨rfl, hb22⟩
        clear kBZ1 zBZ1 kBZ4 zBZ4 kBZ5 zBZ5 kHB zHB
        have Dw22 : Below w21.heap.size w21 w22 := Below.two (below_0 w21) hb22
        replace SZ1 := Lib.hid (SZ1.out.later Dw22)
        replace SZ4 := Lib.hid (SZ4.out.later Dw22)
        replace SZ5 := Lib.hid (SZ5.out.later Dw22)
        replace HS := Lib.hid (HS.out.later Dw22)
        replace BZ1 := Lib.hid (boxed_below BZ1.out Dw22)
        replace BZ4 := Lib.hid (boxed_below BZ4.out Dw22)
        replace BZ5 := Lib.hid (boxed_below BZ5.out Dw22)
        replace HB := Lib.hid (boxed_below HB.out Dw22)
        have Tw22 := Below.two Tw21 Dw22
        have kBZ1 := BZ1.out.cell
        have zBZ1 := BZ1.out.lt
        have kBZ4 := BZ4.out.cell
        have zBZ4 := BZ4.out.lt
        have kBZ5 := BZ5.out.cell
        have zBZ5 := BZ5.out.lt
        have kHB := HB.out.cell
        have zHB := HB.out.lt
        rw [HE.out]
        go_wp2_with fail
        go_ret
        exact ⟨rfl, Tw22⟩
  · have t1 : ((ofF x0).2 != 0) = true := by simpa using e1
    have t2 : ((ofF x0).2 == 60) = true := by rw [ofF, cut64] at e1 ⊢; split at e1; exact absurd rfl e1; rename_i h; rw [if_neg h]; rfl
    clear e1
    go_wp2_with fail
    go_ret
    exact ⟨rfl, below_al Tw3 _⟩
end Go.Proofs.Ytdobgfadnenhaaa

/-
  The walk of the reference's Count.
-/
import Derived.Test.YthjdonhabenmcaaCmsRAdd
import Derived.Test.YthjdonhabenmcaaCmsCount
namespace Go.Proofs.Ythjdonhabenmcaa
open Go.RowKit
set_option linter.unusedVariables false
theorem rcount_bad (r c : Int) (A : Option Addr) (l : List Int) (cap : Nat) (h : Int) (w : World) (hr : rightC r c l.length = false) :
    Calls Try.prog 22 #[.agg #[.int .i64 r, .int .i64 c, .slice A l.length cap], .int .u64 h] w fun e w' => e = .returned (.int .u64 (countC ⟨r, c, l⟩ h)) ∧ Below w.heap.size w w' := by
  have HR : Hid (countC ⟨r, c, l⟩ h = 0) := by show countC _ _ = _; rw [countC, if_neg (by simp [hr])]
  have H := Lib.hid hr
  clear hr
  go_enter Try.func22, Try.ntmps22
  go_wp2_with fail
  refine (rright_any r c A l.length cap _).mono ?_
  rintro e w' ⟨rfl, rfl⟩
  rw [H.out]
  go_wp2_with fail
  go_ret
  exact ⟨ret_int HR.out.symm, below_al (below_al (below_0 _) _) _⟩
set_option maxHeartbeats 2000000 in
theorem rcount_good (R C : Nat) (A : Option Addr) (l : List Int) (cap : Nat) (h : Int) (hh : U h) (hU : Us l) (w : World) (hS : Sl w w.heap.size A l) (hr : rightC R C l.length = true) :
    Calls Try.prog 22 #[.agg #[.int .i64 R, .int .i64 C, .slice A l.length cap], .int .u64 h] w fun e w' => e = .returned (.int .u64 (countC ⟨R, C, l⟩ h)) ∧ Below w.heap.size w w' := by
  have HR : Hid (countC ⟨R, C, l⟩ h = least l (places R C h)) := by show countC _ _ = _; rw [countC, if_pos hr]; simp
  obtain ⟨q1, q2, q3⟩ := shape_of (right_of hr).1
  have hl : l.length = R * C := by have := (right_of hr).2; rw [← Int.natCast_mul] at this; omega
  have hR4 : R ≤ 4 := by omega
  have hR1 : 1 ≤ R := by omega
  have hC1 : 1 ≤ C := by omega
  have hC2 : C ≤ 32 := by omega
  have hlb : l.length ≤ 128 := by rw [hl]; exact Nat.le_trans (Nat.mul_le_mul hR4 hC2) (by omega)
  have hl0 : 0 < l.length := by rw [hl]; exact Nat.mul_pos hR1 hC1
  have H := Lib.hid hr
  have HL := Lib.hid hl
  obtain ⟨b, off, rfl, hb, hcs⟩ := hS.at_ hl0
  have HCS := Lib.hid hcs
  have DA : Below w.heap.size w ((w.alloc (.cells #[.int .i64 R, .int .i64 C, .slice (some ⟨b, off, none⟩) l.length cap] 24)).alloc (.cells #[.int .i64 R, .int .i64 C, .slice (some ⟨b, off, none⟩) l.length cap] 24)) := below_al (below_al (below_0 _) _) _
  have X := Lib.hid ((Blk.new w 24 #[.int .i64 R, .int .i64 C, .slice (some ⟨b, off, none⟩) l.length cap]).alloc (.cells #[.int .i64 R, .int .i64 C, .slice (some ⟨b, off, none⟩) l.length cap] 24))
  clear hr q1 q2 q3 hl hS hcs
  go_enter Try.func22, Try.ntmps22
  go_wp2_with fail
  refine (rright_any _ _ _ l.length cap _).mono ?_
  rintro e w' ⟨rfl, rfl⟩
  rw [H.out]
  go_wp2_with fail
  go_loopw [5, 6] (fun a i wr => ∃ k : Nat, k ≤ R ∧ i = .int .i64 k ∧ a = .int .u64 (least l ((places R C h).take k)) ∧ Blk wr w.heap.size 24 #[.int .i64 R, .int .i64 C, .slice (some ⟨b, off, none⟩) l.length cap] ∧ Below w.heap.size w wr) (fun _ i _ => R - (intOf i).toNat)
  case atStart => exact ⟨0, Nat.zero_le _, rfl, rfl, X.out, DA⟩
  case round =>
    obtain ⟨k, hk, rfl, rfl, X1, hb1⟩ := hrel
    clear X DA
    have HX := Lib.hid X1
    have x0 := X1.c0
    have x1 := X1.c1
    have x2 := X1.c2
    have zx := X1.lt
    clear X1
    by_cases hlt : k < R
    · obtain ⟨a, ha⟩ : ∃ a, least l ((places R C h).take k) = a := ⟨_, rfl⟩
      obtain ⟨m, hm⟩ : ∃ m, min a (nth l (place C h k)) = m := ⟨_, rfl⟩
      have HNL : Hid (least l ((places R C h).take (k + 1)) = m) := by
        show _ = _
        rw [places_take hlt, least_snoc, ha, hm]
      rw [ha]
      have hUa : U a := by rw [← ha]; exact least_U hU _
      clear ha
      have hpl : place C h k < l.length := by rw [HL.out]; exact place_lt hC1 h hlt
      have hkc : k * C ≤ 128 := Nat.le_trans (Nat.mul_le_mul (show k ≤ 4 by omega) hC2) (by omega)
      have m1 : 0 ≤ (k : Int) * (C : Int) := by rw [← Int.natCast_mul]; omega
      have m2 : (k : Int) * (C : Int) ≤ 128 := by rw [← Int.natCast_mul]; omega
      obtain ⟨m3, m4⟩ := colF_bd (c := C) (by omega) k h
      have hpe : (k : Int) * (C : Int) + colF C k h = ((place C h k : Nat) : Int) := by unfold place; rw [Int.natCast_add, Int.natCast_mul]; omega
      have w1 : IntKind.i64.wrap ((k : Int) * (C : Int)) = (k : Int) * (C : Int) := IntWalk.i64_in _ (by omega)
      have w2 : IntKind.i64.wrap ((k : Int) * (C : Int) + colF C k h) = ((place C h k : Nat) : Int) := by rw [IntWalk.i64_in _ (by omega)]; exact hpe
      have HCF : Hid (ColF R C l.length k h = colF C k h) := by show ColF _ _ _ _ _ = _; rw [ColF, if_pos ⟨H.out, by omega, by omega⟩]
      have cx : wr.cell? ⟨b, off + place C h k, none⟩ = some (.int .u64 (nth l (place C h k))) := (hb1.cell (p := ⟨b, off + place C h k, none⟩) hb).trans (HCS.out _ hpl)
      have hUv := nth_U hU (place C h k)
      clear hpe
      generalize place C h k = p at *
      generalize nth l p = v at *
      have hmin : (if v < a then v else a) = m := by rw [← hm]; split <;> omega
      have hi1 : (0 : Int) ≤ (p : Int) := by omega
      have hi2 : (p : Int) < (l.length : Int) := by omega
      have hbw : b < wr.heap.size := by have := hb1.size; omega
      clear hm
      go_wp2_with fail
      go_region_held3 (fun w' => w'.cell? ⟨w.heap.size, 0, none⟩ = some (.int .i64 R) ∧ w'.cell? ⟨w.heap.size, 1, none⟩ = some (.int .i64 C) ∧ w'.cell? ⟨w.heap.size, 2, none⟩ = some (.slice (some ⟨b, off, none⟩) l.length cap) ∧ w'.cell? ⟨b, off + p, none⟩ = some (.int .u64 v)) (first | go_keep | exact ⟨y0, y1, y2, y3⟩)
        (first | (go_at_call 20; refine (rCol_any _ _ _ l.length cap k h hh _).mono ?_; rintro e w3 ⟨rfl, hb3⟩; rw [HCF.out]; have hb4 : Below wr.heap.size wr w3 := Below.two (below_0 wr).drew hb3; have X3 := HX.out.later hb4; have y0 := X3.c0; have y1 := X3.c1; have y2 := X3.c2; have y3 := (hb4.cell (p := ⟨b, off + p, none⟩) hbw).trans cx))
      all_goals
        clear x0 x1 x2 w1 w2 y0 y1 y2 y3 hmin
        go_wp2_with fail
        go_roundw
        case rel => exact ⟨k + 1, by omega, by go_num, by rw [HNL.out], X3, hb1.trans (hb4.mono hb1.size)⟩
        case measure => simp [intOf]; omega
    · obtain rfl : k = R := by omega
      have HL' : Hid (least l ((places k C h).take k) = least l (places k C h)) := by show _ = _; rw [List.take_of_length_le (by rw [length_places]; exact Nat.le_refl _)]
      go_wp2_with fail
      go_ret
      exact ⟨ret_int (by rw [HR.out, HL'.out]), hb1⟩
theorem rcount_any (r c : Int) (A : Option Addr) (l : List Int) (cap : Nat) (h : Int) (hh : U h) (hU : Us l) (w : World) (hS : Sl w w.heap.size A l) :
    Calls Try.prog 22 #[.agg #[.int .i64 r, .int .i64 c, .slice A l.length cap], .int .u64 h] w fun e w' => e = .returned (.int .u64 (countC ⟨r, c, l⟩ h)) ∧ Below w.heap.size w w' := by
  cases hr : rightC r c l.length with
  | false => exact rcount_bad r c A l cap h w hr
  | true =>
    obtain ⟨R, C, rfl, rfl, _⟩ := shape_nat (right_of hr).1
    exact rcount_good R C A l cap h hh hU w hS hr
end Go.Proofs.Ythjdonhabenmcaa

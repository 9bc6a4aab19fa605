/-
  The walk of the reference's Add.
-/
import Derived.Test.YthjdonhabenmcaaCmsAdd
namespace Go.Proofs.Ythjdonhabenmcaa
open Go.RowKit
set_option linter.unusedVariables false
section
variable (r c : Int) (A : Option Addr) (l : List Int) (cap : Nat) (w : World)
/-- The world behind the reference's first question: the argument's box, the result's, Right's. -/
abbrev refW : World := ((w.alloc (.cells #[.int .i64 r, .int .i64 c, .slice A l.length cap] 24)).alloc (.cells #[.int .i64 0, .int .i64 0, .slice none 0 0] 24)).alloc (.cells #[.int .i64 r, .int .i64 c, .slice A l.length cap] 24)
theorem refW_below : Below w.heap.size w (refW r c A l cap w) := below_al (below_al (below_al (below_0 _) _) _) _
theorem refW_x : Blk (refW r c A l cap w) w.heap.size 24 #[.int .i64 r, .int .i64 c, .slice A l.length cap] := ((Blk.new w _ _).alloc _).alloc _
theorem refW_r : Blk (refW r c A l cap w) (w.heap.size + 1) 24 #[.int .i64 0, .int .i64 0, .slice none 0 0] := by
  have h := (Blk.new (w.alloc (.cells #[.int .i64 r, .int .i64 c, .slice A l.length cap] 24)) 24 #[.int .i64 0, .int .i64 0, .slice none 0 0]).alloc (.cells #[.int .i64 r, .int .i64 c, .slice A l.length cap] 24)
  rwa [World.size_alloc] at h
end
theorem radd_bad (r c : Int) (A : Option Addr) (l : List Int) (cap : Nat) (h n : Int) (w : World) (hr : rightC r c l.length = false) :
    Calls Try.prog 15 #[.agg #[.int .i64 r, .int .i64 c, .slice A l.length cap], .int .u64 h, .int .u64 n] w (CRes w (addC ⟨r, c, l⟩ h n)) := by
  have HR : Hid (addC ⟨r, c, l⟩ h n = (Cm.none, 80)) := by show addC _ _ _ = _; rw [addC, if_neg (by simp [hr])]
  have H := Lib.hid hr
  clear hr
  go_enter Try.func15, Try.ntmps15
  go_wp2_with fail
  refine (rright_any r c A l.length cap _).mono ?_
  rintro e w' ⟨rfl, rfl⟩
  rw [H.out]
  go_wp2_with fail
  refine bodyPost_ret (v := .tuple #[.agg #[.int .i64 0, .int .i64 0, .slice none 0 0], .int .i64 80]) (by simp [results, Try.results15, go_sem]) rfl
    ⟨below_al (below_al (below_al (below_0 _) _) _) _, .slice none 0 0, by rw [HR.out]; rfl, ?_⟩
  rw [HR.out]
  exact held_nil _ _
theorem places_take {R C : Nat} {h : Int} {k : Nat} (hk : k < R) : (places R C h).take (k + 1) = (places R C h).take k ++ [place C h k] := by
  rw [List.take_succ_eq_append_getElem (by rw [length_places]; exact hk)]
  simp [places]
theorem u64_set (l : List Int) (p : Nat) (v : Int) : (l.map (Value.int .u64)).set p (.int .u64 v) = (l.set p v).map (Value.int .u64) := by simp [List.map_set]
theorem u64_at {l : List Int} {p : Nat} (hp : p < l.length) : (l.map (Value.int .u64))[p]? = some (.int .u64 (nth l p)) := by simp [nth, hp]
/-- An owned row of numbers is a slice that reads as a list. -/
theorem held_of_own {w : World} {b0 base n g cap : Nat} {t : TypeId} {L : List Int} (h : w.ownsRow b0 t 1 (.slice (some ⟨g, 0, none⟩) n cap) n (L.map (Value.int .u64))) (hL : L.length = n) (hb : base ≤ b0) : Held w base (.slice (some ⟨g, 0, none⟩) n cap) L := by
  obtain ⟨A, c, e, hc, hR, hF⟩ := owns_form h
  cases e
  subst hL
  exact ⟨_, _, rfl, hc, (fun e => by cases e), hR, hF.from hb⟩
/-- Between two rounds of the reference's Add. -/
def RaI (w : World) (g capg b n : Nat) (X : Array Value) (L : List Int) (wr : World) : Prop :=
  wr.ownsRow (w.heap.size + 3) 25 1 (.slice (some ⟨g, 0, none⟩) n capg) n (L.map (Value.int .u64)) ∧ Blk wr b 24 X ∧ Blk wr (b + 1) 24 #[.int .i64 0, .int .i64 0, .slice none 0 0] ∧ Below w.heap.size w wr ∧ w.heap.size + 3 ≤ g ∧ g < wr.heap.size
set_option maxHeartbeats 2000000 in
theorem radd_good (R C : Nat) (A : Option Addr) (l : List Int) (cap : Nat) (h n : Int) (hh : U h) (hn : U n) (hU : Us l) (w : World) (hS : Sl w w.heap.size A l) (hr : rightC R C l.length = true) :
    Calls Try.prog 15 #[.agg #[.int .i64 R, .int .i64 C, .slice A l.length cap], .int .u64 h, .int .u64 n] w (CRes w (addC ⟨R, C, l⟩ h n)) := by
  have HR : Hid (addC ⟨R, C, l⟩ h n = (⟨R, C, chgAll (fun _ o => sat o n) l (places R C h)⟩, 0)) := by show addC _ _ _ = _; rw [addC, if_pos hr]; simp
  obtain ⟨q1, q2, q3⟩ := shape_of (right_of hr).1
  have hl : l.length = R * C := by have := (right_of hr).2; rw [← Int.natCast_mul] at this; omega
  have hR4 : R ≤ 4 := by omega
  have hR1 : 1 ≤ R := by omega
  have hC1 : 1 ≤ C := by omega
  have hC2 : C ≤ 32 := by omega
  have hlb : l.length ≤ 128 := by rw [hl]; exact Nat.le_trans (Nat.mul_le_mul hR4 hC2) (by omega)
  have hl0 : 0 < l.length := by rw [hl]; exact Nat.mul_pos hR1 hC1
  have H := Lib.hid hr
  have HL := Lib.hid hl
  have DA := refW_below R C A l cap w
  have X := Lib.hid (refW_x R C A l cap w)
  have Y := Lib.hid (refW_r R C A l cap w)
  have HS := Lib.hid (hS.later DA)
  obtain ⟨i0, hi0, hz0, hz1, hz2⟩ := info_parts Try.infoU64
  clear hr q1 q2 q3 hl hS
  go_enter Try.func15, Try.ntmps15
  go_wp2_with fail
  refine (rright_any _ _ A l.length cap _).mono ?_
  rintro e w' ⟨rfl, rfl⟩
  rw [H.out]
  go_wp2_with (
    at_builtin
    refine wpList_append_rd _ rfl (.tmp 15) (.tmp 17) 22 rfl (w.heap.size + 3) 25 i0 (.int .u64 0) 1 8 Try.underlying22 hi0 hz0 hz1 hz2 rfl (by decide) (.slice none 0 0) 0 [] rfl (World.ownsRow_nil _ _ _ _) _ A l.length cap (l.map (Value.int .u64)) rfl (by simp) HS.out one_u64 (by unfold maxLen; omega) (by omega) (by simp) ?_
    intro v1 w1 hown1 hg1 hat1
    simp only [Nat.zero_add, List.nil_append] at hown1
    obtain ⟨g, capg, rfl, hgb, hgl⟩ := hown1.form hl0
    have hb1 : Below w.heap.size w w1 := DA.grown hg1 DA.size (fun k e => by cases e)
    have X1 := X.out.grown hg1 (fun e => by cases e)
    have Y1 := Y.out.grown hg1 (fun e => by cases e)
    have hI : RaI w g capg w.heap.size l.length #[.int .i64 R, .int .i64 C, .slice A l.length cap] l w1 := ⟨hown1, X1, Y1, hb1, hgb, hgl⟩
    have HI := Lib.hid hI
    clear hown1 hg1 hat1 hI X1 Y1)
  go_loopw [9] (fun i wr => ∃ k : Nat, k ≤ R ∧ i = .int .i64 k ∧ RaI w g capg w.heap.size l.length #[.int .i64 R, .int .i64 C, .slice A l.length cap] (chgAll (fun _ o => sat o n) l ((places R C h).take k)) wr) (fun i _ => R - (intOf i).toNat)
  case atStart => exact ⟨0, Nat.zero_le _, rfl, HI.out⟩
  case round =>
    obtain ⟨k, hk, rfl, hI⟩ := hrel
    clear HI hgl hb1 HS X Y DA w1
    obtain ⟨L, hL⟩ : ∃ L, chgAll (fun _ o => sat o n) l ((places R C h).take k) = L := ⟨_, rfl⟩
    rw [hL] at hI
    have hLl : L.length = l.length := by rw [← hL]; exact length_chgAll _ _ _
    have hUL : Us L := by rw [← hL]; exact Us.chgAll (fun _ o ho => sat_U ho.1 hn.1) hU
    obtain ⟨hown, X1, Y1, hb1, hgb', hgl⟩ := hI
    have HO := Lib.hid hown
    have HX := Lib.hid X1
    have HY := Lib.hid Y1
    have HLL := Lib.hid hLl
    have x0 := X1.c0
    have x1 := X1.c1
    have x2 := X1.c2
    have zx := X1.lt
    by_cases hlt : k < R
    · have HNL : Hid (chgAll (fun _ o => sat o n) l ((places R C h).take (k + 1)) = L.set (place C h k) (sat (nth L (place C h k)) n)) := by
        show _ = _
        rw [places_take hlt, chgAll_snoc, hL]; rfl
      clear hL X1 Y1 hown hLl
      have hpl : place C h k < l.length := by rw [HL.out]; exact place_lt hC1 h hlt
      have hkc : k * C ≤ 128 := Nat.le_trans (Nat.mul_le_mul (show k ≤ 4 by omega) hC2) (by omega)
      have m1 : 0 ≤ (k : Int) * (C : Int) := by rw [← Int.natCast_mul]; omega
      have m2 : (k : Int) * (C : Int) ≤ 128 := by rw [← Int.natCast_mul]; omega
      obtain ⟨m3, m4⟩ := colF_bd (c := C) (by omega) k h
      have hpe : (k : Int) * (C : Int) + colF C k h = ((place C h k : Nat) : Int) := by unfold place; rw [Int.natCast_add, Int.natCast_mul]; omega
      have w1 : IntKind.i64.wrap ((k : Int) * (C : Int)) = (k : Int) * (C : Int) := IntWalk.i64_in _ (by omega)
      have w2 : IntKind.i64.wrap ((k : Int) * (C : Int) + colF C k h) = ((place C h k : Nat) : Int) := by rw [IntWalk.i64_in _ (by omega)]; exact hpe
      have HCF : Hid (ColF R C l.length k h = colF C k h) := by show ColF _ _ _ _ _ = _; rw [ColF, if_pos ⟨H.out, by omega, by omega⟩]
      clear hpe
      go_wp2_with fail
      go_region_held3 (fun w' => w'.cell? ⟨w.heap.size, 0, none⟩ = some (.int .i64 R) ∧ w'.cell? ⟨w.heap.size, 1, none⟩ = some (.int .i64 C) ∧ w'.cell? ⟨w.heap.size, 2, none⟩ = some (.slice A l.length cap)) (first | go_keep | exact ⟨y0, y1, y2⟩)
        (first | (go_at_call 20; refine (rCol_any _ _ A l.length cap k h hh _).mono ?_; rintro e w3 ⟨rfl, hb3⟩; rw [HCF.out]; have hb4 : Below wr.heap.size wr w3 := Below.two (below_0 wr).drew hb3; have X3 := HX.out.later hb4; have y0 := X3.c0; have y1 := X3.c1; have y2 := X3.c2))
      clear x0 x1 x2 w1 w2 y0 y1 y2 X3
      have O3 := HO.out.kept (grow_of_below hb4 none) (.inr (by simp [Value.ownBlock]))
      have hO3 := Lib.hid O3
      have hLL : place C h k < L.length := by rw [HLL.out]; exact hpl
      have cg : w3.cell? ⟨g, place C h k, none⟩ = some (.int .u64 (nth L (place C h k))) := (O3.cellAt (place C h k) (by omega)).trans (u64_at hLL)
      have fg := O3.frozenAt (place C h k)
      have hv := nth_U hUL (place C h k)
      generalize place C h k = p at *
      generalize nth L p = v at *
      have hz3 := hb4.size
      clear O3 hb3
      go_wp2_with (go_at_call 25; refine (plus_any v n hv hn _).mono ?_; rintro e w' ⟨rfl, rfl⟩)
      go_roundw
      case rel =>
        refine ⟨k + 1, by omega, by go_num, ?_⟩
        rw [HNL.out]
        have hst := hO3.out.stored p (.int .u64 (sat v n))
        rw [u64_set] at hst
        refine ⟨hst.1, ((HX.out.later hb4).far (by show w.heap.size ≠ g; omega) _), ((HY.out.later hb4).far (by show w.heap.size + 1 ≠ g; omega) _), below_turned (hb1.trans (hb4.mono hb1.size)) hst.2 (by omega), hgb', ?_⟩
        have := hst.2.size
        omega
      case measure => simp [intOf]; omega
    · obtain rfl : k = R := by omega
      have HL' : Hid (L = chgAll (fun _ o => sat o n) l (places k C h)) := by show L = _; rw [← hL, List.take_of_length_le (by rw [length_places]; exact Nat.le_refl _)]
      clear hL
      have f0 := Y1.frozen 0
      have f1 := Y1.frozen 1
      have f2 := Y1.frozen 2
      have u0 := Y1.c0
      have u1 := Y1.c1
      have u2 := Y1.c2
      clear X1 Y1 hown hLl
      go_wp2_with fail
      have K := HY.out.set3 (x := .int .i64 k) (y := .int .i64 C) (z := .slice (some ⟨g, 0, none⟩) l.length capg)
      have k0 := K.c0
      have k1 := K.c1
      have k2 := K.c2
      refine bodyPost_ret (v := .tuple #[.agg #[.int .i64 k, .int .i64 C, .slice (some ⟨g, 0, none⟩) l.length capg], .int .i64 0]) (by simp [results, Try.results15, go_sem, k0, k1, k2]) rfl
        ⟨below_set3 hb1 (by omega) _ _ _, .slice (some ⟨g, 0, none⟩) l.length capg, by rw [HR.out], ?_⟩
      rw [HR.out, ← HL'.out]
      refine res_stored HY.out ?_
      exact held_of_own HO.out HLL.out (by omega)
theorem radd_any (r c : Int) (A : Option Addr) (l : List Int) (cap : Nat) (h n : Int) (hh : U h) (hn : U n) (hU : Us l) (w : World) (hS : Sl w w.heap.size A l) :
    Calls Try.prog 15 #[.agg #[.int .i64 r, .int .i64 c, .slice A l.length cap], .int .u64 h, .int .u64 n] w (CRes w (addC ⟨r, c, l⟩ h n)) := by
  cases hr : rightC r c l.length with
  | false => exact radd_bad r c A l cap h n w hr
  | true =>
    obtain ⟨R, C, rfl, rfl, _⟩ := shape_nat (right_of hr).1
    exact radd_good R C A l cap h n hh hn hU w hS hr
end Go.Proofs.Ythjdonhabenmcaa

/-
  The walk of hist.Right.
-/
import Derived.Test.YtopddcabaiicgaaHistBounds
namespace Go.Proofs.Ytopddcabaiicgaa
open Go.RowKit
set_option linter.unusedVariables false
/-- The place ahead of number k. -/
def bef (l : Bins) (k : Nat) : Int := if k = 0 then -1 else (bth l (k - 1)).1
/-- Is bin k right? -/
def okI (f : Int) (l : Bins) (k : Nat) : Bool := (bth l k).2 != 0 && ((boundsF f (bth l k).1).2.2 && decide (bef l k < (bth l k).1))
def okTo (f : Int) (l : Bins) (k : Nat) : Bool := (List.range k).all (okI f l)
/-- Are bins a histogram? -/
def rightB (f : Int) (l : Bins) : Bool := fineB f && okTo f l l.length
theorem okTo_succ (f : Int) (l : Bins) (k : Nat) : okTo f l (k + 1) = (okTo f l k && okI f l k) := by
  unfold okTo; rw [List.range_succ, List.all_append]; simp
theorem okTo_bad {f : Int} {l : Bins} {k : Nat} (hk : k < l.length) (h : okI f l k = false) : okTo f l l.length = false := by
  unfold okTo
  rw [List.all_eq_false]
  exact ⟨k, List.mem_range.2 hk, by simp [h]⟩
theorem bef_succ (l : Bins) (k : Nat) : bef l (k + 1) = (bth l k).1 := by simp [bef]
def RightI (w : World) (f : Int) (A : Option Addr) (n cap : Nat) (wr : World) : Prop :=
  Blk wr w.heap.size 25 #[.int .i64 f, .slice A n cap] ∧ Below w.heap.size w wr
theorem below_drew {a w : World} (h : Below a.heap.size a w) (n : Nat) : Below a.heap.size a (w.drewN n) := below_drewN h n
theorem Blk.drewN {w : World} {g : Nat} {t : TypeId} {cs : Array Value} (h : Blk w g t cs) (n : Nat) : Blk (w.drewN n) g t cs := h
theorem Blk.d0 {w : World} {g : Nat} {t : TypeId} {a b : Value} (h : Blk w g t #[a, b]) : w.cell? ⟨g, 0, none⟩ = some a := h.cell 0
theorem Blk.d1 {w : World} {g : Nat} {t : TypeId} {a b : Value} (h : Blk w g t #[a, b]) : w.cell? ⟨g, 1, none⟩ = some b := h.cell 1
set_option maxHeartbeats 2000000 in
theorem right_any (f : Int) (A : Option Addr) (l : Bins) (cap : Nat) (hU : UBs l) (hl : l.length ≤ 9223372036854775807) (w : World) (hS : Sb w w.heap.size A l) :
    Calls Try.prog 19 #[.agg #[.int .i64 f, .slice A l.length cap]] w fun e w' => e = .returned (.bool (rightB f l)) ∧ Below w.heap.size w w' := by
  have T : Below w.heap.size w (w.alloc (.cells #[.int .i64 f, .slice A l.length cap] 25)) := below_al (below_0 _) _
  have X := Lib.hid (Blk.new w 25 #[.int .i64 f, .slice A l.length cap])
  have HS := Lib.hid hS
  clear hS
  cases hf : fineB f with
  | false =>
    have HF := Lib.hid hf
    clear hf
    go_enter Try.func19, Try.ntmps19
    go_wp2_with fail
    refine (isFine_any _ _).mono ?_
    rintro e w' ⟨rfl, rfl⟩
    rw [HF.out]
    go_wp2_with fail
    go_ret
    exact ⟨ret_bool (by simp [rightB, HF.out]), T⟩
  | true =>
    have HF := Lib.hid hf
    clear hf
    go_enter Try.func19, Try.ntmps19
    go_wp2_with fail
    refine (isFine_any _ _).mono ?_
    rintro e w' ⟨rfl, rfl⟩
    rw [HF.out]
    go_wp2_with fail
    have HI : Hid (RightI w f A l.length cap (w.alloc (.cells #[.int .i64 f, .slice A l.length cap] 25))) := ⟨X.out, T⟩
    clear X T
    go_loopw [3, 16] (fun b i wr => ∃ k : Nat, k ≤ l.length ∧ i = .int .i64 k ∧ b = .int .i64 (bef l k) ∧ Hid (okTo f l k = true) ∧ RightI w f A l.length cap wr) (fun _ i _ => l.length - (intOf i).toNat)
    case atStart => exact ⟨0, Nat.zero_le _, rfl, rfl, rfl, HI.out⟩
    case round =>
      obtain ⟨k, hk, rfl, rfl, HK, X, T⟩ := hrel
      clear HI
      have x0 := X.d0
      have x1 := X.d1
      have zx := X.lt
      have HX := Lib.hid X
      clear X
      by_cases hlt : k < l.length
      · obtain ⟨b, off, rfl, hb, hcs⟩ := HS.out.at_ (by omega)
        obtain ⟨h1, h2⟩ := hcs k hlt
        have i1 := (T.cell (p := ⟨b, off + k * 2, none⟩) hb).trans h1
        have i2 := (T.cell (p := ⟨b, off + k * 2 + 1, none⟩) hb).trans h2
        have hbw : b < wr.heap.size := by have := T.size; omega
        have HN : Hid (okTo f l (k + 1) = okI f l k) := by show _ = _; rw [okTo_succ, HK.out, Bool.true_and]
        have HB : Hid (okI f l k = false → okTo f l l.length = false) := fun h => okTo_bad hlt h
        have HV : Hid (okI f l k = ((bth l k).2 != 0 && ((boundsF f (bth l k).1).2.2 && decide (bef l k < (bth l k).1)))) := rfl
        have HB1 : Hid (bef l (k + 1) = (bth l k).1) := bef_succ l k
        obtain ⟨u1, u2⟩ := bth_U hU k
        generalize bth l k = it at *
        generalize bef l k = bf at *
        generalize hq : boundsF f it.1 = q at *
        have HQ := Lib.hid hq
        have hi1 : (0 : Int) ≤ (k : Int) := by omega
        have hi2 : (k : Int) < (l.length : Int) := by omega
        clear hcs h1 h2 hq
        by_cases c1 : it.2 = 0
        · have d1 : (it.2 == 0) = true := by simp [c1]
          have HR : Hid (okTo f l l.length = false) := HB.out (by rw [HV.out]; simp [c1])
          clear c1
          go_wp2_with fail
          refine (bounds_any _ _ u1 _).mono ?_
          rintro e w' ⟨rfl, n, rfl⟩
          rw [HQ.out]
          go_wp2_with fail
          go_ret
          exact ⟨ret_bool (by simp [rightB, HR.out]), below_drew (below_al T _) _⟩
        · have d1 : (it.2 == 0) = false := by simp [c1]
          by_cases c2 : q.2.2 = true
          · by_cases c3 : bf < it.1
            · have d3 : decide (it.1 ≤ bf) = false := by simp; omega
              have HR : Hid (okTo f l (k + 1) = true) := by show _ = _; rw [HN.out, HV.out, c2]; simp [c1, c3]
              clear c1
              go_wp2_with fail
              refine (bounds_any _ _ u1 _).mono ?_
              rintro e w' ⟨rfl, n, rfl⟩
              rw [HQ.out]
              go_wp2_with fail
              go_roundw
              case rel => exact ⟨k + 1, by omega, by go_num, by rw [HB1.out], HR, (HX.out.alloc _).drewN _, below_drew (below_al T _) _⟩
              case measure => simp [intOf]; omega
            · have d3 : decide (it.1 ≤ bf) = true := by simp; omega
              have HR : Hid (okTo f l l.length = false) := HB.out (by rw [HV.out]; simp [c3])
              clear c1
              go_wp2_with fail
              refine (bounds_any _ _ u1 _).mono ?_
              rintro e w' ⟨rfl, n, rfl⟩
              rw [HQ.out]
              go_wp2_with fail
              go_ret
              exact ⟨ret_bool (by simp [rightB, HR.out]), below_drew (below_al T _) _⟩
          · have c2' : q.2.2 = false := by simpa using c2
            have HR : Hid (okTo f l l.length = false) := HB.out (by rw [HV.out, c2']; simp)
            clear c1 c2
            go_wp2_with fail
            refine (bounds_any _ _ u1 _).mono ?_
            rintro e w' ⟨rfl, n, rfl⟩
            rw [HQ.out]
            go_wp2_with fail
            go_ret
            exact ⟨ret_bool (by simp [rightB, HR.out]), below_drew (below_al T _) _⟩
      · obtain rfl : k = l.length := by omega
        go_wp2_with fail
        go_ret
        exact ⟨ret_bool (by simp [rightB, HF.out, HK.out]), T⟩
end Go.Proofs.Ytopddcabaiicgaa

/-
  The document's own Right.
-/
import Derived.Test.YtopddcabaiicgaaHistRef2
import Derived.Test.YtopddcabaiicgaaHistRight
namespace Go.Proofs.Ytopddcabaiicgaa
open Go.RowKit
set_option linter.unusedVariables false
set_option linter.unusedSimpArgs false
theorem has_ge' {f a : Int} (h : (boundsF f a).2.2 = true) : 0 ≤ a := by
  unfold boundsF at h
  split at h
  · rename_i h1; exact h1.2
  · cases h
/-- Is bin k right, as the document says it? -/
theorem okI_alt {f : Int} {l : Bins} {k : Nat} : okI f l k = ((boundsF f (bth l k).1).2.2 && ((bth l k).2 != 0 && (decide (k = 0) || decide ((bth l (k - 1)).1 < (bth l k).1)))) := by
  unfold okI
  cases h : (boundsF f (bth l k).1).2.2
  · simp
  · cases h2 : (bth l k).2 != 0
    · simp
    · simp only [Bool.true_and]
      have := has_ge' h
      unfold bef
      by_cases h0 : k = 0
      · simp [h0]; subst h0; omega
      · simp [h0]
set_option maxRecDepth 100000 in
set_option maxHeartbeats 4000000 in
theorem rright_any (f : Int) (A : Option Addr) (l : Bins) (cap : Nat) (hU : UBs l) (hl : l.length ≤ 9223372036854775806) (w : World) (hS : Sb w w.heap.size A l) :
    Calls Try.prog 20 #[.agg #[.int .i64 f, .slice A l.length cap]] w fun e w' => e = .returned (.bool (rightB f l)) ∧ Below w.heap.size w w' := by
  have T : Below w.heap.size w (w.alloc (.cells #[.int .i64 f, .slice A l.length cap] 25)) := below_al (below_0 _) _
  have HI : Hid (RightI w f A l.length cap (w.alloc (.cells #[.int .i64 f, .slice A l.length cap] 25))) := ⟨Blk.new w _ _, T⟩
  have HS := Lib.hid hS
  clear hS T
  go_enter Try.func20, Try.ntmps20
  go_wp2_with fail
  go_loopw [3] (fun i wr => ∃ k : Nat, k ≤ l.length ∧ i = .int .i64 k ∧ Hid (okTo f l k = true) ∧ RightI w f A l.length cap wr) (fun i _ => l.length - (RowKit.intOf i).toNat)
  case atStart => exact ⟨0, Nat.zero_le _, rfl, rfl, HI.out⟩
  case round =>
    obtain ⟨k, hk, rfl, HK, X, T⟩ := hrel
    clear HI
    have x0 := X.d0
    have x1 := X.d1
    have zx := X.lt
    have HX := Lib.hid X
    clear X
    by_cases hlt : k < l.length
    · obtain ⟨b, off, rfl, hb, hcs⟩ := HS.out.at_ (by omega)
      obtain ⟨h1, h2⟩ := hcs k hlt
      have i1 := (T.cell (p := ⟨b, off + k * 2, none⟩) hb).trans h1
      have i2 := (T.cell (p := ⟨b, off + k * 2 + 1, none⟩) hb).trans h2
      have HPV : Hid (0 < k → wr.cell? ⟨b, off + (k - 1) * 2, none⟩ = some (.int .i64 (bth l (k - 1)).1)) := fun h => (T.cell (p := ⟨b, off + (k - 1) * 2, none⟩) hb).trans (hcs (k - 1) (by omega)).1
      have hbw : b < wr.heap.size := by have := T.size; omega
      have HN : Hid (okTo f l (k + 1) = okI f l k) := by show _ = _; rw [okTo_succ, HK.out, Bool.true_and]
      have HB : Hid (okI f l k = false → okTo f l l.length = false) := fun h => okTo_bad hlt h
      have HV := Lib.hid (okI_alt (f := f) (l := l) (k := k))
      obtain ⟨u1, u2⟩ := bth_U hU k
      have QB : Hid (∀ w, Calls Try.prog 14 #[.int .i64 f, .int .i64 (bth l k).1] w fun e w' => e = .returned (bdV (boundsF f (bth l k).1)) ∧ ∃ n, w' = w.drewN n) := fun w => rbounds_any f _ u1 w
      generalize bth l k = it at *
      generalize boundsF f it.1 = q at *
      have hi1 : (0 : Int) ≤ (k : Int) := by omega
      have hi2 : (k : Int) < (l.length : Int) := by omega
      clear hcs h1 h2
      cases c1 : q.2.2 with
      | false =>
        rw [bdV, c1] at QB
        have HR : Hid (okTo f l l.length = false) := HB.out (by rw [HV.out, c1]; simp)
        clear c1
        go_wp2_with fail
        go_quiet ((go_at_call 14; exact Calls.quiet_of (QB.out _)))
        go_wp2_with fail
        go_quiet (fail)
        go_wp2_with fail
        go_ret
        exact ⟨ret_bool (by simp [rightB, HR.out]), below_drew (below_drew T _) _⟩
      | true =>
        rw [bdV, c1] at QB
        by_cases c2 : it.2 = 0
        · have d2 : (it.2 == 0) = true := by simp [c2]
          have HR : Hid (okTo f l l.length = false) := HB.out (by rw [HV.out]; simp [c2])
          clear c2 c1
          go_wp2_with fail
          go_quiet ((go_at_call 14; exact Calls.quiet_of (QB.out _)))
          go_wp2_with fail
          go_quiet (fail)
          go_wp2_with fail
          go_ret
          exact ⟨ret_bool (by simp [rightB, HR.out]), below_drew (below_drew T _) _⟩
        · have d2 : (it.2 == 0) = false := by simp [c2]
          by_cases c3 : k = 0
          · have HR : Hid (okTo f l (k + 1) = true) := by show _ = _; rw [HN.out, HV.out, c1]; simp [c2, c3]
            have d3 : decide ((0 : Int) < (k : Int)) = false := by simp; omega
            have d3' : decide (0 < k) = false := by simp; omega
            have d3n : ¬ 0 < k := by omega
            clear c2 c1 c3
            go_wp2_with fail
            go_quiet ((go_at_call 14; exact Calls.quiet_of (QB.out _)))
            go_wp2_with fail
            go_quiet (fail)
            go_wp2_with fail
            go_roundw
            case rel => exact ⟨k + 1, by omega, by go_num, HR, HX.out.drewN _, below_drew T _⟩
            case measure => simp [RowKit.intOf]; omega
          · have j1 := HPV.out (by omega)
            have c3' : decide (k = 0) = false := by simp [c3]
            have k1 : (0 : Int) < (k : Int) := by omega
            have k2 : ((k : Int) - 1).toNat = k - 1 := by omega
            have k3 : (0 : Int) ≤ (k : Int) - 1 := by omega
            have k4 : (k : Int) - 1 < (l.length : Int) := by omega
            have k5 : IntKind.i64.wrap ((k : Int) - 1) = (k : Int) - 1 := IntWalk.i64_in _ (by omega)
            have k6 : wrap64 ((k : Int) - 1) = (k : Int) - 1 := IntWalk.wrap64_in _ (by omega)
            have k7 : 0 < k := by omega
            have k8 : (1 : Int) ≤ (k : Int) := by omega
            rw [c3', Bool.false_or] at HV
            generalize bth l (k - 1) = pv at *
            by_cases c4 : pv.1 < it.1
            · have d4 : decide (it.1 ≤ pv.1) = false := by simp; omega
              have HR : Hid (okTo f l (k + 1) = true) := by show _ = _; rw [HN.out, HV.out, c1]; simp [c2, c4]
              clear c2 c1 c3 c3'
              go_wp2_with fail
              go_quiet ((go_at_call 14; exact Calls.quiet_of (QB.out _)))
              go_wp2_with fail
              go_quiet (fail)
              go_wp2_with fail
              go_roundw
              case rel => exact ⟨k + 1, by omega, by go_num, HR, HX.out.drewN _, below_drew T _⟩
              case measure => simp [RowKit.intOf]; omega
            · have d4 : decide (it.1 ≤ pv.1) = true := by simp; omega
              have HR : Hid (okTo f l l.length = false) := HB.out (by rw [HV.out]; simp [c4])
              clear c2 c1 c3 c3'
              go_wp2_with fail
              go_quiet ((go_at_call 14; exact Calls.quiet_of (QB.out _)))
              go_wp2_with fail
              go_quiet (fail)
              go_wp2_with fail
              go_ret
              exact ⟨ret_bool (by simp [rightB, HR.out]), below_drew (below_drew T _) _⟩
    · obtain rfl : k = l.length := by omega
      by_cases h1 : 0 ≤ f
      · go_wp2_with fail
        go_ret
        exact ⟨ret_bool (by simp [rightB, HK.out, fineB, h1]), T⟩
      · go_wp2_with fail
        go_ret
        exact ⟨ret_bool (by simp [rightB, HK.out, fineB]; omega), T⟩
end Go.Proofs.Ytopddcabaiicgaa

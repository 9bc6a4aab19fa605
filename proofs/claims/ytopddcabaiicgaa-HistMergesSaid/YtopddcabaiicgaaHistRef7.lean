/-
  The document's own Rank and Total.
-/
import Derived.Test.YtopddcabaiicgaaHistRef4
import Derived.Test.YtopddcabaiicgaaHistRank
namespace Go.Proofs.Ytopddcabaiicgaa
open Go.RowKit
set_option linter.unusedVariables false
set_option linter.unusedSimpArgs false
/-- The sum of the first k bins that lie up to place b. -/
def rkTo (l : Bins) (b : Int) (k : Nat) : Int := satSum ((l.take k).filter fun x => decide (x.1 ≤ b)) 0
theorem rkTo_le {l : Bins} {b : Int} {k : Nat} (h : k < l.length) (hb : (bth l k).1 ≤ b) : rkTo l b (k + 1) = sat (rkTo l b k) (bth l k).2 := by
  unfold rkTo; rw [take_bth_succ h, List.filter_append, ← satSum_snoc]; simp [hb]
theorem rkTo_gt {l : Bins} {b : Int} {k : Nat} (h : k < l.length) (hb : ¬ (bth l k).1 ≤ b) : rkTo l b (k + 1) = rkTo l b k := by
  unfold rkTo; rw [take_bth_succ h, List.filter_append]; simp [hb]
theorem rkTo_U {l : Bins} (hU : UBs l) (b : Int) (k : Nat) : U (rkTo l b k) := satSum_U (fun x hx => hU.ub x (List.mem_of_mem_take (List.mem_filter.1 hx).1)) (by simp [U])
set_option maxRecDepth 100000 in
set_option maxHeartbeats 4000000 in
theorem rrank_any (f : Int) (A : Option Addr) (l : Bins) (cap : Nat) (v : Int) (hv : U v) (hU : UBs l) (hl : l.length ≤ 65536) (w : World) (hS : Sb w w.heap.size A l) :
    Calls Try.prog 34 #[.agg #[.int .i64 f, .slice A l.length cap], .int .u64 v] w fun e w' => e = .returned (.int .u64 (rankF f l v)) ∧ Below w.heap.size w w' := by
  have T : Below w.heap.size w (w.alloc (.cells #[.int .i64 f, .slice A l.length cap] 25)) := below_al (below_0 _) _
  have HI : Hid (RightI w f A l.length cap (w.alloc (.cells #[.int .i64 f, .slice A l.length cap] 25))) := ⟨Blk.new w _ _, T⟩
  have HS := Lib.hid hS
  obtain ⟨bb, hbb⟩ : ∃ b, bucketF f v = b := ⟨_, rfl⟩
  have HB := Lib.hid hbb
  clear hS T hbb
  go_enter Try.func34, Try.ntmps34
  go_wp2_with fail
  go_loopw [5, 6] (fun s i wr => ∃ k : Nat, k ≤ l.length ∧ i = .int .i64 k ∧ s = .int .u64 (rkTo l bb k) ∧ Hid (k = 0 ∨ rightB f l = true) ∧ RightI w f A l.length cap wr) (fun _ i _ => l.length - (RowKit.intOf i).toNat)
  case atStart => exact ⟨0, Nat.zero_le _, rfl, by simp [rkTo, satSum], .inl rfl, HI.out⟩
  case round =>
    obtain ⟨k, hk, rfl, rfl, HK, X, T⟩ := hrel
    clear HI
    have hsu := rkTo_U hU bb k
    have x0 := X.d0
    have x1 := X.d1
    have zx := X.lt
    have HX := Lib.hid X
    have HT := Lib.hid T
    clear X T
    by_cases hlt : k < l.length
    · have hi1 : (0 : Int) ≤ (k : Int) := by omega
      have hi2 : (k : Int) < (l.length : Int) := by omega
      go_wp2_with fail
      refine (rright_any f A l cap hU (by omega) _ (Sb.later HS.out HT.out)).mono ?_
      rintro e w1 ⟨rfl, hb1⟩
      replace HX := Lib.hid (HX.out.later hb1)
      replace HT := Lib.hid (Below.two HT.out hb1)
      clear hb1 x0 x1 zx
      cases hr : rightB f l with
      | false =>
        have HR : Hid (rankF f l v = rkTo l bb k) := by
          show _ = _
          rcases HK.out with h | h
          · subst h; simp [rankF, hr, rkTo, satSum]
          · rw [hr] at h; cases h
        clear hr
        go_wp2_with fail
        go_ret
        exact ⟨by rw [HR.out]; rfl, HT.out⟩
      | true =>
        have HR := Lib.hid hr
        have x0 := HX.out.d0
        have x1 := HX.out.d1
        have zx := HX.out.lt
        obtain ⟨b, off, rfl, hb, hcs⟩ := HS.out.at_ (by omega)
        obtain ⟨h1, h2⟩ := hcs k hlt
        have i1 := (HT.out.cell (p := ⟨b, off + k * 2, none⟩) hb).trans h1
        have i2 := (HT.out.cell (p := ⟨b, off + k * 2 + 1, none⟩) hb).trans h2
        have hbw : b < w1.heap.size := by have := HT.out.size; omega
        obtain ⟨u1, u2⟩ := bth_U hU k
        have QB : Hid (∀ w, Calls Try.prog 18 #[.int .i64 f, .int .u64 v] w fun e w' => e = .returned (.int .i64 bb) ∧ ∃ n, w' = w.drewN n) := fun w => by
          have h := rbucket_any f v hv w
          rw [HB.out] at h
          exact h.mono fun _ _ ⟨h1, h2⟩ => ⟨h1, 0, by rw [← h2]; rfl⟩
        by_cases c : (bth l k).1 ≤ bb
        · have HN := Lib.hid (rkTo_le hlt c)
          have dc : decide ((bth l k).1 ≤ bb) = true := by simp [c]
          clear hcs h1 h2 hr c
          generalize bth l k = it at *
          go_wp2_with fail
          go_quiet ((go_at_call 18; exact Calls.quiet_of (QB.out _)))
          go_wp2_with fail
          refine (plus_any (rkTo l bb k) it.2 hsu u2 _).mono ?_
          rintro e w2 ⟨rfl, rfl⟩
          go_wp2_with fail
          go_roundw
          case rel => exact ⟨k + 1, by omega, by go_num, by rw [HN.out], .inr HR.out, HX.out.drewN _, below_drew HT.out _⟩
          case measure => simp [RowKit.intOf]; omega
        · have HN := Lib.hid (rkTo_gt hlt c)
          have dc : decide ((bth l k).1 ≤ bb) = false := by simp; omega
          clear hcs h1 h2 hr c
          generalize bth l k = it at *
          go_wp2_with fail
          go_quiet ((go_at_call 18; exact Calls.quiet_of (QB.out _)))
          go_wp2_with fail
          go_roundw
          case rel => exact ⟨k + 1, by omega, by go_num, by rw [HN.out], .inr HR.out, HX.out.drewN _, below_drew HT.out _⟩
          case measure => simp [RowKit.intOf]; omega
    · obtain rfl : k = l.length := by omega
      have HR : Hid (rankF f l v = rkTo l bb l.length) := by
        show _ = _
        unfold rankF rkTo
        rw [List.take_of_length_le (Nat.le_refl _), HB.out]
        rcases HK.out with h | h
        · have : l = [] := List.eq_nil_of_length_eq_zero h
          subst this; simp [satSum]
        · rw [if_pos h]
      go_wp2_with fail
      go_ret
      exact ⟨by rw [HR.out]; rfl, HT.out⟩
end Go.Proofs.Ytopddcabaiicgaa

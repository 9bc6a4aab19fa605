/-
  The document's own Total and Select.
-/
import Derived.Test.YtopddcabaiicgaaHistRef7
import Derived.Test.YtopddcabaiicgaaHistSelect
import Derived.Test.YtopddcabaiicgaaHistLaws2
import Derived.Test.YtopddcabaiicgaaHistRef2
namespace Go.Proofs.Ytopddcabaiicgaa
open Go.RowKit
set_option linter.unusedVariables false
set_option linter.unusedSimpArgs false
theorem rtotal_any (f : Int) (A : Option Addr) (l : Bins) (cap : Nat) (hU : UBs l) (hl : l.length ≤ 65536) (w : World) (hS : Sb w w.heap.size A l) :
    Calls Try.prog 33 #[.agg #[.int .i64 f, .slice A l.length cap]] w fun e w' => e = .returned (.int .u64 (rankF f l 18446744073709551615)) ∧ Below w.heap.size w w' := by
  have T : Below w.heap.size w (w.alloc (.cells #[.int .i64 f, .slice A l.length cap] 25)) := below_al (below_0 _) _
  have X := Lib.hid (Blk.new w 25 #[.int .i64 f, .slice A l.length cap])
  have HS := Lib.hid (Sb.later hS T)
  have x0 := X.out.d0
  have x1 := X.out.d1
  clear hS
  have R : Hid (∀ w1, Sb w1 w1.heap.size A l → Calls Try.prog 34 #[.agg #[.int .i64 f, .slice A l.length cap], .int .u64 18446744073709551615] w1 fun e w' => e = .returned (.int .u64 (rankF f l 18446744073709551615)) ∧ Below w1.heap.size w1 w') := fun w1 h => rrank_any f A l cap _ (by simp [U]) hU hl w1 h
  obtain ⟨r, hr⟩ : ∃ r, rankF f l 18446744073709551615 = r := ⟨_, rfl⟩
  rw [hr] at R ⊢
  clear hr
  go_enter Try.func33, Try.ntmps33
  go_wp2_with fail
  refine (R.out _ HS.out).mono ?_
  rintro e w1 ⟨rfl, hb1⟩
  replace T := Below.two T hb1
  clear hb1
  go_wp2_with fail
  go_ret
  exact ⟨rfl, T⟩
def SeG (l : Bins) (place : Int) (k : Nat) : Prop := ∀ i, i < k → satSum (l.take (i + 1)) 0 ≤ place
set_option maxRecDepth 100000 in
set_option maxHeartbeats 4000000 in
theorem rselect_any (f : Int) (A : Option Addr) (l : Bins) (cap : Nat) (place : Int) (hU : UBs l) (hl : l.length ≤ 65536) (w : World) (hS : Sb w w.heap.size A l) :
    Calls Try.prog 32 #[.agg #[.int .i64 f, .slice A l.length cap], .int .u64 place] w fun e w' => e = .returned (bdV (selectF f l place)) ∧ Below w.heap.size w w' := by
  have T : Below w.heap.size w (w.alloc (.cells #[.int .i64 f, .slice A l.length cap] 25)) := below_al (below_0 _) _
  have HI : Hid (RightI w f A l.length cap (w.alloc (.cells #[.int .i64 f, .slice A l.length cap] 25))) := ⟨Blk.new w _ _, T⟩
  have HS := Lib.hid hS
  clear hS T
  go_enter Try.func32, Try.ntmps32
  go_wp2_with fail
  go_loopw [7, 8] (fun s i wr => ∃ k : Nat, k ≤ l.length ∧ i = .int .i64 k ∧ s = .int .u64 (satSum (l.take k) 0) ∧ Hid (k = 0 ∨ rightB f l = true) ∧ Hid (SeG l place k) ∧ RightI w f A l.length cap wr) (fun _ i _ => l.length - (RowKit.intOf i).toNat)
  case atStart => exact ⟨0, Nat.zero_le _, rfl, by simp [satSum], .inl rfl, (fun i h => by omega), HI.out⟩
  case round =>
    obtain ⟨k, hk, rfl, rfl, HK, HG, X, T⟩ := hrel
    clear HI
    have hsu : U (satSum (l.take k) 0) := satSum_U (fun x hx => hU.ub x (List.mem_of_mem_take hx)) (by simp [U])
    have x0 := X.d0
    have x1 := X.d1
    have zx := X.lt
    have HX := Lib.hid X
    have HT := Lib.hid T
    clear X T
    by_cases hlt : k < l.length
    · have hi1 : (0 : Int) ≤ (k : Int) := by omega
      have hi2 : (k : Int) < (l.length : Int) := by omega
      go_wp2_with fail
      refine (rright_any f A l cap hU (by omega) _ (Sb.later HS.out HT.out)).mono ?_
      rintro e w1 ⟨rfl, hb1⟩
      replace HX := Lib.hid (HX.out.later hb1)
      replace HT := Lib.hid (Below.two HT.out hb1)
      clear hb1 x0 x1 zx
      cases hr : rightB f l with
      | false =>
        have HR : Hid (bdV (selectF f l place) = bdV (0, 0, false)) := by
          show _ = _
          rw [selectF, hr]; simp
        clear hr
        go_wp2_with fail
        rw [HR.out]
        exact bodyPost_ret (v := bdV (0, 0, false)) (by simp [results, Try.results32, go_sem, bdV]) rfl ⟨rfl, HT.out⟩
      | true =>
        have HR := Lib.hid hr
        have x0 := HX.out.d0
        have x1 := HX.out.d1
        have zx := HX.out.lt
        obtain ⟨b, off, rfl, hb, hcs⟩ := HS.out.at_ (by omega)
        obtain ⟨h1, h2⟩ := hcs k hlt
        have i1 := (HT.out.cell (p := ⟨b, off + k * 2, none⟩) hb).trans h1
        have i2 := (HT.out.cell (p := ⟨b, off + k * 2 + 1, none⟩) hb).trans h2
        have hbw : b < w1.heap.size := by have := HT.out.size; omega
        obtain ⟨u1, u2⟩ := bth_U hU k
        have HN : Hid (satSum (l.take (k + 1)) 0 = sat (satSum (l.take k) 0) (bth l k).2) := by show _ = _; rw [take_bth_succ hlt, satSum_snoc]
        have QB : Hid (∀ w, Calls Try.prog 14 #[.int .i64 f, .int .i64 (bth l k).1] w fun e w' => e = .returned (bdV (boundsF f (bth l k).1)) ∧ ∃ n, w' = w.drewN n) := fun w => rbounds_any f _ u1 w
        have HSel : Hid (place < sat (satSum (l.take k) 0) (bth l k).2 → selectF f l place = boundsF f (bth l k).1) := fun h => by
          rw [selectF, if_pos hr, selG, selK_some hlt HG.out (by rw [HN.out]; exact h)]
        generalize bth l k = it at *
        generalize satSum (l.take k) 0 = s0 at *
        clear hcs h1 h2 hr
        go_wp2_with fail
        refine (plus_any s0 it.2 hsu u2 _).mono ?_
        rintro e w2 ⟨rfl, rfl⟩
        by_cases c : place < sat s0 it.2
        · have dc : decide (place < sat s0 it.2) = true := by simp [c]
          have HQ := Lib.hid (HSel.out c)
          clear c HSel
          generalize boundsF f it.1 = q at *
          rw [bdV] at QB
          go_wp2_with fail
          go_quiet ((go_at_call 14; exact Calls.quiet_of (QB.out _)))
          go_wp2_with fail
          rw [HQ.out]
          exact bodyPost_ret (v := bdV q) (by simp [results, Try.results32, go_sem, bdV]) rfl ⟨rfl, below_drew HT.out _⟩
        · have dc : decide (place < sat s0 it.2) = false := by simp; omega
          have HG2 : Hid (SeG l place (k + 1)) := fun i h => by
            by_cases e : i = k
            · subst e; rw [HN.out]; omega
            · exact HG.out i (by omega)
          clear c HSel
          go_wp2_with fail
          go_roundw
          case rel => exact ⟨k + 1, by omega, by go_num, by rw [HN.out], .inr HR.out, HG2, HX.out, HT.out⟩
          case measure => simp [RowKit.intOf]; omega
    · obtain rfl : k = l.length := by omega
      have HR : Hid (bdV (selectF f l place) = bdV (0, 0, false)) := by
        show _ = _
        rw [selectF, selG, selK_none HG.out]; simp
      go_wp2_with fail
      rw [HR.out]
      exact bodyPost_ret (v := bdV (0, 0, false)) (by simp [results, Try.results32, go_sem, bdV]) rfl ⟨rfl, HT.out⟩
/-- Of all values there are as many as the total. -/
theorem rank_top {f : Int} {l : Bins} (hU : UBs l) : rankF f l 18446744073709551615 = totalF f l := by
  unfold rankF totalF
  cases h : rightB f l with
  | false => simp
  | true =>
    have R := rt_of h
    rw [if_pos rfl, if_pos rfl, List.filter_eq_self.2]
    intro x hx
    have := has_le (R.has x hx)
    simpa using this
end Go.Proofs.Ytopddcabaiicgaa

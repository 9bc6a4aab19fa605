/-
  The walk of hist.Same.
-/
import Derived.Test.YtopddcabaiicgaaHistEq
namespace Go.Proofs.Ytopddcabaiicgaa
open Go.RowKit
set_option linter.unusedVariables false
set_option linter.unusedSimpArgs false
def sameH (f : Int) (l : Bins) (g : Int) (m : Bins) : Bool := decide (f = g ∧ l = m)
theorem bins_eq_take {l m : Bins} (h : l.length = m.length) (k : Nat) (hk : k = l.length) (he : l.take k = m.take k) : l = m := by
  subst hk
  rwa [List.take_of_length_le (Nat.le_refl _), List.take_of_length_le (by omega)] at he
theorem take_eq_succ {l m : Bins} {k : Nat} (h1 : k < l.length) (h2 : k < m.length) (he : l.take k = m.take k) (hb : bth l k = bth m k) : l.take (k + 1) = m.take (k + 1) := by
  rw [take_bth_succ h1, take_bth_succ h2, he, hb]
def SmI (w : World) (f g : Int) (A C : Option Addr) (n m cap capy : Nat) (wr : World) : Prop :=
  Blk wr w.heap.size 25 #[.int .i64 f, .slice A n cap] ∧ Blk wr (w.heap.size + 1) 25 #[.int .i64 g, .slice C m capy] ∧ Below w.heap.size w wr
set_option maxRecDepth 100000 in
set_option maxHeartbeats 2000000 in
theorem same_any (f g : Int) (A C : Option Addr) (l m : Bins) (cap capy : Nat) (hl : l.length ≤ 65536) (hm : m.length ≤ 65536) (w : World) (hS : Sb w w.heap.size A l) (hT : Sb w w.heap.size C m) :
    Calls Try.prog 24 #[.agg #[.int .i64 f, .slice A l.length cap], .agg #[.int .i64 g, .slice C m.length capy]] w fun e w' => e = .returned (.bool (sameH f l g m)) ∧ Below w.heap.size w w' := by
  have T : Below w.heap.size w ((w.alloc (.cells #[.int .i64 f, .slice A l.length cap] 25)).alloc (.cells #[.int .i64 g, .slice C m.length capy] 25)) := below_al (below_al (below_0 _) _) _
  have X := Lib.hid ((Blk.new w 25 #[.int .i64 f, .slice A l.length cap]).alloc (.cells #[.int .i64 g, .slice C m.length capy] 25))
  have Y := Lib.hid (Blk.new2 w (.cells #[.int .i64 f, .slice A l.length cap] 25) 25 #[.int .i64 g, .slice C m.length capy])
  have HS := Lib.hid hS
  have HT := Lib.hid hT
  clear hS hT
  by_cases c1 : f = g
  · subst c1
    by_cases c2 : l.length = m.length
    · have dl : ((l.length : Int) != (m.length : Int)) = false := by simp; omega
      have HL := Lib.hid c2
      have HI : Hid (SmI w f f A C l.length m.length cap capy ((w.alloc (.cells #[.int .i64 f, .slice A l.length cap] 25)).alloc (.cells #[.int .i64 f, .slice C m.length capy] 25))) := ⟨X.out, Y.out, T⟩
      clear c2 X Y T
      go_enter Try.func24, Try.ntmps24
      go_wp2_with fail
      go_loopw [24] (fun i wr => ∃ k : Nat, k ≤ l.length ∧ i = .int .i64 k ∧ Hid (l.take k = m.take k) ∧ SmI w f f A C l.length m.length cap capy wr) (fun i _ => l.length - (RowKit.intOf i).toNat)
      case atStart => exact ⟨0, Nat.zero_le _, rfl, rfl, HI.out⟩
      case round =>
        obtain ⟨k, hk, rfl, HE, X, Y, T⟩ := hrel
        clear HI
        have x0 := X.d0
        have x1 := X.d1
        have zx := X.lt
        have y1 := Y.d1
        have zy := Y.lt
        have HX := Lib.hid X
        have HY := Lib.hid Y
        clear X Y
        by_cases hlt : k < l.length
        · have hlt2 : k < m.length := by have := HL.out; omega
          obtain ⟨b, off, rfl, hb, hcs⟩ := HS.out.at_ (by omega)
          obtain ⟨b2, off2, rfl, hb2, hcs2⟩ := HT.out.at_ (by omega)
          obtain ⟨h1, h2⟩ := hcs k hlt
          obtain ⟨h3, h4⟩ := hcs2 k hlt2
          have i1 := (T.cell (p := ⟨b, off + k * 2, none⟩) hb).trans h1
          have i2 := (T.cell (p := ⟨b, off + k * 2 + 1, none⟩) hb).trans h2
          have i3 := (T.cell (p := ⟨b2, off2 + k * 2, none⟩) hb2).trans h3
          have i4 := (T.cell (p := ⟨b2, off2 + k * 2 + 1, none⟩) hb2).trans h4
          have hbw : b < wr.heap.size := by have := T.size; omega
          have hbw2 : b2 < wr.heap.size := by have := T.size; omega
          have HN : Hid (bth l k = bth m k → l.take (k + 1) = m.take (k + 1)) := fun h => take_eq_succ hlt hlt2 HE.out h
          have HD : Hid (bth l k ≠ bth m k → l ≠ m) := fun h e => h (by rw [e])
          generalize bth l k = p at *
          generalize bth m k = q at *
          have hi1 : (0 : Int) ≤ (k : Int) := by omega
          have hi2 : (k : Int) < (l.length : Int) := by omega
          have hi3 : (k : Int) < (m.length : Int) := by omega
          clear hcs hcs2 h1 h2 h3 h4
          have gb := guard_bin
          by_cases c : p = q
          · have nb := neq_bin p q false (by simp [c])
            have HE2 := Lib.hid (HN.out c)
            clear c
            go_wp2_with fail
            go_quiet (fail)
            go_wp2_with fail
            go_roundw
            case rel => exact ⟨k + 1, by omega, by go_num, HE2, (HX.out.alloc _).drewN _, (HY.out.alloc _).drewN _, below_drew (below_al T _) _⟩
            case measure => simp [RowKit.intOf]; omega
          · have nb := neq_bin p q true (by simp [c])
            have HE2 := Lib.hid (HD.out c)
            clear c
            go_wp2_with fail
            go_quiet (fail)
            go_wp2_with fail
            go_ret
            exact ⟨ret_bool (by simp [sameH, HE2.out]), below_drew (below_al T _) _⟩
        · obtain rfl : k = l.length := by omega
          have HR : Hid (l = m) := bins_eq_take HL.out _ rfl HE.out
          go_wp2_with fail
          go_ret
          exact ⟨ret_bool (by simp [sameH, HR.out]), T⟩
    · have dl : ((l.length : Int) != (m.length : Int)) = true := by simp; omega
      go_enter Try.func24, Try.ntmps24
      go_wp2_with fail
      go_ret
      exact ⟨ret_bool (by simp [sameH]; intro e; exact c2 (by rw [e])), T⟩
  · have d1 : (f != g) = true := by simp [c1]
    go_enter Try.func24, Try.ntmps24
    go_wp2_with fail
    go_ret
    exact ⟨ret_bool (by simp [sameH, c1]), T⟩
end Go.Proofs.Ytopddcabaiicgaa

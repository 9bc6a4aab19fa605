/-
  The iterators of package cms: the places that a number tells; all places.
-/
import Derived.RangeFuncNested
import Derived.RangeFuncBound
import Derived.RangeFuncCalls
import Derived.RangeFuncLeaves
import Derived.RangeFuncBox
import Derived.Shelf.Abstract
import Derived.Shelf.RegionOpen
import Derived.OwnWalkIn
import Derived.TacticsInMore
import Derived.LoopNIn
import Derived.LoopIn
import Derived.BigRegionIn
import Derived.IntWalk
import Derived.Test.YthjdonhabenmcaaCmsWalk3
namespace Go.Proofs.Ythjdonhabenmcaa
open Go.RowKit Go.Shelf
set_option linter.unusedVariables false
attribute [local go_sem] Oper.semAt_some

/-- A place below N. -/
abbrev At (N : Nat) := { p : Nat // p < N }
theorem exists_at {N : Nat} : ∀ (ps : List Nat), (∀ p ∈ ps, p < N) → ∃ zs : List (At N), zs.map (·.1) = ps
  | [], _ => ⟨[], rfl⟩
  | p :: ps, h => by
    obtain ⟨zs, hz⟩ := exists_at ps (fun q hq => h q (List.mem_cons_of_mem _ hq))
    exact ⟨⟨p, h p (List.mem_cons_self ..)⟩ :: zs, by simp [hz]⟩
/-- What lay below n₀, but for block g, lies as it lay. -/
def KeepBut (n₀ g : Nat) (A B : World) : Prop := A.heap.size ≤ B.heap.size ∧ ∀ i, i < n₀ → i ≠ g → B.heap[i]? = A.heap[i]?
theorem keepBut_refl (n₀ g : Nat) (A : World) : KeepBut n₀ g A A := ⟨Nat.le_refl _, fun _ _ _ => rfl⟩
theorem keepBut_t {n₀ g : Nat} {A B C : World} (h : KeepBut n₀ g A B) (k : KeepBut n₀ g B C) : KeepBut n₀ g A C := ⟨Nat.le_trans h.1 k.1, fun i h1 h2 => (k.2 i h1 h2).trans (h.2 i h1 h2)⟩
theorem keepBut_b {n₀ g : Nat} {w : World} (hn : n₀ ≤ w.heap.size) (W : World) (l : Nat) (o o' : Obj) (hl : w.heap.size ≤ l) (h : W.heap[l]? = some o) (_ : o.isCells = false) (_ : o.isWalk = false) : KeepBut n₀ g W (W.putObj l o') := by
  have h1 := belowK_b hn W l o o' hl h ‹_› ‹_›
  exact ⟨h1.size, fun i hi _ => h1.block i hi⟩
theorem keepBut_below {n₀ g : Nat} {A B : World} (hn : n₀ ≤ A.heap.size) (h : Below A.heap.size A B) : KeepBut n₀ g A B := ⟨h.size, fun i hi _ => h.block i (by omega)⟩
theorem keepBut_grow {n₀ g : Nat} {A B : World} (hn : n₀ ≤ A.heap.size) (h : A.grownBy B (some g)) : KeepBut n₀ g A B := ⟨h.size, fun i hi hne => h.block i (by omega) (fun e => hne (by injection e))⟩
theorem Blk.but {n₀ g b : Nat} {t : TypeId} {cs : Array Value} {A B : World} (h : Blk A b t cs) (hk : KeepBut n₀ g A B) (hb : b < n₀) (hg : b ≠ g) : Blk B b t cs := (hk.2 b hb hg).trans h
theorem abides_below {β : Type} {n : Nat} {J : β → World → Prop} (h : AbidesFrom n J) {s : β} {W W' : World} (hs : J s W) (hb : Below W.heap.size W W') : J s W' :=
  h s W W' none hs ⟨hb.os, hb.tape, hb.output, hb.size, fun i hi _ => hb.block i hi⟩ (fun r e => by cases e)

theorem col_b (r : Int) (C : Nat) (A : Option Addr) (n cap k : Nat) (h : Int) (hh : U h) (hk : k ≤ 4) (hC : 1 ≤ C) (hC2 : C ≤ 32) (w : World) :
    Calls Try.prog 40 #[.agg #[.int .i64 r, .int .i64 C, .slice A n cap], .int .i64 k, .int .u64 h] w fun e w' => e = .returned (.int .i64 (colF C k h)) ∧ Below w.heap.size w w' :=
  (col_any r C A n cap k h hh hk hC hC2 w).mono fun _ _ ⟨he, hw⟩ => ⟨he, by rw [← hw]; exact below_al (below_0 _) _⟩
theorem yield_case {A B : World → Prop} : ∀ (e : Ending) (W' : World), (e = .returned (.bool true) ∧ A W' ∨ e = .returned (.bool false) ∧ B W') → ∃ b, e = .returned (.bool b) ∧ (bif b then A W' else B W')
  | _, _, .inl ⟨rfl, h⟩ => ⟨true, rfl, h⟩
  | _, _, .inr ⟨rfl, h⟩ => ⟨false, rfl, h⟩
theorem told_any (r c : Int) (A : Option Addr) (n cap : Nat) (h : Int) (w : World) :
    Calls Try.prog 35 #[.agg #[.int .i64 r, .int .i64 c, .slice A n cap], .int .u64 h] w fun e w' => e = .returned (.func (.func 45) #[] #[.pointer (some ⟨w.heap.size, 0, none⟩), .pointer (some ⟨w.heap.size + 1, 0, none⟩)]) ∧
      (w.alloc (.cells #[.int .i64 r, .int .i64 c, .slice A n cap] 48)).alloc (.cells #[.int .u64 h] 25) = w' := by
  go_enter Try.func35, Try.ntmps35
  go_wp2
  go_ret
  exact ⟨rfl, rfl⟩
theorem all_any (r c : Int) (A : Option Addr) (n cap : Nat) (w : World) :
    Calls Try.prog 41 #[.agg #[.int .i64 r, .int .i64 c, .slice A n cap]] w fun e w' => e = .returned (.func (.func 46) #[] #[.pointer (some ⟨w.heap.size, 0, none⟩)]) ∧
      w.alloc (.cells #[.int .i64 r, .int .i64 c, .slice A n cap] 48) = w' := by
  go_enter Try.func41, Try.ntmps41
  go_wp2
  go_ret
  exact ⟨rfl, rfl⟩

set_option maxRecDepth 100000 in
set_option maxHeartbeats 2000000 in
/-- The closure of all: it hands all places on, while the body says 'more'. -/
theorem all1_in (n : Nat) (hn : 1 ≤ n) (l Bw n₀ g N cap : Nat) (r c : Int) (A : Option Addr) (zs : List (At N)) (hzs : zs.map (·.1) = List.range N) (hN : N ≤ 65536) (hBw : Bw < n₀) (hg : Bw ≠ g) (J Jx : List (At N) → World → Prop)
    (hY : ∀ pre x W, J pre W → pre.length < N → YieldAt Fence.wide (n - 1) Try.prog l #[.int .i64 (x.1 : Int)] W fun e W' =>
      (e = .returned (.bool true) ∧ J (pre ++ [x]) W' ∧ KeepBut n₀ g W W') ∨ (e = .returned (.bool false) ∧ Jx (pre ++ [x]) W'))
    (W : World) (hB : Blk W Bw 48 #[.int .i64 r, .int .i64 c, .slice A N cap]) (h0 : J [] W) :
    CallsIn Fence.wide n Try.prog 46 #[.func (.yield l) #[] #[], .pointer (some ⟨Bw, 0, none⟩)] W fun e W' => (∃ v, e = .returned v) ∧
      ((∃ ys, ys = zs ∧ J ys W') ∨ (∃ pre, pre <+: zs ∧ Jx pre W')) := by
  have hlen : zs.length = N := by have := congrArg List.length hzs; simpa using this
  have HZ := Lib.hid hzs
  have HL := Lib.hid hlen
  clear hzs hlen
  have hc := hB.c2
  refine callsIn_of_wp Try.func46 rfl trivial ?_ rfl
  simp only [Try.ntmps46, List.size_toArray, List.length_cons, List.length_nil, Nat.reduceAdd, Nat.reduceSub, Array.replicate_succ, Array.replicate_zero, List.push_toArray, List.append_toArray, List.nil_append, List.cons_append]
  gi_wp2
  gi_loopw [8] (fun i wr => ∃ k : Nat, k ≤ N ∧ i = .int .i64 k ∧ J (zs.take k) wr ∧ KeepBut n₀ g W wr)
    (fun i _ => N - (intOf i).toNat)
  case atStart => exact ⟨0, Nat.zero_le _, rfl, h0, keepBut_refl _ _ _⟩
  case round =>
    obtain ⟨k, hk, rfl, hJs, hnx⟩ := hrel
    by_cases hlt : k < N
    · have hlt' : k < zs.length := by rw [HL.out]; exact hlt
      have hx : (zs[k]).1 = k := by
        have := congrArg (·[k]?) HZ.out
        simp [hlt', hlt] at this
        exact this
      have ht : zs.take (k + 1) = zs.take k ++ [zs[k]] := List.take_succ_eq_append_getElem hlt'
      obtain ⟨fn, tmps, assign, body, hy, hR⟩ := hY _ (zs[k]) wr hJs (by simp; omega)
      rw [hx] at hy
      have HT := Lib.hid ht
      clear hx ht hc
      gi_wp2
      refine hR.mono ?_
      rintro e W3 (⟨rfl, hJ3, hk3⟩ | ⟨rfl, hJx3⟩)
      · gi_wp2
        go_roundw
        case rel => exact ⟨k + 1, by omega, by simp, by rw [HT.out]; exact hJ3, keepBut_t hnx hk3⟩
        case measure => simp [intOf]; omega
      · gi_wp2
        refine bodyPost_ret (results_none rfl _ _ _) rfl ?_
        refine ⟨⟨_, rfl⟩, .inr ⟨_, ?_, hJx3⟩⟩
        rw [← HT.out]; exact List.take_prefix _ _
    · obtain rfl : k = N := by omega
      gi_wp2
      go_end0
      exact ⟨⟨_, rfl⟩, .inl ⟨_, List.take_of_length_le (by rw [HL.out]; exact Nat.le_refl _), hJs⟩⟩
theorem all_stops (n : Nat) (hn : 1 ≤ n) (Bw n₀ g N cap : Nat) (r c : Int) (A : Option Addr) (zs : List (At N)) (hzs : zs.map (·.1) = List.range N) (hN : N ≤ 65536) (hBw : Bw < n₀) (hg : Bw ≠ g) (w : World)
    (hB : Blk w Bw 48 #[.int .i64 r, .int .i64 c, .slice A N cap]) :
    SeqStopsK Fence.wide n Try.prog 46 #[.pointer (some ⟨Bw, 0, none⟩)] (fun x : At N => #[Value.int .i64 (x.1 : Int)]) (KeepBut n₀ g) (fun ys => ys = zs) (fun pre => pre <+: zs) N w := fun l J Jx W hW _ _ hY h0 =>
  all1_in n hn l Bw n₀ g N cap r c A zs hzs hN hBw hg J Jx hY W (hB.later hW) h0

set_option maxRecDepth 100000 in
set_option maxHeartbeats 2000000 in
/-- The closure of told: it hands the places on that h tells, row by row, while the body says 'more'. -/
theorem told1_in (n : Nat) (hn : 1 ≤ n) (l Bw Bh n₀ g R C nn cap M : Nat) (A : Option Addr) (h : Int) (hh : U h) (hR4 : R ≤ 4) (hC1 : 1 ≤ C) (hC2 : C ≤ 32) (zs : List (At M)) (hzs : zs.map (·.1) = places R C h) (hBw : Bw < n₀) (hg : Bw ≠ g) (hBh : Bh < n₀) (hgh : Bh ≠ g) (J Jx : List (At M) → World → Prop)
    (W : World) (hn0 : n₀ ≤ W.heap.size) (hJ : AbidesFrom W.heap.size J)
    (hY : ∀ pre x W, J pre W → pre.length < R → YieldAt Fence.wide (n - 1) Try.prog l #[.int .i64 (x.1 : Int)] W fun e W' =>
      (e = .returned (.bool true) ∧ J (pre ++ [x]) W' ∧ KeepBut n₀ g W W') ∨ (e = .returned (.bool false) ∧ Jx (pre ++ [x]) W'))
    (hB : Blk W Bw 48 #[.int .i64 R, .int .i64 C, .slice A nn cap]) (hB2 : Blk W Bh 25 #[.int .u64 h]) (h0 : J [] W) :
    CallsIn Fence.wide n Try.prog 45 #[.func (.yield l) #[] #[], .pointer (some ⟨Bw, 0, none⟩), .pointer (some ⟨Bh, 0, none⟩)] W fun e W' => (∃ v, e = .returned v) ∧
      ((∃ ys, ys = zs ∧ J ys W') ∨ (∃ pre, pre <+: zs ∧ Jx pre W')) := by
  have hlen : zs.length = R := by have := congrArg List.length hzs; simpa [length_places] using this
  have HZ := Lib.hid hzs
  have HL := Lib.hid hlen
  clear hzs hlen
  have hc := hB.c0
  refine callsIn_of_wp Try.func45 rfl trivial ?_ rfl
  simp only [Try.ntmps45, List.size_toArray, List.length_cons, List.length_nil, Nat.reduceAdd, Nat.reduceSub, Array.replicate_succ, Array.replicate_zero, List.push_toArray, List.append_toArray, List.nil_append, List.cons_append]
  gi_wp2
  gi_loopw [8] (fun i wr => ∃ k : Nat, k ≤ R ∧ i = .int .i64 k ∧ J (zs.take k) wr ∧ KeepBut n₀ g W wr)
    (fun i _ => R - (intOf i).toNat)
  case atStart => exact ⟨0, Nat.zero_le _, rfl, h0, keepBut_refl _ _ _⟩
  case round =>
    obtain ⟨k, hk, rfl, hJs, hnx⟩ := hrel
    by_cases hlt : k < R
    · have hlt' : k < zs.length := by rw [HL.out]; exact hlt
      have hx : (zs[k]).1 = place C h k := by
        have := congrArg (·[k]?) HZ.out
        simp [hlt', hlt, places] at this
        exact this
      have ht : zs.take (k + 1) = zs.take k ++ [zs[k]] := List.take_succ_eq_append_getElem hlt'
      have HT := Lib.hid ht
      have HX : (((zs[k]).1 : Nat) : Int) = ((place C h k : Nat) : Int) := by rw [hx]
      have B1 := hB.but hnx hBw hg
      have B2 := hB2.but hnx hBh hgh
      have c0 := B1.c0
      have c1 := B1.c1
      have c2 := B1.c2
      have d0 := B2.one
      have z1 := B1.lt
      have z2 := B2.lt
      clear hx ht hc
      have hkc : k * C ≤ 128 := Nat.le_trans (Nat.mul_le_mul (show k ≤ 4 by omega) hC2) (by omega)
      have m1 : 0 ≤ (k : Int) * (C : Int) := by rw [← Int.natCast_mul]; omega
      have m2 : (k : Int) * (C : Int) ≤ 128 := by rw [← Int.natCast_mul]; omega
      obtain ⟨m3, m4⟩ := colF_bd (c := C) (by omega) k h
      have hpl : ((place C h k : Nat) : Int) = (k : Int) * (C : Int) + colF C k h := by unfold place; rw [Int.natCast_add, Int.natCast_mul]; omega
      rw [hpl] at HX
      have w1 : IntKind.i64.wrap ((k : Int) * (C : Int)) = (k : Int) * (C : Int) := IntWalk.i64_in _ (by omega)
      have w2 : IntKind.i64.wrap ((k : Int) * (C : Int) + colF C k h) = (k : Int) * (C : Int) + colF C k h := IntWalk.i64_in _ (by omega)
      clear hpl
      gi_wp2
      gi_region_with (first
        | (refine ⟨trivial, ?_⟩
           refine (callsIn_wide.2 (col_b _ C A nn cap k h hh (by omega) hC1 hC2 _)).mono ?_
           rintro e W2 ⟨rfl, hb2⟩
           have hb3 : Below wr.heap.size wr W2 := Below.two (below_0 wr).drew hb2
           have hJ1 := abides_below hJ hJs hb3
           obtain ⟨fn, tmps, assign, body, hy, hR⟩ := hY _ (zs[k]) W2 hJ1 (by simp; omega)
           rw [HX] at hy
           have c1' := (B1.later hb3).c1)
        | (refine (hR.mono yield_case).mono ?_
           rintro e W3 ⟨b, rfl, hcase⟩))
      all_goals clear hy hR c1' w1 w2 HX
      all_goals cases b
      all_goals gi_wp2
      all_goals first
        | (refine bodyPost_ret (results_none rfl _ _ _) rfl ?_
           refine ⟨⟨_, rfl⟩, .inr ⟨_, ?_, hcase⟩⟩
           rw [← HT.out]; exact List.take_prefix _ _)
        | (go_roundw
           case rel => exact ⟨k + 1, by omega, by simp, by rw [HT.out]; exact hcase.1, keepBut_t hnx (keepBut_t (keepBut_below (by have := hnx.1; omega) hb3) hcase.2)⟩
           case measure => simp [intOf]; omega)
    · obtain rfl : k = R := by omega
      gi_wp2
      go_end0
      exact ⟨⟨_, rfl⟩, .inl ⟨_, List.take_of_length_le (by rw [HL.out]; exact Nat.le_refl _), hJs⟩⟩
theorem told_stops (n : Nat) (hn : 1 ≤ n) (Bw Bh n₀ g R C nn cap M : Nat) (A : Option Addr) (h : Int) (hh : U h) (hR4 : R ≤ 4) (hC1 : 1 ≤ C) (hC2 : C ≤ 32) (zs : List (At M)) (hzs : zs.map (·.1) = places R C h) (hBw : Bw < n₀) (hg : Bw ≠ g) (hBh : Bh < n₀) (hgh : Bh ≠ g) (w : World) (hn0 : n₀ ≤ w.heap.size)
    (hB : Blk w Bw 48 #[.int .i64 R, .int .i64 C, .slice A nn cap]) (hB2 : Blk w Bh 25 #[.int .u64 h]) :
    SeqStopsK Fence.wide n Try.prog 45 #[.pointer (some ⟨Bw, 0, none⟩), .pointer (some ⟨Bh, 0, none⟩)] (fun x : At M => #[Value.int .i64 (x.1 : Int)]) (KeepBut n₀ g) (fun ys => ys = zs) (fun pre => pre <+: zs) R w := fun l J Jx W hW hJ _ hY h0 =>
  told1_in n hn l Bw Bh n₀ g R C nn cap M A h hh hR4 hC1 hC2 zs hzs hBw hg hBh hgh J Jx W (by have := hW.size; omega) hJ hY (hB.later hW) (hB2.later hW) h0
end Go.Proofs.Ythjdonhabenmcaa

/-
  The iterator sums: bins, and how many values are in them up to each, where the body of the loop may write one block.
-/
import Derived.Shelf.Abstract
import Derived.Shelf.RegionOpen
import Derived.OwnWalkIn
import Derived.TacticsInMore
import Derived.LoopNIn
import Derived.LoopIn
import Derived.Test.YtopddcabaiicgaaHistAdd
import Derived.Test.YtopddcabaiicgaaKeep
namespace Go.Proofs.Ytopddcabaiicgaa
open Go.RowKit Go.Shelf
set_option linter.unusedVariables false
attribute [local go_sem] Oper.semAt_some
theorem sums_any (A : Option Addr) (n cap : Nat) (w : World) :
    Calls Try.prog 44 #[.slice A n cap] w fun e w' => e = .returned (.func (.func 48) #[] #[.pointer (some ⟨w.heap.size, 0, none⟩)]) ∧ w.alloc (.cells #[.slice A n cap] 23) = w' := by
  go_enter Try.func44, Try.ntmps44
  go_wp2
  go_ret
  exact ⟨rfl, rfl⟩
/-- What the iterator tells at a place. -/
abbrev sumV (l : Bins) (k : Nat) : Array Value := #[.agg #[.int .i64 (bth l k).1, .int .u64 (bth l k).2], .int .u64 (satSum (l.take (k + 1)) 0)]
set_option maxRecDepth 100000 in
set_option maxHeartbeats 4000000 in
theorem sums1_in (n : Nat) (hn : 1 ≤ n) (ll Bs n₀ g cap b off : Nat) (l : Bins) (hU : UBs l) (zs : List (At l.length)) (hzs : zs.map (·.1) = List.range l.length) (hreach : l.length ≤ 65536) (hBs : Bs < n₀) (hg : Bs ≠ g) (hb : b < n₀) (hbg : b ≠ g) (J Jx : List (At l.length) → World → Prop) (W : World) (hn0 : n₀ ≤ W.heap.size) {nJ : Nat} (hJ : AbidesFrom nJ J)
    (hY : ∀ pre x W, J pre W → pre.length < l.length → YieldAt Fence.wide (n - 1) Try.prog ll (sumV l x.1) W fun e W' =>
      (e = .returned (.bool true) ∧ J (pre ++ [x]) W' ∧ KeepBut n₀ g W W') ∨ (e = .returned (.bool false) ∧ Jx (pre ++ [x]) W'))
    (hB : Blk W Bs 23 #[.slice (some ⟨b, off, none⟩) l.length cap]) (hc : ∀ j, j < l.length → W.cell? ⟨b, off + j * 2, none⟩ = some (.int .i64 (bth l j).1) ∧ W.cell? ⟨b, off + j * 2 + 1, none⟩ = some (.int .u64 (bth l j).2)) (h0 : J [] W) :
    CallsIn Fence.wide n Try.prog 48 #[.func (.yield ll) #[] #[], .pointer (some ⟨Bs, 0, none⟩)] W fun e W' => (∃ v, e = .returned v) ∧
      ((∃ ys, ys = zs ∧ J ys W') ∨ (∃ pre, pre <+: zs ∧ Jx pre W')) := by
  have hlen : zs.length = l.length := by rw [← List.length_map (f := (·.1)), hzs, List.length_range]
  have HL := Lib.hid hlen
  have HZ := Lib.hid hzs
  have HC := Lib.hid hc
  have HB := Lib.hid hB
  have hcb := hB.one
  clear hzs hlen hc hB
  refine callsIn_of_wp Try.func48 rfl trivial ?_ rfl
  simp only [Try.ntmps48, List.size_toArray, List.length_cons, List.length_nil, Nat.reduceAdd, Nat.reduceSub, Array.replicate_succ, Array.replicate_zero, List.push_toArray, List.append_toArray, List.nil_append, List.cons_append]
  gi_wp2
  clear hcb
  gi_loopw [3, 8] (fun s i wr => ∃ k : Nat, k ≤ l.length ∧ i = .int .i64 k ∧ s = .int .u64 (satSum (l.take k) 0) ∧ J (zs.take k) wr ∧ KeepBut n₀ g W wr)
    (fun _ i _ => l.length - (RowKit.intOf i).toNat)
  case atStart => exact ⟨0, Nat.zero_le _, rfl, rfl, h0, keepBut_refl _ _ _⟩
  case round =>
    obtain ⟨k, hk, rfl, rfl, hJs, hnx⟩ := hrel
    by_cases hlt : k < l.length
    · have hlt' : k < zs.length := by rw [HL.out]; exact hlt
      obtain ⟨h1, h2⟩ := HC.out k hlt
      have i1 : wr.cell? ⟨b, off + k * 2, none⟩ = _ := (World.cell?_of_block (hnx.2 b hb hbg)).trans h1
      have i2 : wr.cell? ⟨b, off + k * 2 + 1, none⟩ = _ := (World.cell?_of_block (hnx.2 b hb hbg)).trans h2
      have hx : (zs[k]).1 = k := by
        have := congrArg (fun t => t[k]?) HZ.out
        simp [hlt', hlt] at this
        exact this
      have ht : zs.take (k + 1) = zs.take k ++ [zs[k]] := List.take_succ_eq_append_getElem hlt'
      have HT := Lib.hid ht
      have us : U (satSum (l.take k) 0) := satSum_U (hU.take k).ub (by simp [U])
      obtain ⟨u1, u2⟩ := bth_U hU k
      have HSS : Hid (satSum (l.take (k + 1)) 0 = sat (satSum (l.take k) 0) (bth l k).2) := by show _ = _; rw [take_bth_succ hlt, satSum_snoc]
      have HY : Hid (∀ W, J (zs.take k) W → YieldAt Fence.wide (n - 1) Try.prog ll #[.agg #[.int .i64 (bth l k).1, .int .u64 (bth l k).2], .int .u64 (sat (satSum (l.take k) 0) (bth l k).2)] W fun e W' =>
        (e = .returned (.bool true) ∧ J (zs.take (k + 1)) W' ∧ KeepBut n₀ g W W') ∨ (e = .returned (.bool false) ∧ Jx (zs.take (k + 1)) W')) := fun W hW => by
        have := hY (zs.take k) (zs[k]) W hW (by simp; omega)
        rw [hx, sumV, HSS.out, ← HT.out] at this
        exact this
      have hbw : b < wr.heap.size := by have := hnx.1; omega
      generalize bth l k = it at *
      generalize satSum (l.take k) 0 = s at *
      have hi1 : (0 : Int) ≤ (k : Int) := by omega
      have hi2 : (k : Int) < (l.length : Int) := by omega
      clear h1 h2 hx ht HT hlt'
      gi_wp2_with fail
      have N := Lib.hid ((Blk.new wr 71 #[.int .i64 it.1, .int .u64 it.2]).alloc (.cells #[.int .u64 s, .int .u64 it.2] 22))
      have M := Lib.hid (Blk.new2 wr (.cells #[.int .i64 it.1, .int .u64 it.2] 71) 22 #[.int .u64 s, .int .u64 it.2])
      have hba := below_al (below_al (below_0 wr) (.cells #[.int .i64 it.1, .int .u64 it.2] 71)) (.cells #[.int .u64 s, .int .u64 it.2] 22)
      have hJ1 := abides_below hJ hJs hba
      have KB := Lib.hid (keepBut_below (n₀ := n₀) (g := g) (by have := hnx.1; omega) hba)
      clear hba i1 i2 hJs
      generalize (wr.alloc (.cells #[.int .i64 it.1, .int .u64 it.2] 71)).alloc (.cells #[.int .u64 s, .int .u64 it.2] 22) = w2 at *
      obtain ⟨fn, tmps, assign, body, hy, hR⟩ := HY.out w2 hJ1
      refine ⟨trivial, ?_⟩
      refine (callsIn_wide.2 (together_any s it.2 us u2 _ (wr.heap.size + 1) 0 2 M.out.d0 M.out.d1)).mono ?_
      rintro e W2 ⟨rfl, rfl⟩
      have n0 := N.out.d0
      have n1 := N.out.d1
      have nz := N.out.lt
      gi_wp2
      refine hR.mono ?_
      rintro e W3 (⟨rfl, hJ3, hk3⟩ | ⟨rfl, hJx3⟩)
      · clear n0 n1 hy hR
        gi_wp2
        go_roundw
        case rel => exact ⟨k + 1, by omega, by simp, by rw [HSS.out], hJ3, keepBut_t hnx (keepBut_t KB.out hk3)⟩
        case measure => simp [RowKit.intOf]; omega
      · clear n0 n1 hy hR
        gi_wp2
        refine bodyPost_ret (results_none rfl _ _ _) rfl ?_
        exact ⟨⟨_, rfl⟩, .inr ⟨_, List.take_prefix _ _, hJx3⟩⟩
    · obtain rfl : k = l.length := by omega
      gi_wp2
      go_end0
      exact ⟨⟨_, rfl⟩, .inl ⟨_, List.take_of_length_le (by rw [HL.out]; exact Nat.le_refl _), hJs⟩⟩
set_option maxHeartbeats 1000000 in
theorem sums0_in (n : Nat) (hn : 1 ≤ n) (ll Bs cap : Nat) (A : Option Addr) {N : Nat} (zs : List (At N)) (hz : zs = []) (J Jx : List (At N) → World → Prop) (W : World) (hB : Blk W Bs 23 #[.slice A 0 cap]) (h0 : J [] W) :
    CallsIn Fence.wide n Try.prog 48 #[.func (.yield ll) #[] #[], .pointer (some ⟨Bs, 0, none⟩)] W fun e W' => (∃ v, e = .returned v) ∧
      ((∃ ys, ys = zs ∧ J ys W') ∨ (∃ pre, pre <+: zs ∧ Jx pre W')) := by
  have hcb := hB.one
  have HZ := Lib.hid hz
  clear hz
  refine callsIn_of_wp Try.func48 rfl trivial ?_ rfl
  simp only [Try.ntmps48, List.size_toArray, List.length_cons, List.length_nil, Nat.reduceAdd, Nat.reduceSub, Array.replicate_succ, Array.replicate_zero, List.push_toArray, List.append_toArray, List.nil_append, List.cons_append]
  gi_wp2
  gi_loopw [8] (fun i wr => i = .int .i64 0 ∧ wr = W) (fun _ _ => 0)
  case atStart => exact ⟨rfl, rfl⟩
  case round =>
    obtain ⟨rfl, rfl⟩ := hrel
    gi_wp2
    go_end0
    exact ⟨⟨_, rfl⟩, .inl ⟨_, rfl, by rw [HZ.out]; exact h0⟩⟩
theorem sums_stops (n : Nat) (hn : 1 ≤ n) (Bs g cap : Nat) (A : Option Addr) (l : Bins) (hU : UBs l) (zs : List (At l.length)) (hzs : zs.map (·.1) = List.range l.length) (hreach : l.length ≤ 65536) (w : World) (hg : Bs ≠ g) (hne : l.length ≠ 0 → ∀ ad, A = some ad → ad.block ≠ g)
    (hB : Blk w Bs 23 #[.slice A l.length cap]) (hS : Sb w w.heap.size A l) :
    SeqStopsK Fence.wide n Try.prog 48 #[.pointer (some ⟨Bs, 0, none⟩)] (fun x : At l.length => sumV l x.1) (KeepBut w.heap.size g) (fun ys => ys = zs) (fun pre => pre <+: zs) l.length w := fun ll J Jx W hW hJ _ hY h0 => by
  by_cases h : l.length = 0
  · have hz : zs = [] := by
      have : (zs.map (·.1)).length = 0 := by rw [hzs]; simp [h]
      exact List.eq_nil_of_length_eq_zero (by simpa using this)
    have hB' := hB.later hW
    rw [h] at hB'
    exact sums0_in n hn ll Bs cap A zs hz J Jx W hB' h0
  · obtain ⟨b, off, rfl, hb, hc⟩ := hS.at_ (by omega)
    exact sums1_in n hn ll Bs w.heap.size g cap b off l hU zs hzs hreach hB.lt hg hb (hne h _ rfl) J Jx W hW.size hJ hY (hB.later hW) (fun j hj => ⟨(hW.cell (p := ⟨b, off + j * 2, none⟩) hb).trans (hc j hj).1, (hW.cell (p := ⟨b, off + j * 2 + 1, none⟩) hb).trans (hc j hj).2⟩) h0
end Go.Proofs.Ytopddcabaiicgaa

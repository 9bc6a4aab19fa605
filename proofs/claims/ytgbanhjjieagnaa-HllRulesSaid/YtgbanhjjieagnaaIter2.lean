/-
  The iterator slices.Values over numbers of 64 bits, where the body of the loop may write one block (turned from the kit's worked text on slices.Values over ints).
-/
import Derived.Shelf.Abstract
import Derived.Shelf.RegionOpen
import Derived.OwnWalkIn
import Derived.TacticsInMore
import Derived.LoopNIn
import Derived.LoopIn
import Derived.Test.YtgbanhjjieagnaaRows
import Derived.Test.YtgbanhjjieagnaaKeep
namespace Go.Proofs.Ytgbanhjjieagnaa
open Go.RowKit Go.Shelf
set_option linter.unusedVariables false
attribute [local go_sem] Oper.semAt_some
/-- A number of 64 bits. -/
abbrev U64 := { x : Int // U x }
theorem exists_u64 : ∀ (l : List Int), Us l → ∃ zs : List U64, zs.map (·.1) = l
  | [], _ => ⟨[], rfl⟩
  | x :: l, h => by
    obtain ⟨zs, hz⟩ := exists_u64 l (fun y hy => h y (List.mem_cons_of_mem _ hy))
    exact ⟨⟨x, h x (List.mem_cons_self ..)⟩ :: zs, by simp [hz]⟩
theorem values_any (a : Option Addr) (len cap : Nat) (w : World) :
    Calls Try.prog 40 #[.slice a len cap] w fun e w' => e = .returned (.func (.func 43) #[] #[.pointer (some ⟨w.heap.size, 0, none⟩)]) ∧ w.alloc (.cells #[.slice a len cap] 24) = w' := by
  go_enter Try.func40, Try.ntmps40
  go_wp2
  go_ret
  exact ⟨rfl, rfl⟩
set_option maxRecDepth 100000 in
set_option maxHeartbeats 2000000 in
/-- The closure of slices.Values: it hands the numbers on, one after another, while the body says 'more'. -/
theorem values1_in (n : Nat) (hn : 1 ≤ n) (l Bs n₀ g cap b off : Nat) (zs : List U64) (ls : List Int) (hzs : zs.map (·.1) = ls) (hreach : zs.length ≤ 65536) (hBs : Bs < n₀) (hg : Bs ≠ g) (hb : b < n₀) (hbg : b ≠ g) (J Jx : List U64 → World → Prop)
    (hY : ∀ pre x W, J pre W → pre.length < zs.length → YieldAt Fence.wide (n - 1) Try.prog l #[.int .u64 x.1] W fun e W' =>
      (e = .returned (.bool true) ∧ J (pre ++ [x]) W' ∧ KeepBut n₀ g W W') ∨ (e = .returned (.bool false) ∧ Jx (pre ++ [x]) W'))
    (W : World) (hB : Blk W Bs 24 #[.slice (some ⟨b, off, none⟩) zs.length cap]) (hc : ∀ j, j < zs.length → W.cell? ⟨b, off + j, none⟩ = some (.int .u64 (nth ls j))) (h0 : J [] W) :
    CallsIn Fence.wide n Try.prog 43 #[.func (.yield l) #[] #[], .pointer (some ⟨Bs, 0, none⟩)] W fun e W' => (∃ v, e = .returned v) ∧
      ((∃ ys, ys = zs ∧ J ys W') ∨ (∃ pre, pre <+: zs ∧ Jx pre W')) := by
  have hlen : ls.length = zs.length := by rw [← hzs]; simp
  have HZ := Lib.hid hzs
  have HC := Lib.hid hc
  have hcb := hB.one
  clear hzs hlen hc
  refine callsIn_of_wp Try.func43 rfl trivial ?_ rfl
  simp only [Try.ntmps43, List.size_toArray, List.length_cons, List.length_nil, Nat.reduceAdd, Nat.reduceSub, Array.replicate_succ, Array.replicate_zero, List.push_toArray, List.append_toArray, List.nil_append, List.cons_append]
  gi_wp2
  gi_loopw [7] (fun i wr => ∃ k : Nat, k ≤ zs.length ∧ i = .int .i64 k ∧ J (zs.take k) wr ∧ KeepBut n₀ g W wr)
    (fun i _ => zs.length - (intOf i).toNat)
  case atStart => exact ⟨0, Nat.zero_le _, rfl, h0, keepBut_refl _ _ _⟩
  case round =>
    obtain ⟨k, hk, rfl, hJs, hnx⟩ := hrel
    by_cases hlt : k < zs.length
    · have hcx' : wr.cell? ⟨b, off + k, none⟩ = some (.int .u64 (nth ls k)) := (World.cell?_of_block (hnx.2 b hb hbg)).trans (HC.out k hlt)
      have hx : (zs[k]).1 = nth ls k := by rw [← HZ.out]; simp [nth, hlt]
      have ht : zs.take (k + 1) = zs.take k ++ [zs[k]] := List.take_succ_eq_append_getElem hlt
      have HT := Lib.hid ht
      obtain ⟨fn, tmps, assign, body, hy, hR⟩ := hY _ (zs[k]) wr hJs (by simp; omega)
      rw [hx] at hy
      clear hx ht hcb
      generalize nth ls k = v at *
      gi_wp2
      refine hR.mono ?_
      rintro e W3 (⟨rfl, hJ3, hk3⟩ | ⟨rfl, hJx3⟩)
      · gi_wp2
        go_roundw
        case rel => exact ⟨k + 1, by omega, by simp, by rw [HT.out]; exact hJ3, keepBut_t hnx hk3⟩
        case measure => simp [intOf]; omega
      · gi_wp2
        refine bodyPost_ret (results_none rfl _ _ _) rfl ?_
        refine ⟨⟨_, rfl⟩, .inr ⟨_, ?_, hJx3⟩⟩
        rw [← HT.out]; exact List.take_prefix _ _
    · obtain rfl : k = zs.length := by omega
      gi_wp2
      go_end0
      exact ⟨⟨_, rfl⟩, .inl ⟨_, List.take_length, hJs⟩⟩
set_option maxHeartbeats 1000000 in
theorem values0_in (n : Nat) (hn : 1 ≤ n) (l Bs cap : Nat) (A : Option Addr) (J Jx : List U64 → World → Prop) (W : World) (hB : Blk W Bs 24 #[.slice A 0 cap]) (h0 : J [] W) :
    CallsIn Fence.wide n Try.prog 43 #[.func (.yield l) #[] #[], .pointer (some ⟨Bs, 0, none⟩)] W fun e W' => (∃ v, e = .returned v) ∧
      ((∃ ys, ys = [] ∧ J ys W') ∨ (∃ pre, pre <+: [] ∧ Jx pre W')) := by
  have hcb := hB.one
  refine callsIn_of_wp Try.func43 rfl trivial ?_ rfl
  simp only [Try.ntmps43, List.size_toArray, List.length_cons, List.length_nil, Nat.reduceAdd, Nat.reduceSub, Array.replicate_succ, Array.replicate_zero, List.push_toArray, List.append_toArray, List.nil_append, List.cons_append]
  gi_wp2
  gi_loopw [7] (fun i wr => i = .int .i64 0 ∧ wr = W) (fun _ _ => 0)
  case atStart => exact ⟨rfl, rfl⟩
  case round =>
    obtain ⟨rfl, rfl⟩ := hrel
    gi_wp2
    go_end0
    exact ⟨⟨_, rfl⟩, .inl ⟨_, rfl, h0⟩⟩
theorem values_stops (n : Nat) (hn : 1 ≤ n) (Bs g cap : Nat) (A : Option Addr) (zs : List U64) (ls : List Int) (hzs : zs.map (·.1) = ls) (hreach : ls.length ≤ 65536) (w : World) (hg : Bs ≠ g) (hne : ls ≠ [] → ∀ ad, A = some ad → ad.block ≠ g)
    (hB : Blk w Bs 24 #[.slice A ls.length cap]) (hS : Sl w w.heap.size A ls) :
    SeqStopsK Fence.wide n Try.prog 43 #[.pointer (some ⟨Bs, 0, none⟩)] (fun x : U64 => #[Value.int .u64 x.1]) (KeepBut w.heap.size g) (fun ys => ys = zs) (fun pre => pre <+: zs) ls.length w := fun l J Jx W hW _ _ hY h0 => by
  have hlen : zs.length = ls.length := by rw [← hzs]; simp
  cases zs with
  | nil =>
    have e : ls = [] := by rw [← hzs]; rfl
    subst e
    exact values0_in n hn l Bs cap A J Jx W (hB.later hW) h0
  | cons z zs' =>
    obtain ⟨b, off, rfl, hb, hc⟩ := hS.at_ (by rw [← hlen]; simp)
    have hB' := hB.later hW
    rw [← hlen] at hB' hY
    exact values1_in n hn l Bs w.heap.size g cap b off (z :: zs') ls hzs (by rw [hlen]; exact hreach) hB.lt hg hb (hne (by rw [← hzs]; simp) _ rfl) J Jx hY W hB' (fun j hj => (hW.cell (p := ⟨b, off + j, none⟩) hb).trans (hc j (by rw [← hlen]; exact hj))) h0
end Go.Proofs.Ytgbanhjjieagnaa

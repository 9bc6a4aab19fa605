/-
  The iterator ranks: the places and bytes of a text, where the body of the loop may write one block.
-/
import Derived.Shelf.Abstract
import Derived.Shelf.RegionOpen
import Derived.OwnWalkIn
import Derived.TacticsInMore
import Derived.LoopNIn
import Derived.LoopIn
import Derived.Test.YtgbanhjjieagnaaBytes
import Derived.Test.YtgbanhjjieagnaaKeep
import Derived.Test.YtgbanhjjieagnaaRows
namespace Go.Proofs.Ytgbanhjjieagnaa
open Go.RowKit Go.Shelf
set_option linter.unusedVariables false
attribute [local go_sem] Oper.semAt_some
theorem ranks_any (s : ByteArray) (w : World) :
    Calls Try.prog 37 #[.string s] w fun e w' => e = .returned (.func (.func 42) #[] #[.pointer (some ⟨w.heap.size, 0, none⟩)]) ∧ w.alloc (.cells #[.string s] 9) = w' := by
  go_enter Try.func37, Try.ntmps37
  go_wp2
  go_ret
  exact ⟨rfl, rfl⟩
theorem bs_at {l : List Nat} (h : Bytes l) {k : Nat} (hk : k < (bs l).size) : ((bs l)[k]).toNat = byt l k := by
  have hk' : k < l.length := by rwa [bs_size] at hk
  have := byt_lt h k
  have e : byt l k = l[k] := by simp [byt, hk']
  have e2 : (bs l)[k] = UInt8.ofNat l[k] := by
    show (bs l).data[k] = _
    simp [bs]
  rw [e2, e, UInt8.toNat_ofNat']
  omega
set_option maxRecDepth 100000 in
set_option maxHeartbeats 2000000 in
theorem ranks_stops (n : Nat) (hn : 1 ≤ n) (Bs g : Nat) (ls : List Nat) (hL : Bytes ls) (zs : List (At ls.length)) (hzs : zs.map (·.1) = List.range ls.length) (hreach : ls.length ≤ 65536) (w : World) (hg : Bs ≠ g)
    (hB : Blk w Bs 9 #[.string (bs ls)]) :
    SeqStopsK Fence.wide n Try.prog 42 #[.pointer (some ⟨Bs, 0, none⟩)] (fun x : At ls.length => #[Value.int .i64 (x.1 : Int), Value.int .u8 ((byt ls x.1 : Nat) : Int)]) (KeepBut w.heap.size g) (fun ys => ys = zs) (fun pre => pre <+: zs) ls.length w := fun l J Jx W hW _ _ hY h0 => by
  have hlen : zs.length = ls.length := by rw [← List.length_map (f := (·.1)), hzs, List.length_range]
  have hsz := bs_size ls
  have HZ := Lib.hid hzs
  have hB0 := hB.later hW
  have HB := Lib.hid hB
  have hcb := hB0.one
  have HW := Lib.hid hW
  clear hzs hB hB0 hW
  refine callsIn_of_wp Try.func42 rfl trivial ?_ rfl
  simp only [Try.ntmps42, List.size_toArray, List.length_cons, List.length_nil, Nat.reduceAdd, Nat.reduceSub, Array.replicate_succ, Array.replicate_zero, List.push_toArray, List.append_toArray, List.nil_append, List.cons_append]
  gi_wp2
  gi_loopw [6] (fun i wr => ∃ k : Nat, k ≤ zs.length ∧ i = .int .i64 k ∧ J (zs.take k) wr ∧ KeepBut w.heap.size g W wr)
    (fun i _ => zs.length - (intOf i).toNat)
  case atStart => exact ⟨0, Nat.zero_le _, rfl, h0, keepBut_refl _ _ _⟩
  case round =>
    obtain ⟨k, hk, rfl, hJs, hnx⟩ := hrel
    by_cases hlt : k < zs.length
    · have hcx' : wr.cell? ⟨Bs, 0, none⟩ = some (.string (bs ls)) := (World.cell?_of_block (hnx.2 Bs HB.out.lt hg)).trans hcb
      have hx : (zs[k]).1 = k := by
        have := congrArg (fun t => t[k]?) HZ.out
        simp [hlt, hlen ▸ hlt] at this
        exact this
      have ht : zs.take (k + 1) = zs.take k ++ [zs[k]] := List.take_succ_eq_append_getElem hlt
      have HT := Lib.hid ht
      obtain ⟨fn, tmps, assign, body, hy, hR⟩ := hY _ (zs[k]) wr hJs (by simp; omega)
      rw [hx] at hy
      have ha : ∀ h : k < (bs ls).size, ((bs ls)[k]'h).toNat = byt ls k := fun h => bs_at hL h
      clear hx ht hcb
      gi_wp2
      try simp only [ha]
      gi_wp2
      refine hR.mono ?_
      rintro e W3 (⟨rfl, hJ3, hk3⟩ | ⟨rfl, hJx3⟩)
      · gi_wp2
        go_roundw
        case rel => exact ⟨k + 1, by omega, by simp, by rw [HT.out]; exact hJ3, keepBut_t hnx hk3⟩
        case measure => simp [intOf]; omega
      · gi_wp2
        refine bodyPost_ret (results_none rfl _ _ _) rfl ?_
        refine ⟨⟨_, rfl⟩, .inr ⟨_, ?_, hJx3⟩⟩
        rw [← HT.out]; exact List.take_prefix _ _
    · obtain rfl : k = zs.length := by omega
      gi_wp2
      go_end0
      exact ⟨⟨_, rfl⟩, .inl ⟨_, List.take_length, hJs⟩⟩
end Go.Proofs.Ytgbanhjjieagnaa

/-
  The iterator slices.Values over labels: each round hands on one label, laid in a box.
-/
import Derived.Shelf.Abstract
import Derived.Shelf.RegionOpen
import Derived.OwnWalkIn
import Derived.TacticsInMore
import Derived.LoopNIn
import Derived.LoopIn
import Derived.Test.YtlcpigkgbihebaaDoorRows
import Derived.Test.YtlcpigkgbihebaaDoorKeep
import Derived.Test.YtlcpigkgbihebaaDoorLabs
namespace Go.Proofs.YtlcpigkgbihebaaDoor
open Go.RowKit Go.Shelf
set_option linter.unusedVariables false
attribute [local go_sem] Oper.semAt_some
theorem Blk.p0 {w : World} {g : Nat} {t : TypeId} {a b : Value} (h : Blk w g t #[a, b]) : w.cell? ⟨g, 0, none⟩ = some a := h.cell 0
theorem Blk.p1 {w : World} {g : Nat} {t : TypeId} {a b : Value} (h : Blk w g t #[a, b]) : w.cell? ⟨g, 1, none⟩ = some b := h.cell 1
theorem blk_new2 (w : World) (o : Obj) (t : TypeId) (cs : Array Value) : Blk ((w.alloc o).alloc (.cells cs t)) (w.heap.size + 1) t cs := by
  have h := Blk.new (w.alloc o) t cs
  have e : (w.alloc o).heap.size = w.heap.size + 1 := by simp
  rwa [e] at h
theorem blk_new3 (w : World) (o o' : Obj) (t : TypeId) (cs : Array Value) : Blk (((w.alloc o).alloc o').alloc (.cells cs t)) (w.heap.size + 1 + 1) t cs := by
  have h := blk_new2 (w.alloc o) o' t cs
  have e : (w.alloc o).heap.size = w.heap.size + 1 := by simp
  rwa [e] at h
/-- What lay below n₀, at the blocks that p tells, lies as it lay. -/
def KeepP (n₀ : Nat) (p : Nat → Prop) (A B : World) : Prop := A.heap.size ≤ B.heap.size ∧ ∀ i, i < n₀ → p i → B.heap[i]? = A.heap[i]?
theorem keepP_refl (n₀ : Nat) (p : Nat → Prop) (A : World) : KeepP n₀ p A A := ⟨Nat.le_refl _, fun _ _ _ => rfl⟩
theorem keepP_t {n₀ : Nat} {p : Nat → Prop} {A B C : World} (h : KeepP n₀ p A B) (k : KeepP n₀ p B C) : KeepP n₀ p A C := ⟨Nat.le_trans h.1 k.1, fun i h1 h2 => (k.2 i h1 h2).trans (h.2 i h1 h2)⟩
theorem keepP_b {n₀ : Nat} {p : Nat → Prop} {w : World} (hn : n₀ ≤ w.heap.size) (W : World) (l : Nat) (o o' : Obj) (hl : w.heap.size ≤ l) (h : W.heap[l]? = some o) (_ : o.isCells = false) (_ : o.isWalk = false) : KeepP n₀ p W (W.putObj l o') := by
  have h1 := belowK_b hn W l o o' hl h ‹_› ‹_›
  exact ⟨h1.size, fun i hi _ => h1.block i hi⟩
theorem keepP_below {n₀ : Nat} {p : Nat → Prop} {A B : World} (hn : n₀ ≤ A.heap.size) (h : Below A.heap.size A B) : KeepP n₀ p A B := ⟨h.size, fun i hi _ => h.block i (by omega)⟩
theorem Blk.onP {n₀ b : Nat} {p : Nat → Prop} {t : TypeId} {cs : Array Value} {A B : World} (h : Blk A b t cs) (hk : KeepP n₀ p A B) (hb : b < n₀) (hg : p b) : Blk B b t cs := (hk.2 b hb hg).trans h
theorem values_any (A : Option Addr) (n cap : Nat) (w : World) :
    Calls Tryd.prog 51 #[.slice A n cap] w fun e w' => e = .returned (.func (.func 73) #[] #[.pointer (some ⟨w.heap.size, 0, none⟩)]) ∧ w.alloc (.cells #[.slice A n cap] 23) = w' := by
  go_enter Tryd.func51, Tryd.ntmps51
  go_wp2
  go_ret
  exact ⟨rfl, rfl⟩
theorem each_any (A : Option Addr) (n cap : Nat) (w : World) :
    Calls Tryd.prog 35 #[.slice A n cap] w fun e w' => e = .returned (.func (.func 73) #[] #[.pointer (some ⟨w.heap.size, 0, none⟩)]) ∧ w.alloc (.cells #[.slice A n cap] 23) = w' := by
  go_enter Tryd.func35, Tryd.ntmps35
  go_wp2_with fail
  refine (values_any A n cap _).mono ?_
  rintro e w' ⟨rfl, rfl⟩
  go_wp2_with fail
  go_ret
  exact ⟨rfl, rfl⟩
/-- What the iterator tells at a place. -/
abbrev labV (x : Lab) : Array Value := #[.agg #[.string x.1, .string x.2]]
set_option maxRecDepth 100000 in
set_option maxHeartbeats 4000000 in
theorem values1_in (n : Nat) (hn : 1 ≤ n) (ll Bs n₀ cap b off : Nat) (p : Nat → Prop) (l : List Lab) (zs : List (At l.length)) (hzs : zs.map (·.1) = List.range l.length) (hreach : l.length ≤ 4294967296) (hBs : Bs < n₀) (hg : p Bs) (hb : b < n₀) (hbg : p b) (J Jx : List (At l.length) → World → Prop) (W : World) (hn0 : n₀ ≤ W.heap.size) {nJ : Nat} (hJ : AbidesFrom nJ J)
    (hY : ∀ pre x W, J pre W → pre.length < l.length → YieldAt Fence.wide (n - 1) Tryd.prog ll (labV (lth l x.1)) W fun e W' =>
      (e = .returned (.bool true) ∧ J (pre ++ [x]) W' ∧ KeepP n₀ p W W') ∨ (e = .returned (.bool false) ∧ Jx (pre ++ [x]) W'))
    (hB : Blk W Bs 23 #[.slice (some ⟨b, off, none⟩) l.length cap]) (hc : ∀ j, j < l.length → W.cell? ⟨b, off + j * 2, none⟩ = some (.string (lth l j).1) ∧ W.cell? ⟨b, off + j * 2 + 1, none⟩ = some (.string (lth l j).2)) (h0 : J [] W) :
    CallsIn Fence.wide n Tryd.prog 73 #[.func (.yield ll) #[] #[], .pointer (some ⟨Bs, 0, none⟩)] W fun e W' => (∃ v, e = .returned v) ∧
      ((∃ ys, ys = zs ∧ J ys W') ∨ (∃ pre, pre <+: zs ∧ Jx pre W')) := by
  have hlen : zs.length = l.length := by rw [← List.length_map (f := (·.1)), hzs, List.length_range]
  have HL := Lib.hid hlen
  have HZ := Lib.hid hzs
  have HC := Lib.hid hc
  have HB := Lib.hid hB
  have hcb := hB.one
  clear hzs hlen hc hB
  refine callsIn_of_wp Tryd.func73 rfl trivial ?_ rfl
  simp only [Tryd.ntmps73, List.size_toArray, List.length_cons, List.length_nil, Nat.reduceAdd, Nat.reduceSub, Array.replicate_succ, Array.replicate_zero, List.push_toArray, List.append_toArray, List.nil_append, List.cons_append]
  gi_wp2
  clear hcb
  gi_loopw [7] (fun i wr => ∃ k : Nat, k ≤ l.length ∧ i = .int .i64 k ∧ J (zs.take k) wr ∧ KeepP n₀ p W wr)
    (fun i _ => l.length - (RowKit.intOf i).toNat)
  case atStart => exact ⟨0, Nat.zero_le _, rfl, h0, keepP_refl _ _ _⟩
  case round =>
    obtain ⟨k, hk, rfl, hJs, hnx⟩ := hrel
    by_cases hlt : k < l.length
    · have hlt' : k < zs.length := by rw [HL.out]; exact hlt
      obtain ⟨h1, h2⟩ := HC.out k hlt
      have i1 : wr.cell? ⟨b, off + k * 2, none⟩ = _ := (World.cell?_of_block (hnx.2 b hb hbg)).trans h1
      have i2 : wr.cell? ⟨b, off + k * 2 + 1, none⟩ = _ := (World.cell?_of_block (hnx.2 b hb hbg)).trans h2
      have hx : (zs[k]).1 = k := by
        have := congrArg (fun t => t[k]?) HZ.out
        simp [hlt', hlt] at this
        exact this
      have ht : zs.take (k + 1) = zs.take k ++ [zs[k]] := List.take_succ_eq_append_getElem hlt'
      have HT := Lib.hid ht
      have HY : Hid (∀ W, J (zs.take k) W → YieldAt Fence.wide (n - 1) Tryd.prog ll #[.agg #[.string (lth l k).1, .string (lth l k).2]] W fun e W' =>
        (e = .returned (.bool true) ∧ J (zs.take (k + 1)) W' ∧ KeepP n₀ p W W') ∨ (e = .returned (.bool false) ∧ Jx (zs.take (k + 1)) W')) := fun W hW => by
        have := hY (zs.take k) (zs[k]) W hW (by simp; omega)
        rw [hx, labV, ← HT.out] at this
        exact this
      have hbw : b < wr.heap.size := by have := hnx.1; omega
      generalize lth l k = it at *
      have hi1 : (0 : Int) ≤ (k : Int) := by omega
      have hi2 : (k : Int) < (l.length : Int) := by omega
      clear h1 h2 hx ht HT hlt'
      have hba := below_al (below_0 wr) (.cells #[.string it.1, .string it.2] 41)
      have hJ1 := abides_below hJ hJs hba
      have KB := Lib.hid (keepP_below (n₀ := n₀) (p := p) (by have := hnx.1; omega) hba)
      obtain ⟨fn, tmps, assign, body, hy, hR⟩ := HY.out _ hJ1
      clear hba hJs hJ1
      gi_wp2
      refine hR.mono ?_
      rintro e W3 (⟨rfl, hJ3, hk3⟩ | ⟨rfl, hJx3⟩)
      · clear hy hR
        gi_wp2
        go_roundw
        case rel => exact ⟨k + 1, by omega, by simp, hJ3, keepP_t hnx (keepP_t KB.out hk3)⟩
        case measure => simp [RowKit.intOf]; omega
      · clear hy hR
        gi_wp2
        refine bodyPost_ret (results_none rfl _ _ _) rfl ?_
        exact ⟨⟨_, rfl⟩, .inr ⟨_, List.take_prefix _ _, hJx3⟩⟩
    · obtain rfl : k = l.length := by omega
      gi_wp2
      go_end0
      exact ⟨⟨_, rfl⟩, .inl ⟨_, List.take_of_length_le (by rw [HL.out]; exact Nat.le_refl _), hJs⟩⟩
set_option maxHeartbeats 1000000 in
theorem values0_in (n : Nat) (hn : 1 ≤ n) (ll Bs cap : Nat) (A : Option Addr) {N : Nat} (zs : List (At N)) (hz : zs = []) (J Jx : List (At N) → World → Prop) (W : World) (hB : Blk W Bs 23 #[.slice A 0 cap]) (h0 : J [] W) :
    CallsIn Fence.wide n Tryd.prog 73 #[.func (.yield ll) #[] #[], .pointer (some ⟨Bs, 0, none⟩)] W fun e W' => (∃ v, e = .returned v) ∧
      ((∃ ys, ys = zs ∧ J ys W') ∨ (∃ pre, pre <+: zs ∧ Jx pre W')) := by
  have hcb := hB.one
  have HZ := Lib.hid hz
  clear hz
  refine callsIn_of_wp Tryd.func73 rfl trivial ?_ rfl
  simp only [Tryd.ntmps73, List.size_toArray, List.length_cons, List.length_nil, Nat.reduceAdd, Nat.reduceSub, Array.replicate_succ, Array.replicate_zero, List.push_toArray, List.append_toArray, List.nil_append, List.cons_append]
  gi_wp2
  gi_loopw [7] (fun i wr => i = .int .i64 0 ∧ wr = W) (fun _ _ => 0)
  case atStart => exact ⟨rfl, rfl⟩
  case round =>
    obtain ⟨rfl, rfl⟩ := hrel
    gi_wp2
    go_end0
    exact ⟨⟨_, rfl⟩, .inl ⟨_, rfl, by rw [HZ.out]; exact h0⟩⟩
theorem values_stops (n : Nat) (hn : 1 ≤ n) (Bs cap : Nat) (p : Nat → Prop) (A : Option Addr) (l : List Lab) (zs : List (At l.length)) (hzs : zs.map (·.1) = List.range l.length) (hreach : l.length ≤ 4294967296) (w : World) (hg : p Bs) (hne : l.length ≠ 0 → ∀ ad, A = some ad → p ad.block)
    (hB : Blk w Bs 23 #[.slice A l.length cap]) (hS : Lb w w.heap.size A l) :
    SeqStopsK Fence.wide n Tryd.prog 73 #[.pointer (some ⟨Bs, 0, none⟩)] (fun x : At l.length => labV (lth l x.1)) (KeepP w.heap.size p) (fun ys => ys = zs) (fun pre => pre <+: zs) l.length w := fun ll J Jx W hW hJ _ hY h0 => by
  by_cases h : l.length = 0
  · have hz : zs = [] := by
      have : (zs.map (·.1)).length = 0 := by rw [hzs]; simp [h]
      exact List.eq_nil_of_length_eq_zero (by simpa using this)
    have hB' := hB.later hW
    rw [h] at hB'
    exact values0_in n hn ll Bs cap A zs hz J Jx W hB' h0
  · obtain ⟨b, off, rfl, hb, hc⟩ := hS.at_ (by omega)
    exact values1_in n hn ll Bs w.heap.size cap b off p l zs hzs hreach hB.lt hg hb (hne h _ rfl) J Jx W hW.size hJ hY (hB.later hW) (fun j hj => ⟨(hW.cell (p := ⟨b, off + j * 2, none⟩) hb).trans (hc j hj).1, (hW.cell (p := ⟨b, off + j * 2 + 1, none⟩) hb).trans (hc j hj).2⟩) h0
end Go.Proofs.YtlcpigkgbihebaaDoor

/-
  Merged out of: HllPlain HllShelf HllWalk1 Bytes HllWork HllBlank HllRanks HllRight1 HllRight2 HllEq.
-/
import Derived.Shelf.Small.Bits
import Derived.Shelf.Strconv.Itoa0
import Derived.Test.YtoffmclbnobllaaGreatDoorRows
import Derived.IntWalk
import Derived.Laws.IdiomStrings
import Derived.RangeFuncOwn
import Derived.Deep.RegionHeld3
import Derived.Laws.EntriesVeiled
import Derived.Shelf.Abstract
import Derived.Shelf.RegionOpen
import Derived.OwnWalkIn
import Derived.TacticsInMore
import Derived.LoopNIn
import Derived.LoopIn
import Derived.Laws.StructEq
import Derived.Test.YtoffmclbnobllaaGreatDoorCkBase
namespace Go.Proofs.YtoffmclbnobllaaGreatDoor.Hl
section
/-- May registers have so many digits? -/
def bitsB (b : Int) : Bool := decide (3 ≤ b ∧ b ≤ 8)
theorem bits_of {b : Int} (h : bitsB b = true) : 3 ≤ b ∧ b ≤ 8 := by simpa [bitsB] using h
theorem bits_nat {b : Int} (h : bitsB b = true) : ∃ B : Nat, b = B ∧ 3 ≤ B ∧ B ≤ 8 := by
  obtain ⟨h1, h2⟩ := bits_of h
  exact ⟨b.toNat, by omega, by omega, by omega⟩
end
section
open Go.RowKit Go.Shelf
end
section
open Go.RowKit
set_option linter.unusedVariables false
theorem isBits_any (b : Int) (w : World) : Calls Tryz.prog 88 #[.int .i64 b] w fun e w' => e = .returned (.bool (bitsB b)) ∧ w = w' := by
  by_cases h1 : 3 ≤ b
  · by_cases h2 : b ≤ 8
    · go_enter Tryz.func88, Tryz.ntmps88
      go_wp2
      go_ret
      exact ⟨ret_bool (by simp [bitsB]; omega), rfl⟩
    · go_enter Tryz.func88, Tryz.ntmps88
      go_wp2
      go_ret
      exact ⟨ret_bool (by simp [bitsB]; omega), rfl⟩
  · go_enter Tryz.func88, Tryz.ntmps88
    go_wp2
    go_ret
    exact ⟨ret_bool (by simp [bitsB]; omega), rfl⟩
end
section
open Go.RowKit
def byt (l : List Nat) (k : Nat) : Nat := (l[k]?).getD 0
def Bytes (l : List Nat) : Prop := ∀ x ∈ l, x < 256
structure By (w : World) (g : Nat) (l : List Nat) : Prop where
  lt : g < w.heap.size
  cell : ∀ j, j < l.length → w.cell? ⟨g, j, none⟩ = some (.int .u8 ((byt l j : Nat) : Int))
  free : ∀ j, j < l.length → w.frozen? ⟨g, j, none⟩ = false
theorem byt_lt {l : List Nat} (h : Bytes l) (k : Nat) : byt l k < 256 := by
  unfold byt
  cases e : l[k]? with
  | none => simp
  | some x => exact h x (List.mem_of_getElem? e)
section
variable {w w' : World} {g : Nat} {l : List Nat}
theorem By.keep (h : By w g l) (hs : w.heap.size ≤ w'.heap.size) (hb : w'.heap[g]? = w.heap[g]?) : By w' g l :=
  ⟨Nat.lt_of_lt_of_le h.lt hs, fun j hj => (World.cell?_of_block hb).trans (h.cell j hj), fun j hj => by
    have := h.free j hj
    unfold World.frozen? at this ⊢
    rw [hb]; exact this⟩
theorem By.later (h : By w g l) (hb : Below w.heap.size w w') : By w' g l := h.keep hb.size (hb.block g h.lt)
theorem By.grown {row : Option Nat} (h : By w g l) (hb : w.grownBy w' row) (hg : some g ≠ row) : By w' g l := h.keep hb.size (hb.block g h.lt hg)
theorem By.alloc (h : By w g l) (o : Obj) : By (w.alloc o) g l := h.later ((Below.refl _ _).alloc (Nat.le_refl _) o)
theorem By.kept {row : Option Nat} (h : By w g l) (hl : 0 < l.length) (hg : w.grownBy w' row) (hr : ∀ r, row = some r → ∃ o : Obj, w.heap[r]? = some o ∧ o.isCells = false) : By w' g l := by
  refine h.grown hg (fun e => ?_)
  obtain ⟨o, ho, hc⟩ := hr g e.symm
  have := h.cell 0 hl
  unfold World.cell? at this
  simp only [ho] at this
  cases o <;> first | (simp at this; done) | (simp [Obj.isCells] at hc; done)
end
/-- The text of bytes. -/
def bs (l : List Nat) : ByteArray := ⟨(l.map UInt8.ofNat).toArray⟩
theorem bs_size (l : List Nat) : (bs l).size = l.length := by simp [bs, ByteArray.size]
end
section
open Go.RowKit
set_option linter.unusedVariables false
set_option linter.unusedSimpArgs false
end
section
open Go.RowKit
set_option linter.unusedVariables false
set_option linter.unusedSimpArgs false
theorem pow_bd {B : Nat} (h3 : 3 ≤ B) (h8 : B ≤ 8) : 8 ≤ 2 ^ B ∧ 2 ^ B ≤ 256 :=
  ⟨Nat.le_trans (by decide) (Nat.pow_le_pow_right (by decide) h3), Nat.le_trans (Nat.pow_le_pow_right (by decide) h8) (by decide)⟩
end
section
open Go.RowKit Go.Shelf
set_option linter.unusedVariables false
attribute [local go_sem] Oper.semAt_some
theorem ranks_any (s : ByteArray) (w : World) :
    Calls Tryz.prog 89 #[.string s] w fun e w' => e = .returned (.func (.func 93) #[] #[.pointer (some ⟨w.heap.size, 0, none⟩)]) ∧ w.alloc (.cells #[.string s] 9) = w' := by
  go_enter Tryz.func89, Tryz.ntmps89
  go_wp2
  go_ret
  exact ⟨rfl, rfl⟩
theorem bs_at {l : List Nat} (h : Bytes l) {k : Nat} (hk : k < (bs l).size) : ((bs l)[k]).toNat = byt l k := by
  have hk' : k < l.length := by rwa [bs_size] at hk
  have := byt_lt h k
  have e : byt l k = l[k] := by simp [byt, hk']
  have e2 : (bs l)[k] = UInt8.ofNat l[k] := by
    show (bs l).data[k] = _
    simp [bs]
  rw [e2, e, UInt8.toNat_ofNat']
  omega
set_option maxRecDepth 100000 in
set_option maxHeartbeats 2000000 in
theorem ranks_stops (n : Nat) (hn : 1 ≤ n) (Bs g : Nat) (ls : List Nat) (hL : Bytes ls) (zs : List (At ls.length)) (hzs : zs.map (·.1) = List.range ls.length) (hreach : ls.length ≤ 65536) (w : World) (hg : Bs ≠ g)
    (hB : Blk w Bs 9 #[.string (bs ls)]) :
    SeqStopsK Fence.wide n Tryz.prog 93 #[.pointer (some ⟨Bs, 0, none⟩)] (fun x : At ls.length => #[Value.int .i64 (x.1 : Int), Value.int .u8 ((byt ls x.1 : Nat) : Int)]) (KeepBut w.heap.size g) (fun ys => ys = zs) (fun pre => pre <+: zs) ls.length w := fun l J Jx W hW _ _ hY h0 => by
  have hlen : zs.length = ls.length := by rw [← List.length_map (f := (·.1)), hzs, List.length_range]
  have hsz := bs_size ls
  have HZ := Lib.hid hzs
  have hB0 := hB.later hW
  have HB := Lib.hid hB
  have hcb := hB0.one
  have HW := Lib.hid hW
  clear hzs hB hB0 hW
  refine callsIn_of_wp Tryz.func93 rfl trivial ?_ rfl
  simp only [Tryz.ntmps93, List.size_toArray, List.length_cons, List.length_nil, Nat.reduceAdd, Nat.reduceSub, Array.replicate_succ, Array.replicate_zero, List.push_toArray, List.append_toArray, List.nil_append, List.cons_append]
  gi_wp2
  gi_loopw [6] (fun i wr => ∃ k : Nat, k ≤ zs.length ∧ i = .int .i64 k ∧ J (zs.take k) wr ∧ KeepBut w.heap.size g W wr)
    (fun i _ => zs.length - (intOf i).toNat)
  case atStart => exact ⟨0, Nat.zero_le _, rfl, h0, keepBut_refl _ _ _⟩
  case round =>
    obtain ⟨k, hk, rfl, hJs, hnx⟩ := hrel
    by_cases hlt : k < zs.length
    · have hcx' : wr.cell? ⟨Bs, 0, none⟩ = some (.string (bs ls)) := (World.cell?_of_block (hnx.2 Bs HB.out.lt hg)).trans hcb
      have hx : (zs[k]).1 = k := by
        have := congrArg (fun t => t[k]?) HZ.out
        simp [hlt, hlen ▸ hlt] at this
        exact this
      have ht : zs.take (k + 1) = zs.take k ++ [zs[k]] := List.take_succ_eq_append_getElem hlt
      have HT := Lib.hid ht
      obtain ⟨fn, tmps, assign, body, hy, hR⟩ := hY _ (zs[k]) wr hJs (by simp; omega)
      rw [hx] at hy
      have ha : ∀ h : k < (bs ls).size, ((bs ls)[k]'h).toNat = byt ls k := fun h => bs_at hL h
      clear hx ht hcb
      gi_wp2
      try simp only [ha]
      gi_wp2
      refine hR.mono ?_
      rintro e W3 (⟨rfl, hJ3, hk3⟩ | ⟨rfl, hJx3⟩)
      · gi_wp2
        go_roundw
        case rel => exact ⟨k + 1, by omega, by simp, by rw [HT.out]; exact hJ3, keepBut_t hnx hk3⟩
        case measure => simp [intOf]; omega
      · gi_wp2
        refine bodyPost_ret (results_none rfl _ _ _) rfl ?_
        refine ⟨⟨_, rfl⟩, .inr ⟨_, ?_, hJx3⟩⟩
        rw [← HT.out]; exact List.take_prefix _ _
    · obtain rfl : k = zs.length := by omega
      gi_wp2
      go_end0
      exact ⟨⟨_, rfl⟩, .inl ⟨_, List.take_length, hJs⟩⟩
end
section
open Go.RowKit
set_option linter.unusedVariables false
set_option linter.unusedSimpArgs false
theorem isBits_no {b : Int} (h : bitsB b = false) (w : World) : Calls Tryz.prog 88 #[.int .i64 b] w fun e w' => e = .returned (.bool false) ∧ w' = w := (isBits_any b w).mono fun _ _ ⟨he, hw⟩ => ⟨by rw [he, h], hw.symm⟩
theorem isBits_yes {b : Int} (h : bitsB b = true) (w : World) : Calls Tryz.prog 88 #[.int .i64 b] w fun e w' => e = .returned (.bool true) ∧ w' = w := (isBits_any b w).mono fun _ _ ⟨he, hw⟩ => ⟨by rw [he, h], hw.symm⟩
theorem right_bits (b : Int) (l : List Nat) (w : World) (hb : bitsB b = false) :
    Calls Tryz.prog 84 #[.agg #[.int .i64 b, .string (bs l)]] w fun e w' => e = .returned (.bool false) ∧ Below w.heap.size w w' := by
  have H := Lib.hid hb
  have HG : Hid (Below w.heap.size w (w.alloc (.cells #[.int .i64 b, .string (bs l)] 41))) := below_al (below_0 _) _
  clear hb
  go_enter Tryz.func84, Tryz.ntmps84
  go_wp2_with fail
  go_step3
  go_wp2_with fail
  go_quiet ((go_at_call 88; exact Calls.quiet_of_same (isBits_no H.out _)))
  go_wp2_with fail
  rw [Exit.noGoto_ret]
  go_ret
  exact ⟨rfl, below_drewN HG.out _⟩
end
section
open Go.RowKit
set_option linter.unusedVariables false
set_option linter.unusedSimpArgs false
attribute [local go_sem] Oper.semAt_some
/-- Are these registers? -/
def rightF (b : Int) (l : List Nat) : Bool := bitsB b && decide (l.length = 2 ^ b.toNat) && decide (∀ x ∈ l, x ≤ 65 - b.toNat)
theorem right_of {b : Int} {l : List Nat} (h : rightF b l = true) : ∃ B : Nat, b = B ∧ 3 ≤ B ∧ B ≤ 8 ∧ l.length = 2 ^ B ∧ (∀ x ∈ l, x ≤ 65 - B) := by
  simp only [rightF, Bool.and_eq_true, decide_eq_true_eq] at h
  obtain ⟨⟨h1, h2⟩, h3⟩ := h
  obtain ⟨B, rfl, q1, q2⟩ := bits_nat h1
  rw [Int.toNat_natCast] at h2 h3
  exact ⟨B, rfl, q1, q2, h2, h3⟩
theorem right_mk {B : Nat} {l : List Nat} (h1 : 3 ≤ B) (h2 : B ≤ 8) (h3 : l.length = 2 ^ B) (h4 : ∀ x ∈ l, x ≤ 65 - B) : rightF B l = true := by
  simp only [rightF, Bool.and_eq_true, decide_eq_true_eq]
  exact ⟨⟨by simp [bitsB]; omega, by rw [Int.toNat_natCast]; exact h3⟩, by rw [Int.toNat_natCast]; exact h4⟩
theorem pow_shl {B : Nat} (h3 : 3 ≤ B) (h8 : B ≤ 8) : ∃ N : Nat, 2 ^ B = N ∧ wrap64 ((2 : Int) ^ B) = (N : Int) ∧ IntKind.i64.wrap ((2 : Int) ^ B) = (N : Int) ∧ 8 ≤ N ∧ N ≤ 256 := by
  obtain ⟨p1, p2⟩ := pow_bd h3 h8
  have e : (2 : Int) ^ B = ((2 ^ B : Nat) : Int) := by simp
  refine ⟨2 ^ B, rfl, ?_, ?_, p1, p2⟩
  · rw [e]; unfold wrap64; omega
  · rw [e]; exact IntWalk.i64_in _ (by omega)
theorem right_len (B : Nat) (l : List Nat) (w : World) (h3 : 3 ≤ B) (h8 : B ≤ 8) (hl : l.length ≠ 2 ^ B) :
    Calls Tryz.prog 84 #[.agg #[.int .i64 B, .string (bs l)]] w fun e w' => e = .returned (.bool false) ∧ Below w.heap.size w w' := by
  obtain ⟨N, hN, hs1, hs2, hN8, hN256⟩ := pow_shl h3 h8
  rw [hN] at hl
  have d1 : ((l.length : Int) != (N : Int)) = true := by simp; omega
  have H := Lib.hid (show bitsB (B : Int) = true by simp [bitsB]; omega)
  have HG : Hid (Below w.heap.size w (w.alloc (.cells #[.int .i64 B, .string (bs l)] 41))) := below_al (below_0 _) _
  have hsz := bs_size l
  clear hN hl
  go_enter Tryz.func84, Tryz.ntmps84
  go_wp2_with fail
  go_step3
  go_wp2_with fail
  go_quiet ((go_at_call 88; exact Calls.quiet_of_same (isBits_yes H.out _)))
  go_wp2_with fail
  rw [Exit.noGoto_ret]
  go_ret
  exact ⟨rfl, below_drewN HG.out _⟩
/-- Three blocks, one behind another. -/
theorem three_blks (w : World) (n : Nat) (a b c : Array Value) (ta tb tc : TypeId) :
    Below w.heap.size w ((((w.alloc (.cells a ta)).drewN n).alloc (.cells b tb)).alloc (.cells c tc)) ∧ Blk ((((w.alloc (.cells a ta)).drewN n).alloc (.cells b tb)).alloc (.cells c tc)) w.heap.size ta a ∧
    Blk ((((w.alloc (.cells a ta)).drewN n).alloc (.cells b tb)).alloc (.cells c tc)) (w.heap.size + 1) tb b ∧ Blk ((((w.alloc (.cells a ta)).drewN n).alloc (.cells b tb)).alloc (.cells c tc)) (w.heap.size + 1 + 1) tc c ∧
    ((((w.alloc (.cells a ta)).drewN n).alloc (.cells b tb)).alloc (.cells c tc)).heap.size = w.heap.size + 3 := by
  refine ⟨below_al (below_al (below_drewN (below_al (below_0 _) _) _) _) _, ?_, ?_, ?_, by simp⟩
  · have h : Blk ((w.alloc (.cells a ta)).drewN n) w.heap.size ta a := Blk.new w ta a
    exact (h.alloc _).alloc _
  · have h := (Blk.new ((w.alloc (.cells a ta)).drewN n) tb b).alloc (.cells c tc)
    have e : ((w.alloc (.cells a ta)).drewN n).heap.size = w.heap.size + 1 := by simp
    rwa [e] at h
  · have h := Blk.new (((w.alloc (.cells a ta)).drewN n).alloc (.cells b tb)) tc c
    have e : (((w.alloc (.cells a ta)).drewN n).alloc (.cells b tb)).heap.size = w.heap.size + 1 + 1 := by simp
    rwa [e] at h
/-- Between two rounds of Right. -/
def RtI (w : World) (N : Nat) (B : Nat) (l : List Nat) (pre : List (At N)) (W : World) : Prop :=
  Blk W (w.heap.size + 1) 4 #[.bool true] ∧ Blk W w.heap.size 41 #[.int .i64 B, .string (bs l)] ∧ (∀ p ∈ pre, byt l p.1 ≤ 65 - B) ∧ Below w.heap.size w W
/-- A round has left: a rank is too great. -/
def RtX (w : World) (N : Nat) (B : Nat) (l : List Nat) (c : Code) (pre : List (At N)) (W : World) : Prop :=
  c = .exit 0 ∧ Blk W (w.heap.size + 1) 4 #[.bool false] ∧ (∃ p ∈ pre, 65 - B < byt l p.1) ∧ Below w.heap.size w W
theorem RtI_own {w : World} {N B : Nat} {l : List Nat} {Bd : Nat} (hB : w.heap.size ≤ Bd) : OwnFrom Bd (RtI w N B l) := by
  rintro s W W' row ⟨h1, h2, h3, h4⟩ hg hr
  have hr' : ∀ r, row = some r → ∃ o : Obj, W.heap[r]? = some o ∧ o.isCells = false := fun r e => (hr r e).2
  exact ⟨h1.kept hg hr', h2.kept hg hr', h3, h4.grown hg h4.size (fun k e => Nat.le_trans hB (hr k e).1)⟩
theorem RtX_own {w : World} {N B : Nat} {l : List Nat} {c : Code} {Bd : Nat} (hB : w.heap.size ≤ Bd) : OwnFrom Bd (RtX w N B l c) := by
  rintro s W W' row ⟨h1, h2, h3, h4⟩ hg hr
  have hr' : ∀ r, row = some r → ∃ o : Obj, W.heap[r]? = some o ∧ o.isCells = false := fun r e => (hr r e).2
  exact ⟨h1, h2.kept hg hr', h3, h4.grown hg h4.size (fun k e => Nat.le_trans hB (hr k e).1)⟩
theorem byt_mem {l : List Nat} {p : Nat} (h : p < l.length) : byt l p ∈ l := by
  have : byt l p = l[p] := by simp [byt, h]
  rw [this]; exact List.getElem_mem h
theorem mem_byt {l : List Nat} {x : Nat} (h : x ∈ l) : ∃ p, p < l.length ∧ byt l p = x := by
  obtain ⟨p, hp, e⟩ := List.mem_iff_getElem.1 h
  exact ⟨p, hp, by simp [byt, hp, e]⟩
set_option maxRecDepth 100000 in
set_option maxHeartbeats 2000000 in
theorem right_in (B : Nat) (l : List Nat) (w : World) (h3 : 3 ≤ B) (h8 : B ≤ 8) (hl : l.length = 2 ^ B) (hL : Bytes l) :
    CallsIn Fence.wide 6 Tryz.prog 84 #[.agg #[.int .i64 B, .string (bs l)]] w fun e w' => e = .returned (.bool (decide (∀ x ∈ l, x ≤ 65 - B))) ∧ Below w.heap.size w w' := by
  obtain ⟨N, hN, hs1, hs2, hN8, hN256⟩ := pow_shl h3 h8
  rw [hN] at hl
  have d1 : ((l.length : Int) != (N : Int)) = false := by simp; omega
  have H := Lib.hid (show bitsB (B : Int) = true by simp [bitsB]; omega)
  have hsz := bs_size l
  have HL := Lib.hid hl
  clear hN hl
  refine callsIn_of_wp_marks Tryz.func84 rfl trivial ?_ rfl
  simp only [Tryz.ntmps84, List.size_toArray, List.length_cons, List.length_nil, Nat.reduceAdd, Nat.reduceSub, Array.replicate_succ, Array.replicate_zero, List.push_toArray, List.append_toArray, List.nil_append, List.cons_append]
  refine wpIn_wide.2 ?_
  go_wp2_with fail
  go_step3
  go_wp2_with fail
  go_quiet ((go_at_call 88; exact Calls.quiet_of_same (isBits_yes H.out _)))
  go_wp2_with fail
  try go_step3
  go_wp2_with fail
  refine (ranks_any _ _).mono ?_
  rintro e w' ⟨rfl, rfl⟩
  go_wp2_with fail
  obtain ⟨hb0, hX, hR, hY, hz⟩ := three_blks w nq #[.int .i64 B, .string (bs l)] #[.bool true] #[.string (bs l)] 41 4 9
  generalize (((w.alloc (.cells #[.int .i64 B, .string (bs l)] 41)).drewN nq).alloc (.cells #[.bool true] 4)).alloc (.cells #[.string (bs l)] 9) = V at *
  obtain ⟨zs, hzs⟩ := exists_at (N := l.length) (List.range l.length) (fun p hp => List.mem_range.1 hp)
  have HZ := Lib.hid hzs
  have hst : RtI w l.length B l [] V := ⟨hR, hX, (fun p hp => by cases hp), hb0⟩
  have hl256 : l.length ≤ 256 := by rw [HL.out]; exact hN256
  clear hzs hX hR
  refine (wpIn_wide (n := 6)).1 ?_
  refine wpIn_rangeFunc_ownF rfl (by omega) (gf := 93) (lb := #[.pointer (some ⟨w.heap.size + 1 + 1, 0, none⟩)]) rfl trivial (enters_of Tryz.func93 (by kernel_rfl) rfl)
    (ranks_stops 5 (by omega) (w.heap.size + 1 + 1) (w.heap.size + 1) l hL zs HZ.out (by omega) V (by omega) hY)
    (fun h k => keepBut_t h k) (keepBut_b (by omega)) (Below.refl _ _) (fun _ => rfl)
    (RtI w l.length B l) (RtX w l.length B l) (RtI_own (by omega)) (fun c => RtX_own (by omega)) hst
    (fun x => { tmps := #[.agg #[.int .i64 B, .string (bs l)], .pointer (some ⟨w.heap.size, 0, none⟩), .bool false, .pointer (some ⟨w.heap.size + 1, 0, none⟩), undef, .int .u8 ((byt l x.1 : Nat) : Int), .pointer (some ⟨w.heap.size, 0, none⟩), .int .i64 B, .bool true,
      .bool false, .bool false, .pointer (some ⟨w.heap.size, 1, none⟩), .string (bs l), .int .i64 (l.length : Int), .pointer (some ⟨w.heap.size, 0, none⟩), .int .i64 B, .int .i64 (N : Int), .bool false, .bool false,
      .pointer (some ⟨w.heap.size, 1, none⟩), .string (bs l), .func (.func 93) #[] #[.pointer (some ⟨w.heap.size + 1 + 1, 0, none⟩)], .int .i64 (x.1 : Int), .int .u8 ((byt l x.1 : Nat) : Int), undef, undef, undef, undef, undef, undef, undef], defers := [] }) ?assign ?body ?done ?stop
  case assign =>
    intro l x W K hK
    gi_wp2
    exact hK
  case body =>
    rintro l' pre ⟨p, hp⟩ W ⟨hG, hx, hall, hb⟩ hlt
    have hv := byt_lt hL p
    have HG := Lib.hid hG
    have HX := Lib.hid hx
    have c0 : W.cell? ⟨w.heap.size, 0, none⟩ = some (.int .i64 B) := hx.cell 0
    have c1 : W.cell? ⟨w.heap.size, 1, none⟩ = some (.string (bs l)) := hx.cell 1
    have cg := hG.one
    have fg := hG.frozen 0
    have z1 := hx.lt
    have z3 := hG.lt
    clear hG hx
    by_cases h0 : byt l p ≤ 65 - B
    · have d0 : decide ((65 : Int) - (B : Int) < ((byt l p : Nat) : Int)) = false := by simp; omega
      gi_wp2_with fail
      exact ⟨KeepsOthers.refl _, keepBut_refl _ _ _, HG.out, HX.out, fun q hq => by
        rcases List.mem_append.1 hq with h | h
        · exact hall q h
        · rw [List.mem_singleton.1 h]; exact h0, hb⟩
    · have d0 : decide ((65 : Int) - (B : Int) < ((byt l p : Nat) : Int)) = true := by simp; omega
      gi_wp2_with fail
      exact ⟨KeepsOthers.setCell _ _ _, rfl, HG.out.set_ 0 _, ⟨⟨p, hp⟩, by simp, by show 65 - B < byt l p; omega⟩, hb.setCell (by show w.heap.size ≤ w.heap.size + 1; omega) _⟩
  case done =>
    rintro D ys W hD rfl ⟨hG, hx, hall, hb⟩ hK
    have cg := hG.one
    have HA := Lib.hid hall
    clear hG hx hall
    go_wp2_with fail
    try rw [Exit.noGoto_ret]
    refine ⟨by simp, .inl ⟨_, _, rfl, run_takeDeferred hK, ?_⟩⟩
    refine ⟨.bool true, by simp [results, Tryz.results84, go_sem], ret_bool (Eq.symm (decide_eq_true ?_)), hb.trans (belowK_b (w := w) (Nat.le_refl _) _ D _ _ (by omega) hK rfl rfl)⟩
    intro x hx
    obtain ⟨p, hp, rfl⟩ := mem_byt hx
    have hm : p ∈ ys.map (·.1) := by rw [HZ.out]; exact List.mem_range.2 hp
    obtain ⟨q, hq, rfl⟩ := List.mem_map.1 hm
    exact HA.out q hq
  case stop =>
    rintro D c' pre W hD hpre ⟨rfl, hG, hz, hb⟩ hK
    have cg := hG.one
    have HA := Lib.hid hz
    clear hG hz
    refine wpIn_wide.2 ?_
    go_wp2_with fail
    try rw [Exit.noGoto_ret]
    refine ⟨by simp, .inl ⟨_, _, rfl, run_takeDeferred hK, ?_⟩⟩
    refine ⟨.bool false, by simp [results, Tryz.results84, go_sem], ret_bool (Eq.symm (decide_eq_false ?_)), hb.trans (belowK_b (w := w) (Nat.le_refl _) _ D _ _ (by omega) hK rfl rfl)⟩
    intro hx
    obtain ⟨p, hp, hgt⟩ := HA.out
    have := hx _ (byt_mem p.2)
    omega
theorem right_any (b : Int) (l : List Nat) (hL : Bytes l) (w : World) :
    Calls Tryz.prog 84 #[.agg #[.int .i64 b, .string (bs l)]] w fun e w' => e = .returned (.bool (rightF b l)) ∧ Below w.heap.size w w' := by
  cases hb : bitsB b with
  | false => rw [show rightF b l = false by simp [rightF, hb]]; exact right_bits b l w hb
  | true =>
    obtain ⟨B, rfl, h3, h8⟩ := bits_nat hb
    by_cases hl : l.length = 2 ^ B
    · rw [show rightF B l = decide (∀ x ∈ l, x ≤ 65 - B) by simp [rightF, hb, hl]]
      exact callsIn_wide.1 (right_in B l w h3 h8 hl hL)
    · rw [show rightF B l = false by simp [rightF, hl]]
      exact right_len B l w h3 h8 hl
end
section
open Go.RowKit
set_option linter.unusedVariables false
set_option linter.unusedSimpArgs false
theorem eq_hll (b : Int) (l : List Nat) (w : World) : (binOp .eql 41 (.agg #[.int .i64 b, .string (bs l)]) (.agg #[.int .i64 b, .string (bs l)])).run Tryz.prog w = .ok (.bool true) w := by
  go_simp
end
end Go.Proofs.YtoffmclbnobllaaGreatDoor.Hl

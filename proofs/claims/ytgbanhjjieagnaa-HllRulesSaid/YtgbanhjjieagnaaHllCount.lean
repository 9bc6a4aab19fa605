/-
  Count: about how many numbers there were.
-/
import Derived.Test.YtgbanhjjieagnaaHllLower
namespace Go.Proofs.Ytgbanhjjieagnaa
open Go.RowKit
set_option linter.unusedVariables false
set_option linter.unusedSimpArgs false
attribute [local go_sem] Oper.semAt_some
/-- One block lies as it lay. -/
def KeepOne (g : Nat) (A B : World) : Prop := A.heap.size ≤ B.heap.size ∧ B.heap[g]? = A.heap[g]?
theorem keepOne_refl (g : Nat) (A : World) : KeepOne g A A := ⟨Nat.le_refl _, rfl⟩
theorem keepOne_t {g : Nat} {A B C : World} (h : KeepOne g A B) (k : KeepOne g B C) : KeepOne g A C := ⟨Nat.le_trans h.1 k.1, k.2.trans h.2⟩
theorem keepOne_b {g : Nat} {w : World} (hg : g < w.heap.size) (W : World) (l : Nat) (o o' : Obj) (hl : w.heap.size ≤ l) (h : W.heap[l]? = some o) (_ : o.isCells = false) (_ : o.isWalk = false) : KeepOne g W (W.putObj l o') := by
  have h1 := belowK_b (Nat.le_refl _) W l o o' hl h ‹_› ‹_›
  exact ⟨h1.size, h1.block g hg⟩
set_option maxRecDepth 100000 in
set_option maxHeartbeats 2000000 in
theorem ranks_stops1 (n : Nat) (hn : 1 ≤ n) (Bs : Nat) (ls : List Nat) (hL : Bytes ls) (zs : List (At ls.length)) (hzs : zs.map (·.1) = List.range ls.length) (hreach : ls.length ≤ 65536) (w : World)
    (hB : Blk w Bs 9 #[.string (bs ls)]) :
    SeqStopsK Fence.wide n Try.prog 42 #[.pointer (some ⟨Bs, 0, none⟩)] (fun x : At ls.length => #[Value.int .i64 (x.1 : Int), Value.int .u8 ((byt ls x.1 : Nat) : Int)]) (KeepOne Bs) (fun ys => ys = zs) (fun pre => pre <+: zs) ls.length w := fun l J Jx W hW _ _ hY h0 => by
  have hlen : zs.length = ls.length := by rw [← List.length_map (f := (·.1)), hzs, List.length_range]
  have hsz := bs_size ls
  have HZ := Lib.hid hzs
  have hB0 := hB.later hW
  have HB := Lib.hid hB
  have hcb := hB0.one
  have HW := Lib.hid hW
  clear hzs hB hB0 hW
  refine callsIn_of_wp Try.func42 rfl trivial ?_ rfl
  simp only [Try.ntmps42, List.size_toArray, List.length_cons, List.length_nil, Nat.reduceAdd, Nat.reduceSub, Array.replicate_succ, Array.replicate_zero, List.push_toArray, List.append_toArray, List.nil_append, List.cons_append]
  gi_wp2
  gi_loopw [6] (fun i wr => ∃ k : Nat, k ≤ zs.length ∧ i = .int .i64 k ∧ J (zs.take k) wr ∧ KeepOne Bs W wr)
    (fun i _ => zs.length - (intOf i).toNat)
  case atStart => exact ⟨0, Nat.zero_le _, rfl, h0, keepOne_refl _ _⟩
  case round =>
    obtain ⟨k, hk, rfl, hJs, hnx⟩ := hrel
    by_cases hlt : k < zs.length
    · have hcx' : wr.cell? ⟨Bs, 0, none⟩ = some (.string (bs ls)) := (World.cell?_of_block hnx.2).trans hcb
      have hx : (zs[k]).1 = k := by
        have := congrArg (fun t => t[k]?) HZ.out
        simp [hlt, hlen ▸ hlt] at this
        exact this
      have ht : zs.take (k + 1) = zs.take k ++ [zs[k]] := List.take_succ_eq_append_getElem hlt
      have HT := Lib.hid ht
      obtain ⟨fn, tmps, assign, body, hy, hR⟩ := hY _ (zs[k]) wr hJs (by simp; omega)
      rw [hx] at hy
      have ha : ∀ h : k < (bs ls).size, ((bs ls)[k]'h).toNat = byt ls k := fun h => bs_at hL h
      clear hx ht hcb
      gi_wp2
      try simp only [ha]
      gi_wp2
      refine hR.mono ?_
      rintro e W3 (⟨rfl, hJ3, hk3⟩ | ⟨rfl, hJx3⟩)
      · gi_wp2
        go_roundw
        case rel => exact ⟨k + 1, by omega, by simp, by rw [HT.out]; exact hJ3, keepOne_t hnx hk3⟩
        case measure => simp [intOf]; omega
      · gi_wp2
        refine bodyPost_ret (results_none rfl _ _ _) rfl ?_
        refine ⟨⟨_, rfl⟩, .inr ⟨_, ?_, hJx3⟩⟩
        rw [← HT.out]; exact List.take_prefix _ _
    · obtain rfl : k = zs.length := by omega
      gi_wp2
      go_end0
      exact ⟨⟨_, rfl⟩, .inl ⟨_, List.take_length, hJs⟩⟩
/-- What a rank weighs. -/
def wt (r : Nat) : Nat := 2 ^ (32 - min r 32)
def someAt (l : List Nat) (ps : List Nat) : Bool := ps.any fun p => decide (byt l p ≠ 0)
def sumAt (l : List Nat) (ps : List Nat) : Nat := (ps.map fun p => wt (byt l p)).sum
def cntF (l : List Nat) (ps : List Nat) : Nat := if someAt l ps = true then 7 * l.length * l.length * 4294967296 / (10 * sumAt l ps) else 0
def countF (b : Int) (l : List Nat) : Nat := if rightF b l = true then cntF l (List.range l.length) else 0
theorem wt_bd (r : Nat) : 1 ≤ wt r ∧ wt r ≤ 4294967296 :=
  ⟨Nat.two_pow_pos _, Nat.le_trans (Nat.pow_le_pow_right (by decide) (show 32 - min r 32 ≤ 32 by omega)) (by decide)⟩
theorem someAt_snoc (l ps : List Nat) (p : Nat) : someAt l (ps ++ [p]) = (someAt l ps || decide (byt l p ≠ 0)) := by simp [someAt]
theorem sumAt_snoc (l ps : List Nat) (p : Nat) : sumAt l (ps ++ [p]) = sumAt l ps + wt (byt l p) := by simp [sumAt]
theorem sumAt_bd (l ps : List Nat) : ps.length ≤ sumAt l ps ∧ sumAt l ps ≤ ps.length * 4294967296 := by
  induction ps with
  | nil => simp [sumAt]
  | cons p ps ih =>
    have := wt_bd (byt l p)
    simp only [sumAt, List.map_cons, List.sum_cons, List.length_cons] at ih ⊢
    omega
theorem wt_add (su r : Nat) (h : su ≤ 1099511627776) : IntKind.u64.wrap ((su : Int) + IntKind.u64.wrap (2 ^ (32 - min ((r : Nat) : Int) 32).toNat)) = ((su + wt r : Nat) : Int) := by
  have h1 := wt_bd r
  have e : (2 : Int) ^ (32 - min ((r : Nat) : Int) 32).toNat = ((wt r : Nat) : Int) := by
    rw [show (32 - min ((r : Nat) : Int) 32).toNat = 32 - min r 32 by omega]; simp [wt]
  rw [e]
  simp only [IntKind.wrap_u64]
  omega
theorem ne_bool (n : Nat) : ((n : Int) != 0) = decide (n ≠ 0) := by
  rw [Bool.eq_iff_iff]; simp
theorem count_bad (b : Int) (l : List Nat) (hL : Bytes l) (w : World) (h : rightF b l = false) : Calls Try.prog 24 #[hV b l] w fun e w' => e = .returned (.int .u64 0) ∧ Below w.heap.size w w' := by
  have H := Lib.hid h
  clear h
  go_enter Try.func24, Try.ntmps24
  go_wp2_with fail
  refine (right_any b l hL _).mono ?_
  rintro e w1 ⟨rfl, hb⟩
  rw [H.out]
  have HB := Lib.hid (below_old hb)
  clear hb
  go_wp2_with fail
  go_ret
  exact ⟨rfl, HB.out⟩
/-- Between two rounds of Count. -/
def CtI (V : World) (N bs_ : Nat) (l : List Nat) (pre : List (At N)) (W : World) : Prop :=
  Blk W bs_ 4 #[.bool (someAt l (pre.map (·.1)))] ∧ Blk W (bs_ + 1) 25 #[.int .u64 ((sumAt l (pre.map (·.1)) : Nat) : Int)] ∧ Below bs_ V W
theorem CtI_own {V : World} {N b : Nat} {l : List Nat} {Bd : Nat} (hB : b ≤ V.heap.size) (hV : V.heap.size ≤ Bd) : OwnFrom Bd (CtI V N b l) := by
  rintro pre W W' row ⟨h1, h2, h4⟩ hg hr
  have hr' : ∀ r, row = some r → ∃ o : Obj, W.heap[r]? = some o ∧ o.isCells = false := fun r e => (hr r e).2
  exact ⟨h1.kept hg hr', h2.kept hg hr', h4.grown hg (Nat.le_trans hB h4.size) (fun k e => by have := (hr k e).1; omega)⟩
set_option maxRecDepth 100000 in
set_option maxHeartbeats 2000000 in
theorem count_in (B : Nat) (l : List Nat) (w : World) (hr : rightF B l = true) :
    CallsIn Fence.wide 6 Try.prog 24 #[hV B l] w fun e w' => e = .returned (.int .u64 ((cntF l (List.range l.length) : Nat) : Int)) ∧ Below w.heap.size w w' := by
  have HR := Lib.hid hr
  have hL := right_bytes hr
  obtain ⟨b1, b2, hl, hk⟩ := right_nat hr
  have hl8 : 8 ≤ l.length := by rw [hl]; exact (pow_bd b1 b2).1
  have hl256 : l.length ≤ 256 := by rw [hl]; exact (pow_bd b1 b2).2
  have hsz := bs_size l
  clear hr hl hk
  refine callsIn_of_wp_marks Try.func24 rfl trivial ?_ rfl
  simp only [Try.ntmps24, List.size_toArray, List.length_cons, List.length_nil, Nat.reduceAdd, Nat.reduceSub, Array.replicate_succ, Array.replicate_zero, List.push_toArray, List.append_toArray, List.nil_append, List.cons_append]
  refine wpIn_wide.2 ?_
  go_wp2_with fail
  refine (right_any B l hL _).mono ?_
  rintro e w1 ⟨rfl, hb⟩
  rw [HR.out]
  have X1 := (Blk.new w 23 #[.int .i64 B, .string (bs l)]).later hb
  have HX := Lib.hid X1
  have HB := Lib.hid (below_old hb)
  have zx := X1.lt
  obtain ⟨x0, x1, _, _⟩ := X1.two
  clear hb X1
  go_wp2_with fail
  refine (ranks_any _ _).mono ?_
  rintro e w' ⟨rfl, rfl⟩
  go_wp2_with fail
  obtain ⟨S, U, R⟩ := three_new w1 #[.bool false] #[.int .u64 0] #[.string (bs l)] 4 25 9
  have hb0 : Below w1.heap.size w1 (((w1.alloc (.cells #[.bool false] 4)).alloc (.cells #[.int .u64 0] 25)).alloc (.cells #[.string (bs l)] 9)) := below_al (below_al (below_al (below_0 _) _) _) _
  have hz : (((w1.alloc (.cells #[.bool false] 4)).alloc (.cells #[.int .u64 0] 25)).alloc (.cells #[.string (bs l)] 9)).heap.size = w1.heap.size + 3 := by simp
  obtain ⟨zs, hzs⟩ := exists_at (N := l.length) (List.range l.length) (fun p hp => List.mem_range.1 hp)
  have HZS := Lib.hid hzs
  have HX := Lib.hid (HX.out.later hb0)
  have HB := Lib.hid (HB.out.trans (hb0.mono HB.out.size))
  clear hzs hb0 x0 x1
  generalize ((w1.alloc (.cells #[.bool false] 4)).alloc (.cells #[.int .u64 0] 25)).alloc (.cells #[.string (bs l)] 9) = V at *
  have hst : CtI V l.length w1.heap.size l [] V := ⟨S, U, Below.refl _ _⟩
  have HRs := Lib.hid R
  clear S U
  refine (wpIn_wide (n := 6)).1 ?_
  refine wpIn_rangeFunc_ownF rfl (by omega) (gf := 42) (lb := #[.pointer (some ⟨w1.heap.size + 1 + 1, 0, none⟩)]) rfl trivial (enters_of Try.func42 (by kernel_rfl) rfl)
    (ranks_stops1 5 (by omega) (w1.heap.size + 1 + 1) l hL zs HZS.out (by omega) V R)
    (fun h k => keepOne_t h k) (keepOne_b (by omega)) (Below.refl _ _) (fun _ => rfl)
    (CtI V l.length w1.heap.size l) (fun _ _ _ => False) (CtI_own (by omega) (Nat.le_refl _)) (fun _ _ _ _ _ h _ _ => h) hst
    (fun x => { tmps := #[hV B l, .pointer (some ⟨w.heap.size, 0, none⟩), .int .u64 0, .pointer (some ⟨w1.heap.size, 0, none⟩), .pointer (some ⟨w1.heap.size + 1, 0, none⟩), undef, .int .u8 ((byt l x.1 : Nat) : Int), undef,
      .agg #[.int .i64 B, .string (bs l)], .bool true, .bool false, .pointer (some ⟨w.heap.size, 1, none⟩), .string (bs l), .func (.func 42) #[] #[.pointer (some ⟨w1.heap.size + 1 + 1, 0, none⟩)], .int .i64 (x.1 : Int), .int .u8 ((byt l x.1 : Nat) : Int),
      undef, undef, undef, undef, undef, undef, undef, undef, undef, undef, undef, undef, undef, undef, undef, undef, undef, undef, undef, undef, undef, undef, undef, undef, undef], defers := [] }) ?assign ?body ?done ?stop
  case assign =>
    intro l x W K hK
    gi_wp2
    exact hK
  case body =>
    rintro l' pre ⟨p, hp⟩ W ⟨hS, hU, hb⟩ hlt
    have hv := byt_lt hL p
    have hsum := sumAt_bd l (pre.map (·.1))
    rw [List.length_map] at hsum
    have HSs : Hid (someAt l ((pre ++ [(⟨p, hp⟩ : At l.length)]).map (·.1)) = (someAt l (pre.map (·.1)) || decide (byt l p ≠ 0))) := by
      show _ = _; rw [List.map_append]; exact someAt_snoc l _ p
    have HUs : Hid (sumAt l ((pre ++ [(⟨p, hp⟩ : At l.length)]).map (·.1)) = sumAt l (pre.map (·.1)) + wt (byt l p)) := by
      show _ = _; rw [List.map_append]; exact sumAt_snoc l _ p
    generalize someAt l (pre.map (·.1)) = sm at *
    generalize sumAt l (pre.map (·.1)) = su at *
    have HS := Lib.hid hS
    have HU := Lib.hid hU
    have HBw := Lib.hid hb
    have cs := hS.one
    have fs := hS.frozen 0
    have cu := hU.one
    have fu := hU.frozen 0
    have zs := hS.lt
    have zu := hU.lt
    clear hS hU hb
    have HV : Hid (IntKind.u64.wrap ((su : Int) + IntKind.u64.wrap (2 ^ (32 - min ((byt l p : Nat) : Int) 32).toNat)) = ((su + wt (byt l p) : Nat) : Int)) := wt_add su (byt l p) (by omega)
    have HK : Hid (∀ x y, KeepOne (w1.heap.size + 1 + 1) W ((W.setCell ⟨w1.heap.size, 0, none⟩ x).setCell ⟨w1.heap.size + 1, 0, none⟩ y)) := fun x y =>
      ⟨by simp [World.setCell], by rw [Below.heap_setCell _ _ _ _ (show w1.heap.size + 1 + 1 ≠ w1.heap.size + 1 by omega), Below.heap_setCell _ _ _ _ (show w1.heap.size + 1 + 1 ≠ w1.heap.size by omega)]⟩
    have HF : Hid (∀ x y, CtI V l.length w1.heap.size l (pre ++ [(⟨p, hp⟩ : At l.length)]) ((W.setCell ⟨w1.heap.size, 0, none⟩ (.bool x)).setCell ⟨w1.heap.size + 1, 0, none⟩ (.int .u64 y)) ∨ ¬ (x = (sm || decide (byt l p ≠ 0)) ∧ y = ((su + wt (byt l p) : Nat) : Int))) := by
      intro x y
      by_cases hxy : x = (sm || decide (byt l p ≠ 0)) ∧ y = ((su + wt (byt l p) : Nat) : Int)
      · refine .inl ⟨?_, ?_, (HBw.out.setCell (Nat.le_refl _) _).setCell (by show w1.heap.size ≤ w1.heap.size + 1; omega) _⟩
        · rw [HSs.out, ← hxy.1]; exact (HS.out.set_ 0 _).far (by show w1.heap.size ≠ w1.heap.size + 1; omega) _
        · rw [HUs.out, ← hxy.2]; exact (HU.out.far (by show w1.heap.size + 1 ≠ w1.heap.size; omega) _).set_ 0 _
      · exact .inr hxy
    cases sm with
    | true =>
      gi_wp2_with fail
      refine ⟨(KeepsOthers.setCell _ _ _).trans (KeepsOthers.setCell _ _ _), HK.out _ _, ?_⟩
      exact (HF.out _ _).resolve_right (fun h => h ⟨rfl, HV.out⟩)
    | false =>
      gi_wp2_with fail
      refine ⟨(KeepsOthers.setCell _ _ _).trans (KeepsOthers.setCell _ _ _), HK.out _ _, ?_⟩
      exact (HF.out _ _).resolve_right (fun h => h ⟨by simp [ne_bool], HV.out⟩)
  case done =>
    rintro D ys W hD rfl ⟨hS, hU, hb⟩ hK
    rw [HZS.out] at hS hU
    have cs := hS.one
    have cu := hU.one
    have hX := HX.out.below hb (by omega)
    obtain ⟨x0, x1, _, _⟩ := hX.two
    have HBW := Lib.hid (HB.out.trans (hb.mono (by omega)))
    have hsum := sumAt_bd l (List.range l.length)
    rw [List.length_range] at hsum
    have HKD := Lib.hid hK
    have HCN : Hid (cntF l (List.range l.length) = if someAt l (List.range l.length) = true then 7 * l.length * l.length * 4294967296 / (10 * sumAt l (List.range l.length)) else 0) := rfl
    have HD5 := Lib.hid (HBW.out.trans (belowK_b (w := w) (Nat.le_refl _) _ D _ (.deferred none) (by omega) hK rfl rfl))
    have hq : ∃ q : Nat, 7 * l.length * l.length = q ∧ q ≤ 458752 := ⟨_, rfl, Nat.mul_le_mul (Nat.mul_le_mul_left 7 hl256) hl256⟩
    obtain ⟨q, hq1, hq2⟩ := hq
    have hq3 : IntKind.u64.wrap (7 * (l.length : Int) * (l.length : Int)) = (q : Int) := by
      rw [← hq1, IntKind.wrap_u64]
      have e : 7 * (l.length : Int) * (l.length : Int) = ((7 * l.length * l.length : Nat) : Int) := by simp
      rw [e, hq1]; omega
    have HQ := Lib.hid hq1
    obtain ⟨hs1, hs2⟩ := hsum
    clear hS hU hb hX hK hq1
    generalize sumAt l (List.range l.length) = su at *
    cases hsm : someAt l (List.range l.length) with
    | false =>
      rw [hsm] at cs HCN
      have HC : Hid (cntF l (List.range l.length) = 0) := by show cntF _ _ = 0; rw [HCN.out]; simp
      clear HCN hsm
      go_wp2_with fail
      refine ⟨by simp, .inl ⟨_, _, rfl, run_takeDeferred HKD.out, ?_⟩⟩
      exact ⟨.int .u64 0, by simp [results, Try.results24, go_sem], by rw [HC.out]; rfl, HD5.out⟩
    | true =>
      rw [hsm] at cs HCN
      have HC : Hid (((cntF l (List.range l.length) : Nat) : Int) = (q : Int) * 4294967296 / (10 * (su : Int))) := by show ((cntF _ _ : Nat) : Int) = _; rw [HCN.out, HQ.out]; simp
      clear HCN hsm
      go_wp2_with fail
      refine ⟨by simp, .inl ⟨_, _, rfl, run_takeDeferred HKD.out, ?_⟩⟩
      refine ⟨.int .u64 ((q : Int) * 4294967296 / (10 * (su : Int))), by simp [results, Try.results24, go_sem], by rw [HC.out], HD5.out⟩
  case stop =>
    rintro D c pre W _ _ h _
    exact h.elim
theorem count_any (b : Int) (l : List Nat) (hL : Bytes l) (w : World) : Calls Try.prog 24 #[hV b l] w fun e w' => e = .returned (.int .u64 ((countF b l : Nat) : Int)) ∧ Below w.heap.size w w' := by
  by_cases h : rightF b l = true
  · rw [countF, if_pos h]
    obtain ⟨B, rfl, _⟩ := right_of h
    exact callsIn_wide.1 (count_in B l w h)
  · rw [countF, if_neg h]
    exact count_bad b l hL w (by simpa using h)
end Go.Proofs.Ytgbanhjjieagnaa

/-
  The walk of hist.Rank.
-/
import Derived.Test.YtopddcabaiicgaaHistTotal
import Derived.Test.YtopddcabaiicgaaRangeBox
namespace Go.Proofs.Ytopddcabaiicgaa
open Go.RowKit
set_option linter.unusedVariables false
set_option linter.unusedSimpArgs false
attribute [local go_sem] Oper.semAt_some
/-- What Rank tells. -/
def rankF (f : Int) (l : Bins) (v : Int) : Int := if rightB f l = true then satSum (l.filter fun x => decide (x.1 ≤ bucketF f v)) 0 else 0
theorem filter_upto {l : Bins} {b : Int} {k : Nat} (hr : Rise l) (hk : k ≤ l.length) (h1 : ∀ i, i < k → (bth l i).1 ≤ b) (h2 : k < l.length → b < (bth l k).1) : l.filter (fun x => decide (x.1 ≤ b)) = l.take k := by
  conv => lhs; rw [← List.take_append_drop k l]
  rw [List.filter_append]
  have e1 : (l.take k).filter (fun x => decide (x.1 ≤ b)) = l.take k := List.filter_eq_self.2 fun x hx => by
    obtain ⟨i, hi, e⟩ := List.mem_iff_getElem.1 hx
    have hi' : i < k := by simp at hi; omega
    have := h1 i hi'
    have e2 : bth l i = x := by rw [← e]; simp [bth, show i < l.length by omega]
    rw [e2] at this; simpa using this
  have e2 : (l.drop k).filter (fun x => decide (x.1 ≤ b)) = [] := List.filter_eq_nil_iff.2 fun x hx => by
    obtain ⟨i, hi, e⟩ := List.mem_iff_getElem.1 hx
    simp at hi
    have hk' : k < l.length := by omega
    have h3 := h2 hk'
    have e2 : bth l (k + i) = x := by rw [← e]; simp [bth, show k + i < l.length by omega]
    have : (bth l k).1 ≤ (bth l (k + i)).1 := by
      rcases Nat.eq_zero_or_pos i with h | h
      · subst h; exact Int.le_refl _
      · exact Int.le_of_lt (rise_at hr (by omega) (by omega))
    rw [e2] at this
    simp; omega
  rw [e1, e2, List.append_nil]
def RkI (w : World) (g6 : Nat) (l : Bins) (b : Int) (pre : List (At l.length)) (W : World) : Prop :=
  Blk W (w.heap.size + 1) 22 #[.int .u64 (lastS l pre)] ∧ Blk W g6 3 #[.int .i64 b] ∧ (∀ p ∈ pre, (bth l p.1).1 ≤ b) ∧ Below w.heap.size w W
def RkX (w : World) (l : Bins) (b : Int) (c : Code) (pre : List (At l.length)) (W : World) : Prop :=
  c = .exit 0 ∧ ∃ p0 x, pre = p0 ++ [x] ∧ Blk W (w.heap.size + 1) 22 #[.int .u64 (lastS l p0)] ∧ (∀ p ∈ p0, (bth l p.1).1 ≤ b) ∧ b < (bth l x.1).1 ∧ Below w.heap.size w W
theorem RkI_own {w : World} {g6 : Nat} {l : Bins} {b : Int} {Bd : Nat} (hB : w.heap.size ≤ Bd) : OwnFrom Bd (RkI w g6 l b) := by
  rintro s W W' row ⟨h1, h2, h3, h4⟩ hg hr
  exact ⟨h1.kept hg (fun r e => (hr r e).2), h2.kept hg (fun r e => (hr r e).2), h3, h4.grown hg h4.size (fun k e => Nat.le_trans hB (hr k e).1)⟩
theorem RkX_own {w : World} {l : Bins} {b : Int} {c : Code} {Bd : Nat} (hB : w.heap.size ≤ Bd) : OwnFrom Bd (RkX w l b c) := by
  rintro s W W' row ⟨h0, p0, x, e, h1, h2, h3, h4⟩ hg hr
  exact ⟨h0, p0, x, e, h1.kept hg (fun r e => (hr r e).2), h2, h3, h4.grown hg h4.size (fun k e => Nat.le_trans hB (hr k e).1)⟩
theorem rank_bad (f : Int) (A : Option Addr) (l : Bins) (cap : Nat) (v : Int) (hU : UBs l) (hl : l.length ≤ 65536) (hr : rightB f l = false) (w : World) (hS : Sb w w.heap.size A l) :
    Calls Try.prog 27 #[.agg #[.int .i64 f, .slice A l.length cap], .int .u64 v] w fun e w' => e = .returned (.int .u64 0) ∧ Below w.heap.size w w' := by
  have T : Below w.heap.size w ((w.alloc (.cells #[.int .i64 f, .slice A l.length cap] 25)).alloc (.cells #[.int .u64 0] 22)) := below_al (below_al (below_0 _) _) _
  have Y := Lib.hid (Blk.new2 w (.cells #[.int .i64 f, .slice A l.length cap] 25) 22 #[.int .u64 0])
  have HS := Lib.hid (Sb.later hS T)
  have HR := Lib.hid hr
  clear hS hr
  go_enter Try.func27, Try.ntmps27
  go_wp2_with fail
  go_step3
  go_wp2_with fail
  generalize (w.alloc (.cells #[.int .i64 f, .slice A l.length cap] 25)).alloc (.cells #[.int .u64 0] 22) = w0 at *
  refine (right_any f A l cap hU (by omega) _ HS.out).mono ?_
  rintro e w1 ⟨rfl, hb1⟩
  rw [HR.out]
  have y0 := (Y.out.later hb1).one
  go_wp2_with fail
  rw [Exit.noGoto_ret]
  go_ret
  exact ⟨rfl, Below.two T hb1⟩
set_option maxRecDepth 100000 in
set_option maxHeartbeats 2000000 in
theorem rank_in (f : Int) (A : Option Addr) (l : Bins) (cap : Nat) (v : Int) (hv : U v) (hU : UBs l) (hl : l.length ≤ 65536) (hr : rightB f l = true) (w : World) (hS : Sb w w.heap.size A l) :
    CallsIn Fence.wide 6 Try.prog 27 #[.agg #[.int .i64 f, .slice A l.length cap], .int .u64 v] w fun e w' => e = .returned (.int .u64 (satSum (l.filter fun x => decide (x.1 ≤ bucketF f v)) 0)) ∧ Below w.heap.size w w' := by
  have T : Below w.heap.size w ((w.alloc (.cells #[.int .i64 f, .slice A l.length cap] 25)).alloc (.cells #[.int .u64 0] 22)) := below_al (below_al (below_0 _) _) _
  have X := Lib.hid ((Blk.new w 25 #[.int .i64 f, .slice A l.length cap]).alloc (.cells #[.int .u64 0] 22))
  have Y := Lib.hid (Blk.new2 w (.cells #[.int .i64 f, .slice A l.length cap] 25) 22 #[.int .u64 0])
  have HS := Lib.hid (Sb.later hS T)
  have NE : Hid (l.length ≠ 0 → ∀ ad, A = some ad → ad.block < w.heap.size) := fun h ad e => by
    obtain ⟨b, off, e', hb, _⟩ := hS.at_ (by omega)
    rw [e'] at e; cases e; exact hb
  have HR := Lib.hid hr
  have R := rt_of hr
  obtain ⟨bb, hbb⟩ : ∃ b, bucketF f v = b := ⟨_, rfl⟩
  have HBB := Lib.hid hbb
  clear hS hr
  rw [hbb]
  clear hbb
  refine callsIn_of_wp_marks Try.func27 rfl trivial ?_ rfl
  simp only [Try.ntmps27, List.size_toArray, List.length_cons, List.length_nil, Nat.reduceAdd, Nat.reduceSub, Array.replicate_succ, Array.replicate_zero, List.push_toArray, List.append_toArray, List.nil_append, List.cons_append]
  refine wpIn_wide.2 ?_
  go_wp2_with fail
  go_step3
  go_wp2_with fail
  generalize (w.alloc (.cells #[.int .i64 f, .slice A l.length cap] 25)).alloc (.cells #[.int .u64 0] 22) = w0 at *
  refine (right_any f A l cap hU (by omega) _ HS.out).mono ?_
  rintro e w1 ⟨rfl, hb1⟩
  rw [HR.out]
  replace X := Lib.hid (X.out.later hb1)
  replace Y := Lib.hid (Y.out.later hb1)
  replace HS := Lib.hid (Sb.later HS.out hb1)
  replace T := Below.two T hb1
  have WZ := Lib.hid Y.out.lt
  have x0 := X.out.d0
  have x1 := X.out.d1
  have zx := X.out.lt
  clear hb1
  go_wp2_with fail
  refine (bucket_any f v hv _).mono ?_
  rintro e w2 ⟨rfl, q, rfl⟩
  rw [HBB.out]
  have hbq := below_drewN (below_0 w1) q
  replace X := Lib.hid (X.out.later hbq)
  replace Y := Lib.hid (Y.out.later hbq)
  replace HS := Lib.hid (Sb.later HS.out hbq)
  replace T := Below.two T hbq
  have WZ2 : Hid (w.heap.size + 1 < (w1.drewN q).heap.size) := Lib.hid Y.out.lt
  clear hbq x0 x1 zx WZ
  generalize w1.drewN q = w2 at *
  have x1 := X.out.d1
  have zx := X.out.lt
  go_wp2_with fail
  try go_step3
  have hba := below_al (below_0 w2) (.cells #[.int .i64 bb] 3)
  have L := Lib.hid (Blk.new w2 3 #[.int .i64 bb])
  replace X := Lib.hid (X.out.later hba)
  replace Y := Lib.hid (Y.out.later hba)
  replace HS := Lib.hid (Sb.later HS.out hba)
  replace T := Below.two T hba
  clear hba x1 zx
  generalize w2.alloc (.cells #[.int .i64 bb] 3) = w3 at *
  have x1 := X.out.d1
  have zx := X.out.lt
  have zl := L.out.lt
  go_wp2_with fail
  refine (sums_any _ _ _ _).mono ?_
  rintro e w' ⟨rfl, rfl⟩
  have hba := below_al (below_0 w3) (.cells #[.slice A l.length cap] 23)
  have Z := Lib.hid (Blk.new w3 23 #[.slice A l.length cap])
  replace Y := Lib.hid (Y.out.later hba)
  replace L := Lib.hid (L.out.later hba)
  replace HS := Lib.hid (Sb.later HS.out hba)
  replace T := Below.two T hba
  clear hba x1 X zx
  go_wp2_with fail
  generalize w3.alloc (.cells #[.slice A l.length cap] 23) = V at *
  have yz := Y.out.lt
  have wz := WZ2.out
  have vz := Z.out.lt
  obtain ⟨zs, hzs⟩ := exists_at (N := l.length) (List.range l.length) (fun p hp => List.mem_range.1 hp)
  have HZ := Lib.hid hzs
  have hst : RkI w w2.heap.size l bb [] V := ⟨by simpa [lastS] using Y.out, L.out, (fun p hp => by cases hp), T⟩
  clear hzs
  refine (wpIn_wide (n := 6)).1 ?_
  refine rangeFunc_box rfl (by omega) (gf := 48) (lb := #[.pointer (some ⟨w3.heap.size, 0, none⟩)]) rfl trivial (enters_of Try.func48 (by kernel_rfl) rfl)
    (sums_stops 5 (by omega) w3.heap.size (w.heap.size + 1) cap A l hU zs HZ.out hl V (by omega) (fun h ad e => by have := NE.out h ad e; omega) Z.out HS.out)
    (fun h k => keepBut_t h k) (keepBut_b (by omega)) (fun W o h => keepBut_below (by omega) (below_al (below_0 W) o)) (Below.refl _ _) (fun _ => rfl)
    (RkI w w2.heap.size l bb) (RkX w l bb) (RkI_own (by omega)) (fun c => RkX_own (by omega)) hst
    (fun x b => { tmps := #[.agg #[.int .i64 f, .slice A l.length cap], .int .u64 v, .pointer (some ⟨w.heap.size, 0, none⟩), undef, .int .u64 0, .pointer (some ⟨w.heap.size + 1, 0, none⟩), .pointer (some ⟨w2.heap.size, 0, none⟩), .pointer (some ⟨b, 0, none⟩), .int .u64 (satSum (l.take (x.1 + 1)) 0), .agg #[.int .i64 f, .slice A l.length cap], .bool true, .bool false, undef, .pointer (some ⟨w.heap.size, 0, none⟩), .int .i64 f, .int .u64 v, .int .i64 bb, .pointer (some ⟨w.heap.size, 1, none⟩), .slice A l.length cap,
      .func (.func 48) #[] #[.pointer (some ⟨w3.heap.size, 0, none⟩)], .agg #[.int .i64 (bth l x.1).1, .int .u64 (bth l x.1).2], .int .u64 (satSum (l.take (x.1 + 1)) 0), undef, undef, undef, undef, undef, undef], defers := [] })
    (fun x => .cells #[.int .i64 (bth l x.1).1, .int .u64 (bth l x.1).2] 71) ?assign ?body ?done ?stop
  case assign =>
    intro l x W K hK
    gi_wp2
    exact hK
  case body =>
    rintro l' pre x W b ⟨hG, hL, hall, hb⟩ hbz hN hlt
    have HG := Lib.hid hG
    have HL := Lib.hid hL
    have HN : Hid (Blk W b 71 #[.int .i64 (bth l x.1).1, .int .u64 (bth l x.1).2]) := hN
    have n0 := HN.out.d0
    have l0 := hL.one
    have cg := hG.one
    have fg := hG.frozen 0
    have z3 := hG.lt
    have z4 := hL.lt
    have z5 := HN.out.lt
    have HS2 := Lib.hid (lastS_snoc l pre x)
    clear hG hL hN
    by_cases h0 : bb < (bth l x.1).1
    · have d0 : decide (bb < (bth l x.1).1) = true := by simp [h0]
      gi_wp2_with fail
      exact ⟨KeepsOthers.refl _, rfl, pre, x, rfl, HG.out, hall, h0, hb⟩
    · have d0 : decide (bb < (bth l x.1).1) = false := by simp; omega
      gi_wp2_with fail
      exact ⟨KeepsOthers.setCell _ _ _, keepBut_set _ _ _ _ _, by rw [HS2.out]; exact HG.out.set_ 0 _, HL.out.far (by show w2.heap.size ≠ w.heap.size + 1; omega) _, fun p hp => by
        rcases List.mem_append.1 hp with h | h
        · exact hall p h
        · rw [List.mem_singleton.1 h]; omega, hb.setCell (by show w.heap.size ≤ w.heap.size + 1; omega) _⟩
  case done =>
    rintro D ys W hD rfl ⟨hG, _, hall, hb⟩ hK
    have h1 : ys.length = l.length := by rw [← List.length_map (f := (·.1)), HZ.out, List.length_range]
    have HE : Hid (lastS l ys = satSum (l.filter fun x => decide (x.1 ≤ bb)) 0) := by
      show _ = _
      rw [lastS_upto l ys (by rw [HZ.out, h1]), h1, filter_upto (k := l.length) R.rise (Nat.le_refl _) (fun i hi => ?_) (fun h => by omega)]
      have hm : i ∈ ys.map (·.1) := by rw [HZ.out]; exact List.mem_range.2 hi
      obtain ⟨q, hq, rfl⟩ := List.mem_map.1 hm
      exact hall q hq
    rw [HE.out] at hG
    have cg := hG.one
    clear hG h1 hall
    go_wp2_with fail
    try rw [Exit.noGoto_ret]
    refine ⟨by simp, .inl ⟨_, _, rfl, run_takeDeferred hK, ?_⟩⟩
    exact ⟨.int .u64 (satSum (l.filter fun x => decide (x.1 ≤ bb)) 0), by simp [results, Try.results27, go_sem], rfl, hb.trans (belowK_b (w := w) (Nat.le_refl _) _ D _ _ (by omega) hK rfl rfl)⟩
  case stop =>
    rintro D c' pre W hD hpre ⟨rfl, p0, x, rfl, hG, hall, hx, hb⟩ hK
    have hp := pre_range HZ.out hpre
    have hp0 := pre_range HZ.out (List.IsPrefix.trans (List.prefix_append p0 [x]) hpre)
    have hx1 : x.1 = p0.length := by
      have := congrArg (fun t => t[p0.length]?) hp
      simp at this
      exact this
    have HE : Hid (lastS l p0 = satSum (l.filter fun x => decide (x.1 ≤ bb)) 0) := by
      show _ = _
      rw [lastS_upto l p0 hp0, filter_upto (k := p0.length) R.rise (by have := x.2; omega) (fun i hi => ?_) (fun h => by rw [← hx1]; exact hx)]
      have hm : i ∈ p0.map (·.1) := by rw [hp0]; exact List.mem_range.2 hi
      obtain ⟨q, hq, rfl⟩ := List.mem_map.1 hm
      exact hall q hq
    rw [HE.out] at hG
    have cg := hG.one
    clear hG hp hp0 hx1 hall hx
    refine wpIn_wide.2 ?_
    go_wp2_with fail
    try rw [Exit.noGoto_ret]
    refine ⟨by simp, .inl ⟨_, _, rfl, run_takeDeferred hK, ?_⟩⟩
    exact ⟨.int .u64 (satSum (l.filter fun x => decide (x.1 ≤ bb)) 0), by simp [results, Try.results27, go_sem], rfl, hb.trans (belowK_b (w := w) (Nat.le_refl _) _ D _ _ (by omega) hK rfl rfl)⟩
theorem rank_any (f : Int) (A : Option Addr) (l : Bins) (cap : Nat) (v : Int) (hv : U v) (hU : UBs l) (hl : l.length ≤ 65536) (w : World) (hS : Sb w w.heap.size A l) :
    Calls Try.prog 27 #[.agg #[.int .i64 f, .slice A l.length cap], .int .u64 v] w fun e w' => e = .returned (.int .u64 (rankF f l v)) ∧ Below w.heap.size w w' := by
  cases h : rightB f l with
  | false => rw [rankF, if_neg (by simp [h])]; exact rank_bad f A l cap v hU hl h w hS
  | true => rw [rankF, if_pos h]; exact callsIn_wide.1 (rank_in f A l cap v hv hU hl h w hS)
end Go.Proofs.Ytopddcabaiicgaa

/-
  The walk of hist.Select.
-/
import Derived.Test.YtopddcabaiicgaaHistRank
import Derived.Test.YtopddcabaiicgaaHistMerge
namespace Go.Proofs.Ytopddcabaiicgaa
open Go.RowKit
set_option linter.unusedVariables false
set_option linter.unusedSimpArgs false
attribute [local go_sem] Oper.semAt_some
def selK (l : Bins) (place : Int) : Option Nat := (List.range l.length).find? fun k => decide (place < satSum (l.take (k + 1)) 0)
def selG (f : Int) (l : Bins) (place : Int) : Int × Int × Bool := match selK l place with | some k => boundsF f (bth l k).1 | none => (0, 0, false)
/-- What Select tells. -/
def selectF (f : Int) (l : Bins) (place : Int) : Int × Int × Bool := if rightB f l = true then selG f l place else (0, 0, false)
theorem selK_some {l : Bins} {place : Int} {k : Nat} (hk : k < l.length) (h1 : ∀ i, i < k → satSum (l.take (i + 1)) 0 ≤ place) (h2 : place < satSum (l.take (k + 1)) 0) : selK l place = some k := by
  unfold selK
  have e : List.range l.length = List.range k ++ k :: (List.range (l.length - k - 1)).map (· + (k + 1)) := by
    have : l.length = k + (l.length - k - 1 + 1) := by omega
    conv => lhs; rw [this]
    rw [List.range_add, List.range_succ_eq_map, List.map_cons, List.map_map]
    simp [Function.comp_def]; intro a _; omega
  rw [e, List.find?_append, List.find?_eq_none.2 (fun i hi => by have := h1 i (List.mem_range.1 hi); simp; omega)]
  simp [h2]
theorem selK_none {l : Bins} {place : Int} (h1 : ∀ i, i < l.length → satSum (l.take (i + 1)) 0 ≤ place) : selK l place = none :=
  List.find?_eq_none.2 (fun i hi => by have := h1 i (List.mem_range.1 hi); simp; omega)
theorem five_blks (w : World) (a b c d e : Array Value) (ta tb tc td te : TypeId) :
    ∃ V, (((((w.alloc (.cells a ta)).alloc (.cells b tb)).alloc (.cells c tc)).alloc (.cells d td)).alloc (.cells e te)) = V ∧ Below w.heap.size w V ∧ Blk V w.heap.size ta a ∧ Blk V (w.heap.size + 1) tb b ∧ Blk V (w.heap.size + 1 + 1) tc c ∧ Blk V (w.heap.size + 1 + 1 + 1) td d ∧ Blk V (w.heap.size + 1 + 1 + 1 + 1) te e := by
  refine ⟨_, rfl, below_al (below_al (below_al (below_al (below_al (below_0 _) _) _) _) _) _, ((((Blk.new w ta a).alloc _).alloc _).alloc _).alloc _, (((Blk.new2 w _ tb b).alloc _).alloc _).alloc _, ((Blk.new3 w _ _ tc c).alloc _).alloc _, ?_, ?_⟩
  · have h := (Blk.new (((w.alloc (.cells a ta)).alloc (.cells b tb)).alloc (.cells c tc)) td d).alloc (.cells e te)
    have e : (((w.alloc (.cells a ta)).alloc (.cells b tb)).alloc (.cells c tc)).heap.size = w.heap.size + 1 + 1 + 1 := by simp
    rwa [e] at h
  · have h := Blk.new ((((w.alloc (.cells a ta)).alloc (.cells b tb)).alloc (.cells c tc)).alloc (.cells d td)) te e
    have e : ((((w.alloc (.cells a ta)).alloc (.cells b tb)).alloc (.cells c tc)).alloc (.cells d td)).heap.size = w.heap.size + 1 + 1 + 1 + 1 := by simp
    rwa [e] at h
/-- The results' cells. -/
def Rz (w : World) (q : Int × Int × Bool) (W : World) : Prop :=
  Blk W (w.heap.size + 1 + 1) 22 #[.int .u64 q.1] ∧ Blk W (w.heap.size + 1 + 1 + 1) 22 #[.int .u64 q.2.1] ∧ Blk W (w.heap.size + 1 + 1 + 1 + 1) 4 #[.bool q.2.2]
theorem Rz.kept {w W W' : World} {q : Int × Int × Bool} {row : Option Nat} (h : Rz w q W) (hg : W.grownBy W' row) (hr : ∀ r, row = some r → ∃ o : Obj, W.heap[r]? = some o ∧ o.isCells = false) : Rz w q W' := ⟨h.1.kept hg hr, h.2.1.kept hg hr, h.2.2.kept hg hr⟩
theorem Rz.later {w W W' : World} {q : Int × Int × Bool} (h : Rz w q W) (hb : Below W.heap.size W W') : Rz w q W' := ⟨h.1.later hb, h.2.1.later hb, h.2.2.later hb⟩
abbrev setRz (w W : World) (q : Int × Int × Bool) : World := ((W.setCell ⟨w.heap.size + 1 + 1, 0, none⟩ (.int .u64 q.1)).setCell ⟨w.heap.size + 1 + 1 + 1, 0, none⟩ (.int .u64 q.2.1)).setCell ⟨w.heap.size + 1 + 1 + 1 + 1, 0, none⟩ (.bool q.2.2)
theorem Rz.set {w W : World} {p q : Int × Int × Bool} (h : Rz w p W) : Rz w q (setRz w W q) := by
  refine ⟨?_, ?_, ?_⟩
  · have := h.1.set_ 0 (.int .u64 q.1); exact (this.far (by show w.heap.size + 1 + 1 ≠ _; simp) _).far (by show w.heap.size + 1 + 1 ≠ _; simp) _
  · have := (h.2.1.far (p := ⟨w.heap.size + 1 + 1, 0, none⟩) (by show w.heap.size + 1 + 1 + 1 ≠ w.heap.size + 1 + 1; omega) (.int .u64 q.1)).set_ 0 (.int .u64 q.2.1); exact this.far (by show w.heap.size + 1 + 1 + 1 ≠ _; simp) _
  · have := ((h.2.2.far (p := ⟨w.heap.size + 1 + 1, 0, none⟩) (by show w.heap.size + 1 + 1 + 1 + 1 ≠ w.heap.size + 1 + 1; omega) (.int .u64 q.1)).far (p := ⟨w.heap.size + 1 + 1 + 1, 0, none⟩) (by show w.heap.size + 1 + 1 + 1 + 1 ≠ w.heap.size + 1 + 1 + 1; omega) (.int .u64 q.2.1)).set_ 0 (.bool q.2.2); exact this
theorem Rz.below {w W : World} {q : Int × Int × Bool} (hb : Below w.heap.size w W) : Below w.heap.size w (setRz w W q) :=
  ((hb.setCell (by show w.heap.size ≤ w.heap.size + 1 + 1; omega) _).setCell (by show w.heap.size ≤ w.heap.size + 1 + 1 + 1; omega) _).setCell (by show w.heap.size ≤ w.heap.size + 1 + 1 + 1 + 1; omega) _
theorem Rz.keeps {w W : World} {q : Int × Int × Bool} : KeepsOthers W (setRz w W q) := ((KeepsOthers.setCell _ _ _).trans (KeepsOthers.setCell _ _ _)).trans (KeepsOthers.setCell _ _ _)
theorem select_bad (f : Int) (A : Option Addr) (l : Bins) (cap : Nat) (place : Int) (hU : UBs l) (hl : l.length ≤ 65536) (hr : rightB f l = false) (w : World) (hS : Sb w w.heap.size A l) :
    Calls Try.prog 28 #[.agg #[.int .i64 f, .slice A l.length cap], .int .u64 place] w fun e w' => e = .returned (bdV (0, 0, false)) ∧ Below w.heap.size w w' := by
  obtain ⟨V, hV, T, X, P, R1, R2, R3⟩ := five_blks w #[.int .i64 f, .slice A l.length cap] #[.int .u64 place] #[.int .u64 0] #[.int .u64 0] #[.bool false] 25 22 22 22 4
  have RZ : Hid (Rz w (0, 0, false) V) := ⟨R1, R2, R3⟩
  have HS := Lib.hid (Sb.later hS T)
  have HR := Lib.hid hr
  have x0 := X.d0
  have x1 := X.d1
  clear hS hr R1 R2 R3 X P
  go_enter Try.func28, Try.ntmps28
  go_wp2_with fail
  clear hV x0 x1
  refine (right_any f A l cap hU (by omega) _ HS.out).mono ?_
  rintro e w1 ⟨rfl, hb1⟩
  rw [HR.out]
  replace RZ := Lib.hid (RZ.out.later hb1)
  replace T := Below.two T hb1
  obtain ⟨R1, R2, R3⟩ := RZ.out
  have r1 := R1.one
  have r2 := R2.one
  have r3 := R3.one
  have f1 := R1.frozen 0
  have f2 := R2.frozen 0
  have f3 := R3.frozen 0
  have z3 := R3.lt
  obtain ⟨Q1, Q2, Q3⟩ := RZ.out.set (q := (0, 0, false))
  have q1 := Q1.one
  have q2 := Q2.one
  have q3 := Q3.one
  clear R1 R2 R3 Q1 Q2 Q3 hb1
  go_wp2_with fail
  exact bodyPost_ret (v := bdV (0, 0, false)) (by simp [results, Try.results28, go_sem, q1, q2, q3]) rfl ⟨rfl, Rz.below (q := (0, 0, false)) T⟩
def SlI (w : World) (f : Int) (A : Option Addr) (cap : Nat) (l : Bins) (place : Int) (pre : List (At l.length)) (W : World) : Prop :=
  Blk W w.heap.size 25 #[.int .i64 f, .slice A l.length cap] ∧ Blk W (w.heap.size + 1) 22 #[.int .u64 place] ∧ Rz w (0, 0, false) W ∧ (∀ p ∈ pre, satSum (l.take (p.1 + 1)) 0 ≤ place) ∧ Below w.heap.size w W
def SlX (w : World) (f : Int) (l : Bins) (place : Int) (c : Code) (pre : List (At l.length)) (W : World) : Prop :=
  c = .ret ∧ ∃ p0 x, pre = p0 ++ [x] ∧ Rz w (boundsF f (bth l x.1).1) W ∧ (∀ p ∈ p0, satSum (l.take (p.1 + 1)) 0 ≤ place) ∧ place < satSum (l.take (x.1 + 1)) 0 ∧ Below w.heap.size w W
theorem SlI_own {w : World} {f : Int} {A : Option Addr} {cap : Nat} {l : Bins} {b : Int} {Bd : Nat} (hB : w.heap.size ≤ Bd) : OwnFrom Bd (SlI w f A cap l b) := by
  rintro s W W' row ⟨h1, h2, h3, h5, h4⟩ hg hr
  exact ⟨h1.kept hg (fun r e => (hr r e).2), h2.kept hg (fun r e => (hr r e).2), h3.kept hg (fun r e => (hr r e).2), h5, h4.grown hg h4.size (fun k e => Nat.le_trans hB (hr k e).1)⟩
theorem SlX_own {w : World} {f : Int} {l : Bins} {b : Int} {c : Code} {Bd : Nat} (hB : w.heap.size ≤ Bd) : OwnFrom Bd (SlX w f l b c) := by
  rintro s W W' row ⟨h0, p0, x, e, h1, h2, h3, h4⟩ hg hr
  exact ⟨h0, p0, x, e, h1.kept hg (fun r e => (hr r e).2), h2, h3, h4.grown hg h4.size (fun k e => Nat.le_trans hB (hr k e).1)⟩
set_option maxRecDepth 100000 in
set_option maxHeartbeats 4000000 in
theorem select_in (f : Int) (A : Option Addr) (l : Bins) (cap : Nat) (place : Int) (hU : UBs l) (hl : l.length ≤ 65536) (hr : rightB f l = true) (w : World) (hS : Sb w w.heap.size A l) :
    CallsIn Fence.wide 6 Try.prog 28 #[.agg #[.int .i64 f, .slice A l.length cap], .int .u64 place] w fun e w' => e = .returned (bdV (selG f l place)) ∧ Below w.heap.size w w' := by
  obtain ⟨V0, hV, T, X0, P0, R1, R2, R3⟩ := five_blks w #[.int .i64 f, .slice A l.length cap] #[.int .u64 place] #[.int .u64 0] #[.int .u64 0] #[.bool false] 25 22 22 22 4
  have RZ : Hid (Rz w (0, 0, false) V0) := ⟨R1, R2, R3⟩
  have HS := Lib.hid (Sb.later hS T)
  have X := Lib.hid X0
  have P := Lib.hid P0
  have NE : Hid (l.length ≠ 0 → ∀ ad, A = some ad → ad.block < w.heap.size) := fun h ad e => by
    obtain ⟨b, off, e', hb, _⟩ := hS.at_ (by omega)
    rw [e'] at e; cases e; exact hb
  have HR := Lib.hid hr
  have x0 := X0.d0
  have x1 := X0.d1
  clear hS hr R1 R2 R3 X0 P0
  refine callsIn_of_wp_marks Try.func28 rfl trivial ?_ rfl
  simp only [Try.ntmps28, List.size_toArray, List.length_cons, List.length_nil, Nat.reduceAdd, Nat.reduceSub, Array.replicate_succ, Array.replicate_zero, List.push_toArray, List.append_toArray, List.nil_append, List.cons_append]
  refine wpIn_wide.2 ?_
  go_wp2_with fail
  clear hV x0 x1
  refine (right_any f A l cap hU (by omega) _ HS.out).mono ?_
  rintro e w1 ⟨rfl, hb1⟩
  rw [HR.out]
  replace X := Lib.hid (X.out.later hb1)
  replace P := Lib.hid (P.out.later hb1)
  replace RZ := Lib.hid (RZ.out.later hb1)
  replace HS := Lib.hid (Sb.later HS.out hb1)
  replace T := Below.two T hb1
  have x1 := X.out.d1
  have zx := X.out.lt
  clear hb1
  go_wp2_with fail
  refine (sums_any _ _ _ _).mono ?_
  rintro e w' ⟨rfl, rfl⟩
  have hba := below_al (below_0 w1) (.cells #[.slice A l.length cap] 23)
  have Z := Lib.hid (Blk.new w1 23 #[.slice A l.length cap])
  have WZ : Hid (w.heap.size + 1 + 1 + 1 + 1 < w1.heap.size) := RZ.out.2.2.lt
  replace X := Lib.hid (X.out.later hba)
  replace P := Lib.hid (P.out.later hba)
  replace RZ := Lib.hid (RZ.out.later hba)
  replace HS := Lib.hid (Sb.later HS.out hba)
  replace T := Below.two T hba
  clear hba x1 zx
  go_wp2_with fail
  generalize w1.alloc (.cells #[.slice A l.length cap] 23) = V at *
  have wz := WZ.out
  have vz := Z.out.lt
  obtain ⟨zs, hzs⟩ := exists_at (N := l.length) (List.range l.length) (fun p hp => List.mem_range.1 hp)
  have HZ := Lib.hid hzs
  have hst : SlI w f A cap l place [] V := ⟨X.out, P.out, RZ.out, (fun p hp => by cases hp), T⟩
  clear hzs
  refine (wpIn_wide (n := 6)).1 ?_
  refine rangeFunc_box rfl (by omega) (gf := 48) (lb := #[.pointer (some ⟨w1.heap.size, 0, none⟩)]) rfl trivial (enters_of Try.func48 (by kernel_rfl) rfl)
    (sums_stops 5 (by omega) w1.heap.size (w.heap.size + 1) cap A l hU zs HZ.out hl V (by omega) (fun h ad e => by have := NE.out h ad e; omega) Z.out HS.out)
    (fun h k => keepBut_t h k) (keepBut_b (by omega)) (fun W o h => keepBut_below (by omega) (below_al (below_0 W) o)) (Below.refl _ _) (fun _ => rfl)
    (SlI w f A cap l place) (SlX w f l place) (SlI_own (by omega)) (fun c => SlX_own (by omega)) hst
    (fun x b => { tmps := #[.agg #[.int .i64 f, .slice A l.length cap], .int .u64 place, .pointer (some ⟨w.heap.size, 0, none⟩), .pointer (some ⟨w.heap.size + 1, 0, none⟩), .pointer (some ⟨w.heap.size + 1 + 1, 0, none⟩), .pointer (some ⟨w.heap.size + 1 + 1 + 1, 0, none⟩), .pointer (some ⟨w.heap.size + 1 + 1 + 1 + 1, 0, none⟩), .pointer (some ⟨b, 0, none⟩), .int .u64 (satSum (l.take (x.1 + 1)) 0), .agg #[.int .i64 f, .slice A l.length cap], .bool true, .bool false, .pointer (some ⟨w.heap.size, 1, none⟩), .slice A l.length cap,
      .func (.func 48) #[] #[.pointer (some ⟨w1.heap.size, 0, none⟩)], .agg #[.int .i64 (bth l x.1).1, .int .u64 (bth l x.1).2], .int .u64 (satSum (l.take (x.1 + 1)) 0), undef, undef, undef, undef, undef, undef, undef, undef, undef, undef, undef], defers := [] })
    (fun x => .cells #[.int .i64 (bth l x.1).1, .int .u64 (bth l x.1).2] 71) ?assign ?body ?done ?stop
  case assign =>
    intro l x W K hK
    gi_wp2
    exact hK
  case body =>
    rintro l' pre x W b ⟨hX, hP, hRz, hall, hb⟩ hbz hN hlt
    have HX := Lib.hid hX
    have HP := Lib.hid hP
    have HRz := Lib.hid hRz
    have HN : Hid (Blk W b 71 #[.int .i64 (bth l x.1).1, .int .u64 (bth l x.1).2]) := hN
    have n0 := HN.out.d0
    have x0 := hX.d0
    have p0 := hP.one
    have z3 := hX.lt
    have z4 := hP.lt
    have z5 := HN.out.lt
    clear hX hP hRz hN
    by_cases h0 : place < satSum (l.take (x.1 + 1)) 0
    · have d0 : decide (place < satSum (l.take (x.1 + 1)) 0) = true := by simp [h0]
      have ux := (bth_U hU x.1).1
      obtain ⟨q, hq⟩ : ∃ q, boundsF f (bth l x.1).1 = q := ⟨_, rfl⟩
      have HQ := Lib.hid hq
      clear hq
      gi_wp2_with fail
      refine ⟨trivial, ?_⟩
      refine (CallsIn.inRound l' (callsIn_wide.2 (bounds_any f (bth l x.1).1 ux _))).mono ?_
      rintro e w2 ⟨rfl, n2, rfl⟩
      rw [HQ.out]
      have hbq := below_drewN (below_0 W) n2
      have KO : KeepsOthers W (W.drewN n2) := ⟨Nat.le_refl _, fun _ _ h _ => h⟩
      have R2 := HRz.out.later hbq
      have hb2 := Below.two hb hbq
      clear hbq n0 x0 p0 z3 z4 z5
      generalize W.drewN n2 = W2 at *
      have HR2 := Lib.hid R2
      obtain ⟨R1, R2', R3⟩ := R2
      have r1 := R1.one
      have r2 := R2'.one
      have r3 := R3.one
      have f1 := R1.frozen 0
      have f2 := R2'.frozen 0
      have f3 := R3.frozen 0
      have z3 := R3.lt
      clear R1 R2' R3
      gi_wp2_with fail
      exact ⟨KO.trans (Rz.keeps (w := w) (q := q)), rfl, pre, x, rfl, by rw [HQ.out]; exact HR2.out.set, hall, h0, Rz.below hb2⟩
    · have d0 : decide (place < satSum (l.take (x.1 + 1)) 0) = false := by simp; omega
      gi_wp2_with fail
      exact ⟨KeepsOthers.refl _, keepBut_refl _ _ _, HX.out, HP.out, HRz.out, fun p hp => by
        rcases List.mem_append.1 hp with h | h
        · exact hall p h
        · rw [List.mem_singleton.1 h]; omega, hb⟩
  case done =>
    rintro D ys W hD rfl ⟨hX, hP, hRz, hall, hb⟩ hK
    have HE : Hid (selG f l place = (0, 0, false)) := by
      show _ = _
      unfold selG
      rw [selK_none ?_]
      intro i hi
      have hm : i ∈ ys.map (·.1) := by rw [HZ.out]; exact List.mem_range.2 hi
      obtain ⟨q, hq, rfl⟩ := List.mem_map.1 hm
      exact hall q hq
    have HR2 := Lib.hid hRz
    obtain ⟨R1, R2', R3⟩ := hRz
    have r1 := R1.one
    have r2 := R2'.one
    have r3 := R3.one
    have f1 := R1.frozen 0
    have f2 := R2'.frozen 0
    have f3 := R3.frozen 0
    have z3 := R3.lt
    clear R1 R2' R3 hX hP hall
    go_wp2_with fail
    have hK' : (setRz w W (0, 0, false)).heap[D]? = some (.deferred (some [])) := (Rz.keeps (w := w) (q := (0, 0, false))).same D _ hK rfl
    have hr' : ∀ r, some D = some r → ∃ o : Obj, (setRz w W (0, 0, false)).heap[r]? = some o ∧ o.isCells = false := fun r e => by cases e; exact ⟨_, hK', rfl⟩
    obtain ⟨Q1, Q2, Q3⟩ := (HR2.out.set (q := (0, 0, false))).kept (grownBy_putObj' _ D (.deferred none)) hr'
    have q1 := Q1.one
    have q2 := Q2.one
    have q3 := Q3.one
    refine ⟨by simp, .inl ⟨_, _, rfl, run_takeDeferred hK', ?_⟩⟩
    exact ⟨bdV (0, 0, false), by simp [results, Try.results28, go_sem, q1, q2, q3], by rw [HE.out], (Rz.below (q := (0, 0, false)) hb).trans (belowK_b (w := w) (Nat.le_refl _) _ D _ _ (by omega) hK' rfl rfl)⟩
  case stop =>
    rintro D c' pre W hD hpre ⟨rfl, p0, x, rfl, hRz, hall, hx, hb⟩ hK
    have hp := pre_range HZ.out hpre
    have hp0 := pre_range HZ.out (List.IsPrefix.trans (List.prefix_append p0 [x]) hpre)
    have hx1 : x.1 = p0.length := by
      have := congrArg (fun t => t[p0.length]?) hp
      simp at this
      exact this
    have HE : Hid (selG f l place = boundsF f (bth l x.1).1) := by
      show _ = _
      unfold selG
      rw [selK_some x.2 ?_ hx]
      intro i hi
      have hm : i ∈ p0.map (·.1) := by rw [hp0]; exact List.mem_range.2 (by omega)
      obtain ⟨q, hq, rfl⟩ := List.mem_map.1 hm
      exact hall q hq
    obtain ⟨q, hq⟩ : ∃ q, boundsF f (bth l x.1).1 = q := ⟨_, rfl⟩
    rw [hq] at hRz
    have HQ := Lib.hid hq
    have hr' : ∀ r, some D = some r → ∃ o : Obj, W.heap[r]? = some o ∧ o.isCells = false := fun r e => by cases e; exact ⟨_, hK, rfl⟩
    obtain ⟨Q1, Q2, Q3⟩ := hRz.kept (grownBy_putObj' _ D (.deferred none)) hr'
    have q1 := Q1.one
    have q2 := Q2.one
    have q3 := Q3.one
    clear hp hp0 hx1 hall hx hq
    refine wpIn_wide.2 ?_
    go_wp2_with fail
    refine ⟨by simp, .inl ⟨_, _, rfl, run_takeDeferred hK, ?_⟩⟩
    exact ⟨bdV q, by simp [results, Try.results28, go_sem, q1, q2, q3], by rw [HE.out, ← HQ.out], hb.trans (belowK_b (w := w) (Nat.le_refl _) _ D _ _ (by omega) hK rfl rfl)⟩
theorem select_any (f : Int) (A : Option Addr) (l : Bins) (cap : Nat) (place : Int) (hU : UBs l) (hl : l.length ≤ 65536) (w : World) (hS : Sb w w.heap.size A l) :
    Calls Try.prog 28 #[.agg #[.int .i64 f, .slice A l.length cap], .int .u64 place] w fun e w' => e = .returned (bdV (selectF f l place)) ∧ Below w.heap.size w w' := by
  cases h : rightB f l with
  | false => rw [selectF, if_neg (by simp [h])]; exact select_bad f A l cap place hU hl h w hS
  | true => rw [selectF, if_pos h]; exact callsIn_wide.1 (select_in f A l cap place hU hl h w hS)
end Go.Proofs.Ytopddcabaiicgaa

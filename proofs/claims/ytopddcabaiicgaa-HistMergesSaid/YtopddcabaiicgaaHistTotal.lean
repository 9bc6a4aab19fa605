/-
  The walk of hist.Total.
-/
import Derived.Test.YtopddcabaiicgaaHistSums
namespace Go.Proofs.Ytopddcabaiicgaa
open Go.RowKit
set_option linter.unusedVariables false
set_option linter.unusedSimpArgs false
attribute [local go_sem] Oper.semAt_some
theorem keepBut_set (n₀ g : Nat) (w : World) (o : Nat) (u : Value) : KeepBut n₀ g w (w.setCell ⟨g, o, none⟩ u) := ⟨by simp [World.setCell], fun i _ hne => Below.heap_setCell w ⟨g, o, none⟩ u i hne⟩
/-- What Total tells. -/
def totalF (f : Int) (l : Bins) : Int := if rightB f l = true then satSum l 0 else 0
/-- The sum that was told last. -/
def lastS (l : Bins) (pre : List (At l.length)) : Int := (pre.getLast?).elim 0 fun p => satSum (l.take (p.1 + 1)) 0
theorem lastS_snoc (l : Bins) (pre : List (At l.length)) (x : At l.length) : lastS l (pre ++ [x]) = satSum (l.take (x.1 + 1)) 0 := by simp [lastS]
theorem lastS_upto (l : Bins) : ∀ (pre : List (At l.length)), pre.map (·.1) = List.range pre.length → lastS l pre = satSum (l.take pre.length) 0 := fun pre h => by
  rcases List.eq_nil_or_concat pre with rfl | ⟨p, x, rfl⟩
  · simp [lastS, satSum]
  · rw [List.concat_eq_append] at h ⊢
    rw [lastS_snoc]
    have : x.1 = p.length := by
      have := congrArg (fun t => t[p.length]?) h
      simp at this
      exact this
    rw [this]; simp
theorem pre_range {N : Nat} {zs pre : List (At N)} (hz : zs.map (·.1) = List.range N) (hp : pre <+: zs) : pre.map (·.1) = List.range pre.length := by
  have h1 : zs.length = N := by rw [← List.length_map (f := (·.1)), hz, List.length_range]
  have h2 : pre = zs.take pre.length := List.prefix_iff_eq_take.1 hp
  have h3 : pre.length ≤ N := Nat.le_trans hp.length_le (Nat.le_of_eq h1)
  have h4 : pre.map (·.1) = (List.range N).take pre.length := by rw [← hz, ← List.map_take, ← h2]
  rw [h4, List.take_range, Nat.min_eq_left h3]
def TtI (w : World) (l : Bins) (f : Int) (pre : List (At l.length)) (W : World) : Prop :=
  Blk W (w.heap.size + 1) 22 #[.int .u64 (lastS l pre)] ∧ Below w.heap.size w W
def TtX (w : World) (l : Bins) (c : Code) (pre : List (At l.length)) (W : World) : Prop := False
theorem TtI_own {w : World} {l : Bins} {f : Int} {Bd : Nat} (hB : w.heap.size ≤ Bd) : OwnFrom Bd (TtI w l f) := by
  rintro s W W' row ⟨h1, h4⟩ hg hr
  exact ⟨h1.kept hg (fun r e => (hr r e).2), h4.grown hg h4.size (fun k e => Nat.le_trans hB (hr k e).1)⟩
theorem TtX_own {w : World} {l : Bins} {c : Code} {Bd : Nat} : OwnFrom Bd (TtX w l c) := by
  rintro s W W' row h; exact h.elim
theorem total_bad (f : Int) (A : Option Addr) (l : Bins) (cap : Nat) (hU : UBs l) (hl : l.length ≤ 65536) (hr : rightB f l = false) (w : World) (hS : Sb w w.heap.size A l) :
    Calls Try.prog 26 #[.agg #[.int .i64 f, .slice A l.length cap]] w fun e w' => e = .returned (.int .u64 0) ∧ Below w.heap.size w w' := by
  have T : Below w.heap.size w ((w.alloc (.cells #[.int .i64 f, .slice A l.length cap] 25)).alloc (.cells #[.int .u64 0] 22)) := below_al (below_al (below_0 _) _) _
  have Y := Lib.hid (Blk.new2 w (.cells #[.int .i64 f, .slice A l.length cap] 25) 22 #[.int .u64 0])
  have HS := Lib.hid (Sb.later hS T)
  have HR := Lib.hid hr
  clear hS hr
  go_enter Try.func26, Try.ntmps26
  go_wp2_with fail
  generalize (w.alloc (.cells #[.int .i64 f, .slice A l.length cap] 25)).alloc (.cells #[.int .u64 0] 22) = w0 at *
  refine (right_any f A l cap hU (by omega) _ HS.out).mono ?_
  rintro e w1 ⟨rfl, hb1⟩
  rw [HR.out]
  have y0 := (Y.out.later hb1).one
  go_wp2_with fail
  go_ret
  exact ⟨rfl, Below.two T hb1⟩
set_option maxRecDepth 100000 in
set_option maxHeartbeats 2000000 in
theorem total_in (f : Int) (A : Option Addr) (l : Bins) (cap : Nat) (hU : UBs l) (hl : l.length ≤ 65536) (hr : rightB f l = true) (w : World) (hS : Sb w w.heap.size A l) :
    CallsIn Fence.wide 6 Try.prog 26 #[.agg #[.int .i64 f, .slice A l.length cap]] w fun e w' => e = .returned (.int .u64 (satSum l 0)) ∧ Below w.heap.size w w' := by
  have T : Below w.heap.size w ((w.alloc (.cells #[.int .i64 f, .slice A l.length cap] 25)).alloc (.cells #[.int .u64 0] 22)) := below_al (below_al (below_0 _) _) _
  have X := Lib.hid ((Blk.new w 25 #[.int .i64 f, .slice A l.length cap]).alloc (.cells #[.int .u64 0] 22))
  have Y := Lib.hid (Blk.new2 w (.cells #[.int .i64 f, .slice A l.length cap] 25) 22 #[.int .u64 0])
  have HS := Lib.hid (Sb.later hS T)
  have HS0 := Lib.hid hS
  have NE : Hid (l.length ≠ 0 → ∀ ad, A = some ad → ad.block < w.heap.size) := fun h ad e => by
    obtain ⟨b, off, e', hb, _⟩ := hS.at_ (by omega)
    rw [e'] at e; cases e; exact hb
  have HR := Lib.hid hr
  clear hS hr
  refine callsIn_of_wp_marks Try.func26 rfl trivial ?_ rfl
  simp only [Try.ntmps26, List.size_toArray, List.length_cons, List.length_nil, Nat.reduceAdd, Nat.reduceSub, Array.replicate_succ, Array.replicate_zero, List.push_toArray, List.append_toArray, List.nil_append, List.cons_append]
  refine wpIn_wide.2 ?_
  go_wp2_with fail
  generalize (w.alloc (.cells #[.int .i64 f, .slice A l.length cap] 25)).alloc (.cells #[.int .u64 0] 22) = w0 at *
  refine (right_any f A l cap hU (by omega) _ HS.out).mono ?_
  rintro e w1 ⟨rfl, hb1⟩
  rw [HR.out]
  replace X := Lib.hid (X.out.later hb1)
  replace Y := Lib.hid (Y.out.later hb1)
  replace HS := Lib.hid (Sb.later HS.out hb1)
  replace T := Below.two T hb1
  have WZ := Lib.hid Y.out.lt
  have x1 := X.out.d1
  go_wp2_with fail
  refine (sums_any _ _ _ _).mono ?_
  rintro e w' ⟨rfl, rfl⟩
  have hba := below_al (below_0 w1) (.cells #[.slice A l.length cap] 23)
  have Z := Lib.hid (Blk.new w1 23 #[.slice A l.length cap])
  replace Y := Lib.hid (Y.out.later hba)
  replace HS := Lib.hid (Sb.later HS.out hba)
  replace T := Below.two T hba
  clear hb1 hba x1 X
  go_wp2_with fail
  generalize w1.alloc (.cells #[.slice A l.length cap] 23) = V at *
  have yz := Y.out.lt
  have wz : w.heap.size + 1 < w1.heap.size := WZ.out
  have vz := Z.out.lt
  obtain ⟨zs, hzs⟩ := exists_at (N := l.length) (List.range l.length) (fun p hp => List.mem_range.1 hp)
  have HZ := Lib.hid hzs
  have hst : TtI w l f [] V := ⟨by simpa [lastS] using Y.out, T⟩
  clear hzs
  refine (wpIn_wide (n := 6)).1 ?_
  refine wpIn_rangeFunc_ownF rfl (by omega) (gf := 48) (lb := #[.pointer (some ⟨w1.heap.size, 0, none⟩)]) rfl trivial (enters_of Try.func48 (by kernel_rfl) rfl)
    (sums_stops 5 (by omega) w1.heap.size (w.heap.size + 1) cap A l hU zs HZ.out hl V (by omega) (fun h ad e => by have := NE.out h ad e; omega) Z.out HS.out)
    (fun h k => keepBut_t h k) (keepBut_b (by omega)) (Below.refl _ _) (fun _ => rfl)
    (TtI w l f) (TtX w l) (TtI_own (by omega)) (fun c => TtX_own) hst
    (fun x => { tmps := #[.agg #[.int .i64 f, .slice A l.length cap], .pointer (some ⟨w.heap.size, 0, none⟩), .int .u64 0, .pointer (some ⟨w.heap.size + 1, 0, none⟩), undef, .int .u64 (satSum (l.take (x.1 + 1)) 0), .agg #[.int .i64 f, .slice A l.length cap], .bool true, .bool false, undef, .pointer (some ⟨w.heap.size, 1, none⟩), .slice A l.length cap,
      .func (.func 48) #[] #[.pointer (some ⟨w1.heap.size, 0, none⟩)], .agg #[.int .i64 (bth l x.1).1, .int .u64 (bth l x.1).2], .int .u64 (satSum (l.take (x.1 + 1)) 0), undef, undef], defers := [] }) ?assign ?body ?done ?stop
  case assign =>
    intro l x W K hK
    gi_wp2
    exact hK
  case body =>
    rintro l' pre x W ⟨hG, hb⟩ hlt
    have HG := Lib.hid hG
    have cg := hG.one
    have fg := hG.frozen 0
    have z3 := hG.lt
    have HN := Lib.hid (lastS_snoc l pre x)
    clear hG
    gi_wp2_with fail
    exact ⟨KeepsOthers.setCell _ _ _, keepBut_set _ _ _ _ _, by rw [HN.out]; exact HG.out.set_ 0 _, hb.setCell (by show w.heap.size ≤ w.heap.size + 1; omega) _⟩
  case done =>
    rintro D ys W hD rfl ⟨hG, hb⟩ hK
    have HE : Hid (lastS l ys = satSum l 0) := by
      show _ = _
      have h1 : ys.length = l.length := by rw [← List.length_map (f := (·.1)), HZ.out, List.length_range]
      rw [lastS_upto l ys (by rw [HZ.out, h1]), h1, List.take_of_length_le (Nat.le_refl _)]
    rw [HE.out] at hG
    have cg := hG.one
    clear hG
    go_wp2_with fail
    refine ⟨by simp, .inl ⟨_, _, rfl, run_takeDeferred hK, ?_⟩⟩
    exact ⟨.int .u64 (satSum l 0), by simp [results, Try.results26, go_sem], rfl, hb.trans (belowK_b (w := w) (Nat.le_refl _) _ D _ _ (by omega) hK rfl rfl)⟩
  case stop =>
    rintro D c' pre W hD hpre h hK
    exact h.elim
theorem total_any (f : Int) (A : Option Addr) (l : Bins) (cap : Nat) (hU : UBs l) (hl : l.length ≤ 65536) (w : World) (hS : Sb w w.heap.size A l) :
    Calls Try.prog 26 #[.agg #[.int .i64 f, .slice A l.length cap]] w fun e w' => e = .returned (.int .u64 (totalF f l)) ∧ Below w.heap.size w w' := by
  cases h : rightB f l with
  | false => rw [totalF, if_neg (by simp [h])]; exact total_bad f A l cap hU hl h w hS
  | true => rw [totalF, if_pos h]; exact callsIn_wide.1 (total_in f A l cap hU hl h w hS)
end Go.Proofs.Ytopddcabaiicgaa

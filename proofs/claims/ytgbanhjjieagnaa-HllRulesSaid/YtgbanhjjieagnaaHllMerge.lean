/-
  Merge: the registers of the numbers of two.
-/
import Derived.Test.YtgbanhjjieagnaaHllApi1
namespace Go.Proofs.Ytgbanhjjieagnaa
open Go.RowKit
set_option linter.unusedVariables false
set_option linter.unusedSimpArgs false
attribute [local go_sem] Oper.semAt_some
/-- Places are told the ranks that m has there. -/
def mrg (l m : List Nat) (ps : List Nat) : List Nat := ps.foldl (fun l p => tellF l p (byt m p)) l
def mergeF (l m : List Nat) : List Nat := mrg l m (List.range m.length)
theorem mrg_snoc (l m : List Nat) (ps : List Nat) (p : Nat) : mrg l m (ps ++ [p]) = tellF (mrg l m ps) p (byt m p) := by simp [mrg]
theorem length_mrg (l m : List Nat) (ps : List Nat) : (mrg l m ps).length = l.length := by
  induction ps generalizing l with
  | nil => rfl
  | cons p ps ih => exact (ih _).trans (by simp [tellF])
theorem Ranks.mrg {B : Nat} {l m : List Nat} (h : Ranks B l) (hm : Ranks B m) (ps : List Nat) : Ranks B (mrg l m ps) := by
  induction ps generalizing l with
  | nil => exact h
  | cons p ps ih => exact ih (h.tell p (hm.byt p))
theorem right_nat {B : Nat} {l : List Nat} (h : rightF (B : Int) l = true) : 3 ≤ B ∧ B ≤ 8 ∧ l.length = 2 ^ B ∧ Ranks B l := by
  obtain ⟨B', e, h1, h2, h3, h4⟩ := right_of h
  have : B' = B := by omega
  subst this
  exact ⟨h1, h2, h3, h4⟩
def mergeH (b : Int) (l : List Nat) (c : Int) (m : List Nat) : Hr := if rightF b l = true ∧ rightF c m = true ∧ c = b then ⟨b, mergeF l m, 0⟩ else badH
/-- Between two rounds of Merge. -/
def MgI (V : World) (N B g bw cap : Nat) (s : ByteArray) (l m : List Nat) (pre : List (At N)) (W : World) : Prop :=
  By W g (mrg l m (pre.map (·.1))) ∧ Blk W bw 49 (workV B s g l.length cap) ∧ V.grownBy W (some g)
theorem MgI_own {V : World} {N B g bw cap : Nat} {s : ByteArray} {l m : List Nat} {Bd : Nat} (hl : 0 < l.length) (hB : V.heap.size ≤ Bd) : OwnFrom Bd (MgI V N B g bw cap s l m) := by
  rintro pre W W' row ⟨h1, h2, h4⟩ hg hr
  have hr' : ∀ r, row = some r → ∃ o : Obj, W.heap[r]? = some o ∧ o.isCells = false := fun r e => (hr r e).2
  exact ⟨h1.kept (by rw [length_mrg]; exact hl) hg hr', h2.kept hg hr', ⟨hg.os.trans h4.os, hg.tape.trans h4.tape, hg.output.trans h4.output, Nat.le_trans h4.size hg.size, fun i hi hne => (hg.block i (Nat.lt_of_lt_of_le hi h4.size) (fun e => by have := (hr i e.symm).1; omega)).trans (h4.block i hi hne)⟩⟩
theorem three_new (w : World) (a b c : Array Value) (ta tb tc : TypeId) :
    Blk (((w.alloc (.cells a ta)).alloc (.cells b tb)).alloc (.cells c tc)) w.heap.size ta a ∧ Blk (((w.alloc (.cells a ta)).alloc (.cells b tb)).alloc (.cells c tc)) (w.heap.size + 1) tb b ∧ Blk (((w.alloc (.cells a ta)).alloc (.cells b tb)).alloc (.cells c tc)) (w.heap.size + 1 + 1) tc c := by
  refine ⟨((Blk.new w ta a).alloc _).alloc _, ?_, ?_⟩
  · have h := (Blk.new (w.alloc (.cells a ta)) tb b).alloc (.cells c tc)
    rwa [World.size_alloc] at h
  · have h := Blk.new ((w.alloc (.cells a ta)).alloc (.cells b tb)) tc c
    rwa [World.size_alloc, World.size_alloc] at h
theorem merge_bad (b c : Int) (l m : List Nat) (hL : Bytes l) (hM : Bytes m) (w : World) (hbad : ¬ (rightF b l = true ∧ rightF c m = true ∧ c = b)) :
    Calls Try.prog 23 #[hV b l, hV c m] w (HRes w badH) := by
  go_enter Try.func23, Try.ntmps23
  go_wp2_with fail
  refine (begin_any b l hL _).mono ?_
  rintro e w1 ⟨hb, ⟨hr, g, cap, hg, rfl, hBy⟩ | ⟨hr, s, rfl⟩⟩
  · obtain ⟨X, Y, Z⟩ := three_new w #[.int .i64 b, .string (bs l)] #[.int .i64 c, .string (bs m)] #[.int .i64 0, .string ⟨#[]⟩] 23 23 23
    have HX := Lib.hid (X.later hb)
    have HY := Lib.hid (Y.later hb)
    have HZ := Lib.hid (Z.later hb)
    have HB := Lib.hid (below_old (below_old (below_old hb)))
    have hz : w.heap.size + 1 + 1 < w1.heap.size := by have := hb.size; simp at this; omega
    have hz0 : w.heap.size + 1 < w1.heap.size := by omega
    have hz1 : w.heap.size < w1.heap.size := by omega
    obtain ⟨x0, x1, _, _⟩ := HX.out.two
    obtain ⟨y0, y1, _, _⟩ := HY.out.two
    obtain ⟨z0, z1, f0, f1⟩ := HZ.out.two
    have HN := Lib.hid hbad
    have HR := Lib.hid hr
    clear hb hBy X Y Z hr hbad
    go_wp2_with fail
    refine (right_any c m hM _).mono ?_
    rintro e w2 ⟨rfl, hb2⟩
    have HY2 := Lib.hid ((HY.out.alloc _).later hb2)
    have HX2 := Lib.hid ((HX.out.alloc _).later hb2)
    have HZ2 := Lib.hid ((HZ.out.alloc _).later hb2)
    have HB2 := Lib.hid (HB.out.trans ((below_old hb2).mono HB.out.size))
    have hs2 : w1.heap.size + 1 ≤ w2.heap.size := by have := hb2.size; simpa using this
    clear hb2 x0 x1 y0 y1 z0 z1 f0 f1 HX HY HZ HB
    obtain ⟨x0, x1, _, _⟩ := HX2.out.two
    obtain ⟨y0, y1, _, _⟩ := HY2.out.two
    obtain ⟨z0, z1, f0, f1⟩ := HZ2.out.two
    cases hm : rightF c m with
    | false =>
      have hy0 : w.heap.size + 1 + 1 < w2.heap.size := by omega
      clear hm hz hz0 hz1
      go_wp2_with fail
      refine (errno_err _ _).mono ?_
      rintro e w3 ⟨rfl, rfl⟩
      go_wp2_with fail
      refine bodyPost_ret (v := .tuple #[hV 0 [], .int .i64 70]) (by simp [results, Try.results23, go_sem, z0, z1, bs_nil, hy0]) rfl ⟨rfl, ?_⟩
      exact below_al ((HB2.out.setCell (by show w.heap.size ≤ w.heap.size + 1 + 1; omega) _).setCell (by show w.heap.size ≤ w.heap.size + 1 + 1; omega) _) _
    | true =>
      have hcb : (c != b) = true := by
        have h := HN.out
        simp
        intro e
        exact h ⟨HR.out, hm, e⟩
      have hy0 : w.heap.size + 1 + 1 < w2.heap.size := by omega
      clear hm hz hz0 hz1
      go_wp2_with fail
      refine (errno_err _ _).mono ?_
      rintro e w3 ⟨rfl, rfl⟩
      go_wp2_with fail
      refine bodyPost_ret (v := .tuple #[hV 0 [], .int .i64 70]) (by simp [results, Try.results23, go_sem, z0, z1, bs_nil, hy0]) rfl ⟨rfl, ?_⟩
      exact below_al ((HB2.out.setCell (by show w.heap.size ≤ w.heap.size + 1 + 1; omega) _).setCell (by show w.heap.size ≤ w.heap.size + 1 + 1; omega) _) _
  · obtain ⟨X, Y, Z⟩ := three_new w #[.int .i64 b, .string (bs l)] #[.int .i64 c, .string (bs m)] #[.int .i64 0, .string ⟨#[]⟩] 23 23 23
    have HZ := Lib.hid (Z.later hb)
    have HB := Lib.hid (below_old (below_old (below_old hb)))
    have hz : w.heap.size + 1 + 1 < w1.heap.size := by have := hb.size; simp at this; omega
    have hz0 : w.heap.size + 1 < w1.heap.size := by omega
    have hz1 : w.heap.size < w1.heap.size := by omega
    obtain ⟨z0, z1, f0, f1⟩ := HZ.out.two
    clear hb X Y Z hr hbad
    go_wp2_with fail
    refine (errno_err s _).mono ?_
    rintro e w2 ⟨rfl, rfl⟩
    go_wp2_with fail
    refine bodyPost_ret (v := .tuple #[hV 0 [], .int .i64 70]) (by simp [results, Try.results23, go_sem, z0, z1, bs_nil, hz, hz0, hz1]) rfl ⟨rfl, ?_⟩
    exact below_al (below_al ((HB.out.setCell (by show w.heap.size ≤ w.heap.size + 1 + 1; omega) _).setCell (by show w.heap.size ≤ w.heap.size + 1 + 1; omega) _) _) _
set_option maxRecDepth 100000 in
set_option maxHeartbeats 2000000 in
theorem merge_in (B : Nat) (l m : List Nat) (w : World) (hr : rightF B l = true) (hm : rightF B m = true) :
    CallsIn Fence.wide 6 Try.prog 23 #[hV B l, hV B m] w (HRes w ⟨B, mergeF l m, 0⟩) := by
  have HR := Lib.hid hr
  have HM := Lib.hid hm
  have hL := right_bytes hr
  have hM := right_bytes hm
  clear hr hm
  refine callsIn_of_wp_marks Try.func23 rfl trivial ?_ rfl
  simp only [Try.ntmps23, List.size_toArray, List.length_cons, List.length_nil, Nat.reduceAdd, Nat.reduceSub, Array.replicate_succ, Array.replicate_zero, List.push_toArray, List.append_toArray, List.nil_append, List.cons_append]
  refine wpIn_wide.2 ?_
  go_wp2_with fail
  refine (begin_any B l hL _).mono ?_
  rintro e w1 ⟨hb, ⟨hr, g, cap, hg, rfl, hBy⟩ | ⟨hr, s, rfl⟩⟩
  rotate_left
  · exact absurd HR.out (by simp [hr])
  obtain ⟨X, Y, Z⟩ := three_new w #[.int .i64 B, .string (bs l)] #[.int .i64 B, .string (bs m)] #[.int .i64 0, .string ⟨#[]⟩] 23 23 23
  have HX := Lib.hid (X.later hb)
  have HY := Lib.hid (Y.later hb)
  have HZ := Lib.hid (Z.later hb)
  have HB := Lib.hid (below_old (below_old (below_old hb)))
  have hz : w.heap.size + 1 + 1 < w1.heap.size := by have := hb.size; simp at this; omega
  have hz0 : w.heap.size + 1 < w1.heap.size := by omega
  have hz1 : w.heap.size < w1.heap.size := by omega
  have hg1 : w.heap.size + 1 + 1 < g := by simp at hg; omega
  have hg2 := hBy.lt
  have HBy := Lib.hid hBy
  obtain ⟨x0, x1, _, _⟩ := HX.out.two
  obtain ⟨y0, y1, _, _⟩ := HY.out.two
  clear hb hBy X Y Z hr hg
  go_wp2_with fail
  refine (right_any B m hM _).mono ?_
  rintro e w2 ⟨rfl, hb2⟩
  have HW2 := Lib.hid ((Blk.new w1 49 (workV B (bs l) g l.length cap)).later hb2)
  have HY2 := Lib.hid ((HY.out.alloc _).later hb2)
  have HX2 := Lib.hid ((HX.out.alloc _).later hb2)
  have HZ2 := Lib.hid ((HZ.out.alloc _).later hb2)
  have HBy2 := Lib.hid ((HBy.out.alloc _).later hb2)
  have HB2 := Lib.hid (HB.out.trans ((below_old hb2).mono HB.out.size))
  have hs2 : w1.heap.size + 1 ≤ w2.heap.size := by have := hb2.size; simpa using this
  clear hb2 x0 x1 y0 y1 HX HY HZ HB HBy
  obtain ⟨x0, x1, _, _⟩ := HX2.out.two
  obtain ⟨y0, y1, _, _⟩ := HY2.out.two
  rw [HM.out]
  go_wp2_with fail
  refine (ranks_any _ _).mono ?_
  rintro e w' ⟨rfl, rfl⟩
  go_wp2_with fail
  have hR : Blk (w2.alloc (.cells #[.string (bs m)] 9)) w2.heap.size 9 #[.string (bs m)] := Blk.new _ _ _
  have HW3 := Lib.hid (HW2.out.alloc (.cells #[.string (bs m)] 9))
  have HZ3 := Lib.hid (HZ2.out.alloc (.cells #[.string (bs m)] 9))
  have HBy3 := Lib.hid (HBy2.out.alloc (.cells #[.string (bs m)] 9))
  have HB3 := Lib.hid (below_al HB2.out (.cells #[.string (bs m)] 9))
  have hs3 : (w2.alloc (.cells #[.string (bs m)] 9)).heap.size = w2.heap.size + 1 := by simp
  clear x0 x1 y0 y1 HX2 HY2 HW2 HZ2 HBy2 HB2
  generalize w2.alloc (.cells #[.string (bs m)] 9) = V at *
  obtain ⟨zs, hzs⟩ := exists_at (N := m.length) (List.range m.length) (fun p hp => List.mem_range.1 hp)
  have HZS := Lib.hid hzs
  obtain ⟨b1, b2, hl, hkl⟩ := right_nat HR.out
  obtain ⟨_, _, hml, hkm⟩ := right_nat HM.out
  have hlm : m.length = l.length := by rw [hl, hml]
  have hl0 : 0 < l.length := by rw [hl]; exact Nat.two_pow_pos _
  have hl256 : l.length ≤ 256 := by rw [hl]; exact (pow_bd b1 b2).2
  have hm256 : m.length ≤ 256 := by rw [hlm]; exact hl256
  have HLM := Lib.hid hlm
  have HKL : Hid (Ranks B l) := hkl
  have HKM : Hid (Ranks B m) := hkm
  have hst : MgI V m.length B g w1.heap.size cap (bs l) l m [] V := ⟨HBy3.out, HW3.out, grow_refl _ _⟩
  clear hzs hl hml hlm hkl hkm
  refine (wpIn_wide (n := 6)).1 ?_
  refine wpIn_rangeFunc_ownF rfl (by omega) (gf := 42) (lb := #[.pointer (some ⟨w2.heap.size, 0, none⟩)]) rfl trivial (enters_of Try.func42 (by kernel_rfl) rfl)
    (ranks_stops 5 (by omega) w2.heap.size g m hM zs HZS.out (by omega) V (by omega) hR)
    (fun h k => keepBut_t h k) (keepBut_b (by omega)) (Below.refl _ _) (fun _ => rfl)
    (MgI V m.length B g w1.heap.size cap (bs l) l m) (fun _ _ _ => False) (MgI_own hl0 (by omega)) (fun _ _ _ _ _ h _ _ => h) hst
    (fun x => { tmps := #[hV B l, hV B m, .pointer (some ⟨w.heap.size, 0, none⟩), .pointer (some ⟨w.heap.size + 1, 0, none⟩), .pointer (some ⟨w.heap.size + 1 + 1, 0, none⟩), .int .i64 0, .pointer (some ⟨w1.heap.size, 0, none⟩), .nilIface, .int .i64 (x.1 : Int), .int .u8 ((byt m x.1 : Nat) : Int),
      .tuple #[.agg (workV B (bs l) g l.length cap), .nilIface], .agg #[.int .i64 B, .string (bs l)], .tuple #[.agg (workV B (bs l) g l.length cap), .nilIface], .agg (workV B (bs l) g l.length cap), .nilIface, .nilIface, .bool true,
      .bool true, .agg #[.int .i64 B, .string (bs m)], .bool true, .bool false, .bool false, .pointer (some ⟨w.heap.size + 1, 0, none⟩), .int .i64 B, .pointer (some ⟨w.heap.size, 0, none⟩), .int .i64 B, .bool false, .bool false, .bool false, undef, undef, .nilIface, .bool false, undef, undef, undef,
      .pointer (some ⟨w.heap.size + 1, 1, none⟩), .string (bs m), .func (.func 42) #[] #[.pointer (some ⟨w2.heap.size, 0, none⟩)], .int .i64 (x.1 : Int), .int .u8 ((byt m x.1 : Nat) : Int), undef, undef, undef, undef, undef, undef], defers := [] }) ?assign ?body ?done ?stop
  case assign =>
    intro l x W K hK
    gi_wp2
    exact hK
  case body =>
    rintro l' pre ⟨p, hp⟩ W ⟨hG, hw, hgr⟩ hlt
    have hv := byt_lt hM p
    obtain ⟨L, hL'⟩ : ∃ L, mrg l m (pre.map (·.1)) = L := ⟨_, rfl⟩
    have HLs : Hid (mrg l m ((pre ++ [(⟨p, hp⟩ : At m.length)]).map (·.1)) = tellF L p (byt m p)) := by
      show _ = _
      rw [List.map_append, ← hL']
      exact mrg_snoc l m _ p
    have HLL : Hid (L.length = l.length) := by show L.length = _; rw [← hL']; exact length_mrg _ _ _
    rw [hL'] at hG
    clear hL'
    have hat : p < L.length := by rw [HLL.out, ← HLM.out]; exact hp
    have HW := Lib.hid hw
    have HG := Lib.hid hG
    have hzW := hgr.size
    obtain ⟨c0, c1, c2, c3⟩ := hw.four
    have HGR := Lib.hid hgr
    clear hG hw hgr
    gi_wp2_with fail
    refine ⟨trivial, ?_⟩
    have HT : Hid (Calls Try.prog 38 #[.agg (workV B (bs l) g l.length cap), .int .i64 (p : Int), .int .u8 ((byt m p : Nat) : Int)] W fun e w' => (∃ v, e = .returned v) ∧ By w' g (tellF L p (byt m p)) ∧ W.grownBy w' (some g)) := by
      have := tell_any B (bs l) g cap p (byt m p) L W hat (by rw [HLL.out]; omega) HG.out
      rw [HLL.out] at this
      exact this
    refine (CallsIn.inRound l' (callsIn_wide.2 HT.out)).mono ?_
    rintro e W2 ⟨⟨v, rfl⟩, hB2, hg2⟩
    gi_wp2_with fail
    refine ⟨KeepsOthers.of_grownBy hg2 (fun j o e ho => by cases e; exact HG.out.cells_ (by omega) ho), keepBut_grow (by omega) hg2, ?_, HW.out.grown hg2 (fun e => by injection e with e; omega), grow_trans HGR.out hg2⟩
    · rw [HLs.out]; exact hB2
  case done =>
    rintro D ys W hD rfl ⟨hG, hw, hgr⟩ hK
    rw [HZS.out] at hG
    obtain ⟨c0, c1, c2, c3⟩ := hw.four
    have HG : Hid (By W g (mergeF l m)) := hG
    have HL2 : Hid ((mergeF l m).length = l.length) := length_mrg _ _ _
    have HBY2 : Hid (Bytes (mergeF l m)) := (Ranks.mrg HKL.out HKM.out _).bytes
    have HZ4 := Lib.hid (HZ3.out.grown hgr (fun e => by injection e with e; omega))
    have HB4 := Lib.hid (HB3.out.grown hgr HB3.out.size (fun k e => by cases e; omega))
    have hz4 := hgr.size
    clear hG hw hgr
    generalize mergeF l m = L at *
    go_wp2_with fail
    refine (done_n B (bs l) g l.length cap L HL2.out W HBY2.out HG.out).mono ?_
    rintro e w3 ⟨rfl, hb3⟩
    have hZ5 := HZ4.out.later hb3
    obtain ⟨y0, y1, f0, f1⟩ := hZ5.two
    have hK3 : ((w3.setCell ⟨w.heap.size + 1 + 1, 0, none⟩ (.int .i64 B)).setCell ⟨w.heap.size + 1 + 1, 1, none⟩ (.string (bs L))).heap[D]? = some (.deferred (some [])) := by
      rw [Below.heap_setCell _ _ _ _ (show D ≠ w.heap.size + 1 + 1 by omega), Below.heap_setCell _ _ _ _ (show D ≠ w.heap.size + 1 + 1 by omega), hb3.block D (heap_lt hK)]
      exact hK
    have HB5 : Hid (Below w.heap.size w ((w3.setCell ⟨w.heap.size + 1 + 1, 0, none⟩ (.int .i64 B)).setCell ⟨w.heap.size + 1 + 1, 1, none⟩ (.string (bs L)))) :=
      ((HB4.out.trans (hb3.mono HB4.out.size)).setCell (by show w.heap.size ≤ w.heap.size + 1 + 1; omega) _).setCell (by show w.heap.size ≤ w.heap.size + 1 + 1; omega) _
    have HD := Lib.hid hK3
    have HZ6 : Hid (Blk ((w3.setCell ⟨w.heap.size + 1 + 1, 0, none⟩ (.int .i64 B)).setCell ⟨w.heap.size + 1 + 1, 1, none⟩ (.string (bs L))) (w.heap.size + 1 + 1) 23 #[.int .i64 B, .string (bs L)]) := (hZ5.set_ 0 _).set_ 1 _
    clear hK3 hb3 hZ5
    go_wp2_with fail
    refine ⟨by simp, .inl ⟨_, _, rfl, run_takeDeferred HD.out, ?_⟩⟩
    have hZ7 := HZ6.out.kept (grownBy_putObj' _ D (.deferred none)) (fun r e => by cases e; exact ⟨_, HD.out, rfl⟩)
    obtain ⟨q0, q1, _, _⟩ := hZ7.two
    exact ⟨.tuple #[hV B L, .int .i64 0], by simp [results, Try.results23, go_sem, q0, q1], rfl, HB5.out.trans (belowK_b (w := w) (Nat.le_refl _) _ D _ _ (by omega) HD.out rfl rfl)⟩
  case stop =>
    rintro D c pre W _ _ h _
    exact h.elim
theorem merge_any (b c : Int) (l m : List Nat) (hL : Bytes l) (hM : Bytes m) (w : World) : Calls Try.prog 23 #[hV b l, hV c m] w (HRes w (mergeH b l c m)) := by
  by_cases h : rightF b l = true ∧ rightF c m = true ∧ c = b
  · rw [mergeH, if_pos h]
    obtain ⟨h1, h2, rfl⟩ := h
    obtain ⟨B, rfl, _⟩ := right_of h1
    exact callsIn_wide.1 (merge_in B l m w h1 h2)
  · rw [mergeH, if_neg h]
    exact merge_bad b c l m hL hM w h
end Go.Proofs.Ytgbanhjjieagnaa

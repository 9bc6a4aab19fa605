/-
  label.Get: the value of a name.
-/
import Derived.Test.YtlcpigkgbihebaaDoorLabRight
namespace Go.Proofs.YtlcpigkgbihebaaDoor
open Go.RowKit
set_option linter.unusedVariables false
set_option linter.unusedSimpArgs false
attribute [local go_sem] Oper.semAt_some
/-- A name's value. -/
def getL (l : List Lab) (n : ByteArray) : ByteArray × Bool := match l.find? fun x => x.1.toList == n.toList with
  | some x => (x.2, true)
  | none => (⟨#[]⟩, false)
theorem getL_nil (n : ByteArray) : getL [] n = (⟨#[]⟩, false) := rfl
theorem getL_snoc {l : List Lab} {n : ByteArray} (h : (getL l n).2 = false) (x : Lab) : getL (l ++ [x]) n = if x.1.toList == n.toList then (x.2, true) else (⟨#[]⟩, false) := by
  unfold getL at h ⊢
  rw [List.find?_append]
  cases e : l.find? fun x => x.1.toList == n.toList with
  | some y => rw [e] at h; cases h
  | none =>
    simp only [Option.none_or, List.find?_cons, List.find?_nil]
    cases e2 : x.1.toList == n.toList <;> rfl
theorem getL_none {l : List Lab} {n : ByteArray} (h : (getL l n).2 = false) : getL l n = (⟨#[]⟩, false) := by
  unfold getL at h ⊢
  cases e : l.find? fun x => x.1.toList == n.toList with
  | some y => rw [e] at h; cases h
  | none => rfl
theorem getL_more {l : List Lab} {n : ByteArray} (h : (getL l n).2 = true) (t : List Lab) : getL (l ++ t) n = getL l n := by
  unfold getL at h ⊢
  rw [List.find?_append]
  cases e : l.find? fun x => x.1.toList == n.toList with
  | some y => rfl
  | none => rw [e] at h; cases h
def GtI (w : World) (n : ByteArray) (l : List Lab) (pre : List (At l.length)) (W : World) : Prop :=
  Blk W w.heap.size 9 #[.string n] ∧ Blk W (w.heap.size + 1) 9 #[.string ⟨#[]⟩] ∧ Blk W (w.heap.size + 1 + 1) 4 #[.bool false] ∧ (getL (mapL l pre) n).2 = false ∧ Below w.heap.size w W
def GtX (w : World) (n : ByteArray) (l : List Lab) (c : Code) (pre : List (At l.length)) (W : World) : Prop :=
  c = .ret ∧ Blk W (w.heap.size + 1) 9 #[.string (getL (mapL l pre) n).1] ∧ Blk W (w.heap.size + 1 + 1) 4 #[.bool true] ∧ (getL (mapL l pre) n).2 = true ∧ Below w.heap.size w W
theorem GtI_own {w : World} {n : ByteArray} {l : List Lab} {Bd : Nat} (hB : w.heap.size ≤ Bd) : OwnFrom Bd (GtI w n l) := by
  rintro s W W' row ⟨h1, h2, h3, h5, h4⟩ hg hr
  exact ⟨h1.kept hg (fun r e => (hr r e).2), h2.kept hg (fun r e => (hr r e).2), h3.kept hg (fun r e => (hr r e).2), h5, h4.grown hg h4.size (fun k e => Nat.le_trans hB (hr k e).1)⟩
theorem GtX_own {w : World} {n : ByteArray} {l : List Lab} {c : Code} {Bd : Nat} (hB : w.heap.size ≤ Bd) : OwnFrom Bd (GtX w n l c) := by
  rintro s W W' row ⟨h0, h1, h2, h3, h4⟩ hg hr
  exact ⟨h0, h1.kept hg (fun r e => (hr r e).2), h2.kept hg (fun r e => (hr r e).2), h3, h4.grown hg h4.size (fun k e => Nat.le_trans hB (hr k e).1)⟩
set_option maxRecDepth 100000 in
set_option maxHeartbeats 4000000 in
theorem get_in (A : Option Addr) (l : List Lab) (cap : Nat) (n : ByteArray) (h6 : l.length ≤ 4294967296) (w : World) (hS : Lb w w.heap.size A l) :
    CallsIn Fence.wide 6 Tryd.prog 21 #[.slice A l.length cap, .string n] w fun e w' => e = .returned (.tuple #[.string (getL l n).1, .bool (getL l n).2]) ∧ Below w.heap.size w w' := by
  have T : Below w.heap.size w (((w.alloc (.cells #[.string n] 9)).alloc (.cells #[.string ⟨#[]⟩] 9)).alloc (.cells #[.bool false] 4)) := below_al (below_al (below_al (below_0 _) _) _) _
  have X := Lib.hid (((Blk.new w 9 #[.string n]).alloc (.cells #[.string ⟨#[]⟩] 9)).alloc (.cells #[.bool false] 4))
  have Y := Lib.hid ((blk_new2 w (.cells #[.string n] 9) 9 #[.string ⟨#[]⟩]).alloc (.cells #[.bool false] 4))
  have Y2 := Lib.hid (blk_new3 w (.cells #[.string n] 9) (.cells #[.string ⟨#[]⟩] 9) 4 #[.bool false])
  have HS := Lib.hid (ls_later hS T)
  have NE : Hid (l.length ≠ 0 → ∀ ad, A = some ad → ad.block < w.heap.size) := fun h ad e => by
    obtain ⟨b, off, e', hb, _⟩ := hS.at_ (by omega)
    rw [e'] at e; cases e; exact hb
  clear hS
  refine callsIn_of_wp_marks Tryd.func21 rfl trivial ?_ rfl
  simp only [Tryd.ntmps21, List.size_toArray, List.length_cons, List.length_nil, Nat.reduceAdd, Nat.reduceSub, Array.replicate_succ, Array.replicate_zero, List.push_toArray, List.append_toArray, List.nil_append, List.cons_append]
  refine wpIn_wide.2 ?_
  go_wp2_with fail
  generalize ((w.alloc (.cells #[.string n] 9)).alloc (.cells #[.string ⟨#[]⟩] 9)).alloc (.cells #[.bool false] 4) = w1 at *
  refine (each_any _ _ _ _).mono ?_
  rintro e w' ⟨rfl, rfl⟩
  have hba := below_al (below_0 w1) (.cells #[.slice A l.length cap] 23)
  have Z := Lib.hid (Blk.new w1 23 #[.slice A l.length cap])
  have WZ := Lib.hid Y2.out.lt
  replace X := Lib.hid (X.out.later hba)
  replace Y := Lib.hid (Y.out.later hba)
  replace Y2 := Lib.hid (Y2.out.later hba)
  replace HS := Lib.hid (ls_later HS.out hba)
  replace T := Below.two T hba
  clear hba
  go_wp2_with fail
  generalize w1.alloc (.cells #[.slice A l.length cap] 23) = V at *
  have xz := X.out.lt
  have yz := Y.out.lt
  have yz2 := Y2.out.lt
  have wz := WZ.out
  have vz := Z.out.lt
  obtain ⟨zs, hzs⟩ := exists_at (N := l.length) (List.range l.length) (fun p hp => List.mem_range.1 hp)
  have HZ := Lib.hid hzs
  have hst : GtI w n l [] V := ⟨X.out, Y.out, Y2.out, rfl, T⟩
  clear hzs
  refine (wpIn_wide (n := 6)).1 ?_
  refine rangeFunc_box rfl (by omega) (gf := 73) (lb := #[.pointer (some ⟨w1.heap.size, 0, none⟩)]) rfl trivial (enters_of Tryd.func73 (by kernel_rfl) rfl)
    (values_stops 5 (by omega) w1.heap.size cap (fun i => i ≠ w.heap.size + 1 ∧ i ≠ w.heap.size + 1 + 1) A l zs HZ.out (by omega) V ⟨by omega, by omega⟩ (fun h ad e => by have := NE.out h ad e; exact ⟨by omega, by omega⟩) Z.out HS.out)
    (fun h k => keepP_t h k) (keepP_b (by omega)) (fun W o h => keepP_below (by omega) (below_al (below_0 W) o)) (Below.refl _ _) (fun _ => rfl)
    (GtI w n l) (GtX w n l) (GtI_own (by omega)) (fun c => GtX_own (by omega)) hst
    (fun x b => { tmps := #[.slice A l.length cap, .string n, undef, .pointer (some ⟨w.heap.size, 0, none⟩), .pointer (some ⟨w.heap.size + 1, 0, none⟩), .pointer (some ⟨w.heap.size + 1 + 1, 0, none⟩), .pointer (some ⟨b, 0, none⟩), .slice A l.length cap,
      .func (.func 73) #[] #[.pointer (some ⟨w1.heap.size, 0, none⟩)], .agg #[.string (lth l x.1).1, .string (lth l x.1).2], undef, undef, undef, undef, undef, undef], defers := [] })
    (fun x => .cells #[.string (lth l x.1).1, .string (lth l x.1).2] 41) ?assign ?body ?done ?stop
  case assign =>
    intro l x W K hK
    gi_wp2
    exact hK
  case body =>
    rintro l' pre x W b ⟨hX, hY, hY2, hall, hb⟩ hbz hN hlt
    have HX := Lib.hid hX
    have HY := Lib.hid hY
    have HY2 := Lib.hid hY2
    have HN : Hid (Blk W b 41 #[.string (lth l x.1).1, .string (lth l x.1).2]) := hN
    have HB := Lib.hid hb
    have HG2 : Hid (getL (mapL l (pre ++ [x])) n = if (lth l x.1).1.toList == n.toList then ((lth l x.1).2, true) else (⟨#[]⟩, false)) := by show _ = _; rw [mapL_snoc, getL_snoc hall]
    have KO : KeepsOthers W W := KeepsOthers.refl _
    clear hX hY hY2 hN hb hall
    generalize lth l x.1 = it at *
    have x0 := HX.out.one
    have n0 := HN.out.p0
    have n1 := HN.out.p1
    have fy := HY.out.frozen 0
    have fy2 := HY2.out.frozen 0
    have y0 := HY.out.one
    have y2 := HY2.out.one
    have zx := HX.out.lt
    have zy := HY.out.lt
    have zy2 := HY2.out.lt
    have zn := HN.out.lt
    cases c1 : it.1.toList == n.toList with
    | true =>
      have HR : Hid (getL (mapL l (pre ++ [x])) n = (it.2, true)) := by show _ = _; rw [HG2.out, c1]; rfl
      gi_wp2_with fail
      refine ⟨(KO.trans (KeepsOthers.setCell _ _ _)).trans (KeepsOthers.setCell _ _ _), rfl, ?_, ?_, ?_, ?_⟩
      · rw [HR.out]; exact (HY.out.set_ 0 _).far (by show w.heap.size + 1 ≠ w.heap.size + 1 + 1; omega) _
      · exact (HY2.out.far (by show w.heap.size + 1 + 1 ≠ w.heap.size + 1; omega) _).set_ 0 _
      · rw [HR.out]
      · exact (HB.out.setCell (Nat.le_succ _) _).setCell (by show w.heap.size ≤ w.heap.size + 1 + 1; omega) _
    | false =>
      have HR : Hid (getL (mapL l (pre ++ [x])) n = (⟨#[]⟩, false)) := by show _ = _; rw [HG2.out, c1]; rfl
      gi_wp2_with fail
      exact ⟨KO, keepP_refl _ _ _, HX.out, HY.out, HY2.out, by rw [HR.out], HB.out⟩
  case done =>
    rintro D ys W hD rfl ⟨hX, hY, hY2, hall, hb⟩ hK
    have HE : Hid (getL l n = (⟨#[]⟩, false)) := by
      show _ = _
      rw [mapL_all HZ.out] at hall
      exact getL_none hall
    have fy := hY.frozen 0
    have fy2 := hY2.frozen 0
    have y0 := hY.one
    have y2 := hY2.one
    have zy := hY.lt
    have zy2 := hY2.lt
    have HY := Lib.hid hY
    have HY2 := Lib.hid hY2
    have HB := Lib.hid hb
    have HK := Lib.hid hK
    clear hX hall hY hY2 hb hK
    go_wp2_with fail
    try rw [Exit.noGoto_ret]
    have hK2 : ((W.setCell ⟨w.heap.size + 1, 0, none⟩ (.string ⟨#[]⟩)).setCell ⟨w.heap.size + 1 + 1, 0, none⟩ (.bool false)).heap[D]? = some (.deferred (some [])) :=
      (Below.heap_setCell _ ⟨w.heap.size + 1 + 1, 0, none⟩ _ D (by show D ≠ w.heap.size + 1 + 1; omega)).trans ((Below.heap_setCell W ⟨w.heap.size + 1, 0, none⟩ _ D (by show D ≠ w.heap.size + 1; omega)).trans HK.out)
    refine ⟨by simp, .inl ⟨_, _, rfl, run_takeDeferred hK2, ?_⟩⟩
    have hb2 : Below w.heap.size w ((W.setCell ⟨w.heap.size + 1, 0, none⟩ (.string ⟨#[]⟩)).setCell ⟨w.heap.size + 1 + 1, 0, none⟩ (.bool false)) := (HB.out.setCell (Nat.le_succ _) _).setCell (by show w.heap.size ≤ w.heap.size + 1 + 1; omega) _
    have B1 : Blk ((W.setCell ⟨w.heap.size + 1, 0, none⟩ (.string ⟨#[]⟩)).setCell ⟨w.heap.size + 1 + 1, 0, none⟩ (.bool false)) (w.heap.size + 1) 9 #[.string ⟨#[]⟩] := (HY.out.set_ 0 _).far (by show w.heap.size + 1 ≠ w.heap.size + 1 + 1; omega) _
    have B2 : Blk ((W.setCell ⟨w.heap.size + 1, 0, none⟩ (.string ⟨#[]⟩)).setCell ⟨w.heap.size + 1 + 1, 0, none⟩ (.bool false)) (w.heap.size + 1 + 1) 4 #[.bool false] := (HY2.out.far (by show w.heap.size + 1 + 1 ≠ w.heap.size + 1; omega) _).set_ 0 _
    generalize (W.setCell ⟨w.heap.size + 1, 0, none⟩ (.string ⟨#[]⟩)).setCell ⟨w.heap.size + 1 + 1, 0, none⟩ (.bool false) = W4 at *
    have hd1 : w.heap.size + 1 ≠ D := by omega
    have hd2 : w.heap.size + 1 + 1 ≠ D := by omega
    have hbK := belowK_b (w := w) (Nat.le_refl _) W4 D _ (.deferred none) (by omega) hK2 rfl rfl
    have q1 : (W4.putObj D (.deferred none)).cell? ⟨w.heap.size + 1, 0, none⟩ = some (.string ⟨#[]⟩) := (World.cell?_of_block (World.putObj_heap_other (by first | exact hd1 | exact hd1.symm | exact hd2 | exact hd2.symm))).trans B1.one
    have q2 : (W4.putObj D (.deferred none)).cell? ⟨w.heap.size + 1 + 1, 0, none⟩ = some (.bool false) := (World.cell?_of_block (World.putObj_heap_other (by first | exact hd1 | exact hd1.symm | exact hd2 | exact hd2.symm))).trans B2.one
    exact ⟨.tuple #[.string ⟨#[]⟩, .bool false], by simp [results, Tryd.results21, go_sem, q1, q2], by rw [HE.out], hb2.trans hbK⟩
  case stop =>
    rintro D c' pre W hD hpre ⟨rfl, hY, hY2, hall, hb⟩ hK
    have HE : Hid (getL l n = ((getL (mapL l pre) n).1, true)) := by
      show _ = _
      obtain ⟨t, ht⟩ := mapL_pre HZ.out hpre
      have : getL l n = getL (mapL l pre) n := by conv => lhs; rw [ht]
                                                  exact getL_more hall t
      rw [this]
      exact Prod.ext rfl hall
    have y0 := hY.one
    have y1 := hY2.one
    clear hall
    refine wpIn_wide.2 ?_
    go_wp2_with fail
    try rw [Exit.noGoto_ret]
    refine ⟨by simp, .inl ⟨_, _, rfl, run_takeDeferred hK, ?_⟩⟩
    have hd1 : w.heap.size + 1 ≠ D := by omega
    have hd2 : w.heap.size + 1 + 1 ≠ D := by omega
    have hbK := belowK_b (w := w) (Nat.le_refl _) W D _ (.deferred none) (by omega) hK rfl rfl
    have q1 : (W.putObj D (.deferred none)).cell? ⟨w.heap.size + 1, 0, none⟩ = _ := (World.cell?_of_block (World.putObj_heap_other (by first | exact hd1 | exact hd1.symm | exact hd2 | exact hd2.symm))).trans y0
    have q2 : (W.putObj D (.deferred none)).cell? ⟨w.heap.size + 1 + 1, 0, none⟩ = some (.bool true) := (World.cell?_of_block (World.putObj_heap_other (by first | exact hd1 | exact hd1.symm | exact hd2 | exact hd2.symm))).trans y1
    exact ⟨.tuple #[.string (getL (mapL l pre) n).1, .bool true], by simp [results, Tryd.results21, go_sem, q1, q2], by rw [HE.out], hb.trans hbK⟩
theorem get_any (A : Option Addr) (l : List Lab) (cap : Nat) (n : ByteArray) (h6 : l.length ≤ 4294967296) (w : World) (hS : Lb w w.heap.size A l) :
    Calls Tryd.prog 21 #[.slice A l.length cap, .string n] w fun e w' => e = .returned (.tuple #[.string (getL l n).1, .bool (getL l n).2]) ∧ Below w.heap.size w w' := callsIn_wide.1 (get_in A l cap n h6 w hS)
end Go.Proofs.YtlcpigkgbihebaaDoor

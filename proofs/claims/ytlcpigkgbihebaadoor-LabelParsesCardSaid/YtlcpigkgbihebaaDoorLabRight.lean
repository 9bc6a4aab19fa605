/-
  label.Right: which labels are a set.
-/
import Derived.Test.YtlcpigkgbihebaaDoorLabWalk1
import Derived.Test.YtlcpigkgbihebaaDoorLabIter
import Derived.Test.YtlcpigkgbihebaaDoorRangeBox
namespace Go.Proofs.YtlcpigkgbihebaaDoor
open Go.RowKit
set_option linter.unusedVariables false
set_option linter.unusedSimpArgs false
attribute [local go_sem] Oper.semAt_some
theorem ls_later {w w' : World} {A : Option Addr} {l : List Lab} (h : Lb w w.heap.size A l) (hb : Below w.heap.size w w') : Lb w' w'.heap.size A l := Lb.later h hb
def leqB (a b : List UInt8) : Bool := Op.bytesLess a b || a == b
/-- May a label stand behind one of that name? -/
def okStep (pv : List UInt8) (x : Lab) : Bool := nameB (tx x.1) && (!(leqB (tx x.1) pv) && valueB (tx x.2))
def chainB : List UInt8 → List Lab → Bool
  | _, [] => true
  | pv, x :: l => okStep pv x && chainB (tx x.1) l
/-- Are labels a set? -/
def setB (l : List Lab) : Bool := decide (1 ≤ l.length) && decide (l.length ≤ 6) && chainB [] l
def lastNm (l : List Lab) : ByteArray := (l.getLast?).elim ⟨#[]⟩ fun p => p.1
theorem lastNm_snoc (l : List Lab) (x : Lab) : lastNm (l ++ [x]) = x.1 := by simp [lastNm]
theorem chainB_snoc : ∀ (l : List Lab) (pv : List UInt8) (x : Lab), chainB pv (l ++ [x]) = (chainB pv l && okStep ((l.getLast?).elim pv fun p => tx p.1) x)
  | [], pv, x => by simp [chainB]
  | y :: l, pv, x => by
    rw [List.cons_append, chainB, chainB, chainB_snoc l (tx y.1) x, Bool.and_assoc]
    congr 3
    cases l with
    | nil => rfl
    | cons z l =>
      rw [List.getLast?_cons_cons]
      cases e : (z :: l).getLast? with
      | none => simp at e
      | some q => rfl
theorem chainB_last (l : List Lab) (x : Lab) : chainB [] (l ++ [x]) = (chainB [] l && okStep (tx (lastNm l)) x) := by
  rw [chainB_snoc]
  congr 2
  unfold lastNm
  cases l.getLast? <;> rfl
theorem chainB_more : ∀ (l t : List Lab) (pv : List UInt8), chainB pv l = false → chainB pv (l ++ t) = false
  | [], _, _, h => by simp [chainB] at h
  | y :: l, t, pv, h => by
    rw [List.cons_append, chainB]
    rw [chainB] at h
    cases e : okStep pv y with
    | false => rfl
    | true => rw [e] at h; rw [Bool.true_and] at h ⊢; exact chainB_more l t _ h
/-- The labels at places. -/
def mapL {N : Nat} (l : List Lab) (pre : List (At N)) : List Lab := pre.map fun p => lth l p.1
theorem mapL_snoc {N : Nat} (l : List Lab) (pre : List (At N)) (x : At N) : mapL l (pre ++ [x]) = mapL l pre ++ [lth l x.1] := by simp [mapL]
theorem mapL_all {l : List Lab} {zs : List (At l.length)} (hz : zs.map (·.1) = List.range l.length) : mapL l zs = l := by
  have : mapL l zs = (zs.map (·.1)).map (lth l) := by simp [mapL]
  rw [this, hz]
  apply List.ext_getElem?
  intro i
  by_cases h : i < l.length
  · simp [h, lth]
  · simp [h]
theorem mapL_pre {l : List Lab} {zs pre : List (At l.length)} (hz : zs.map (·.1) = List.range l.length) (hp : pre <+: zs) : ∃ t, l = mapL l pre ++ t := by
  obtain ⟨t, rfl⟩ := hp
  exact ⟨mapL l t, (mapL_all hz).symm.trans (by simp [mapL])⟩
def RgI (w : World) (l : List Lab) (pre : List (At l.length)) (W : World) : Prop :=
  Blk W w.heap.size 4 #[.bool true] ∧ Blk W (w.heap.size + 1) 9 #[.string (lastNm (mapL l pre))] ∧ chainB [] (mapL l pre) = true ∧ Below w.heap.size w W
def RgX (w : World) (l : List Lab) (c : Code) (pre : List (At l.length)) (W : World) : Prop :=
  c = .exit 0 ∧ Blk W w.heap.size 4 #[.bool false] ∧ chainB [] (mapL l pre) = false ∧ Below w.heap.size w W
theorem RgI_own {w : World} {l : List Lab} {Bd : Nat} (hB : w.heap.size ≤ Bd) : OwnFrom Bd (RgI w l) := by
  rintro s W W' row ⟨h1, h2, h3, h4⟩ hg hr
  exact ⟨h1.kept hg (fun r e => (hr r e).2), h2.kept hg (fun r e => (hr r e).2), h3, h4.grown hg h4.size (fun k e => Nat.le_trans hB (hr k e).1)⟩
theorem RgX_own {w : World} {l : List Lab} {c : Code} {Bd : Nat} (hB : w.heap.size ≤ Bd) : OwnFrom Bd (RgX w l c) := by
  rintro s W W' row ⟨h0, h1, h2, h4⟩ hg hr
  exact ⟨h0, h1.kept hg (fun r e => (hr r e).2), h2, h4.grown hg h4.size (fun k e => Nat.le_trans hB (hr k e).1)⟩
theorem keepP_set {n₀ : Nat} {p : Nat → Prop} {w : World} {g o : Nat} {u : Value} (hp : ¬ p g) : KeepP n₀ p w (w.setCell ⟨g, o, none⟩ u) :=
  ⟨by simp [World.setCell], fun i _ hi => Below.heap_setCell w ⟨g, o, none⟩ u i (by rintro rfl; exact hp hi)⟩
set_option maxRecDepth 100000 in
set_option maxHeartbeats 4000000 in
theorem right_in (A : Option Addr) (l : List Lab) (cap : Nat) (h1 : 1 ≤ l.length) (h6 : l.length ≤ 6) (hs : ∀ x ∈ l, (x.2).size ≤ 4294967296) (w : World) (hT : Tb w) (hS : Lb w w.heap.size A l) :
    CallsIn Fence.wide 6 Tryd.prog 19 #[.slice A l.length cap] w fun e w' => e = .returned (.bool (setB l)) ∧ Below w.heap.size w w' := by
  have T : Below w.heap.size w ((w.alloc (.cells #[.bool true] 4)).alloc (.cells #[.string ⟨#[]⟩] 9)) := below_al (below_al (below_0 _) _) _
  have X := Lib.hid ((Blk.new w 4 #[.bool true]).alloc (.cells #[.string ⟨#[]⟩] 9))
  have Y := Lib.hid (blk_new2 w (.cells #[.bool true] 4) 9 #[.string ⟨#[]⟩])
  have HS := Lib.hid (ls_later hS T)
  have HT := Lib.hid hT
  have NE : Hid (l.length ≠ 0 → ∀ ad, A = some ad → ad.block < w.heap.size) := fun h ad e => by
    obtain ⟨b, off, e', hb, _⟩ := hS.at_ (by omega)
    rw [e'] at e; cases e; exact hb
  have HSZ : Hid (∀ k, (lth l k).2.size ≤ 4294967296) := fun k => by
    unfold lth
    cases e : l[k]? with
    | none => simp
    | some x => exact hs x (List.mem_of_getElem? e)
  clear hS hT hs
  have d1 : ((l.length : Int) == 0) = false := by rw [beq_eq_false_iff_ne]; omega
  have d1' : (l.length == 0) = false := by rw [beq_eq_false_iff_ne]; omega
  have d6 : decide ((6 : Int) < (l.length : Int)) = false := by simp; omega
  have d6' : decide (6 < l.length) = false := by simp; omega
  refine callsIn_of_wp_marks Tryd.func19 rfl trivial ?_ rfl
  simp only [Tryd.ntmps19, List.size_toArray, List.length_cons, List.length_nil, Nat.reduceAdd, Nat.reduceSub, Array.replicate_succ, Array.replicate_zero, List.push_toArray, List.append_toArray, List.nil_append, List.cons_append]
  refine wpIn_wide.2 ?_
  go_wp2_with fail
  go_step3
  go_wp2_with fail
  go_step3
  generalize (w.alloc (.cells #[.bool true] 4)).alloc (.cells #[.string ⟨#[]⟩] 9) = w1 at *
  go_wp2_with fail
  refine (each_any _ _ _ _).mono ?_
  rintro e w' ⟨rfl, rfl⟩
  have hba := below_al (below_0 w1) (.cells #[.slice A l.length cap] 23)
  have Z := Lib.hid (Blk.new w1 23 #[.slice A l.length cap])
  have WZ := Lib.hid Y.out.lt
  replace X := Lib.hid (X.out.later hba)
  replace Y := Lib.hid (Y.out.later hba)
  replace HS := Lib.hid (ls_later HS.out hba)
  replace T := Below.two T hba
  clear hba
  go_wp2_with fail
  generalize w1.alloc (.cells #[.slice A l.length cap] 23) = V at *
  have xz := X.out.lt
  have yz := Y.out.lt
  have wz := WZ.out
  have vz := Z.out.lt
  obtain ⟨zs, hzs⟩ := exists_at (N := l.length) (List.range l.length) (fun p hp => List.mem_range.1 hp)
  have HZ := Lib.hid hzs
  have hst : RgI w l [] V := ⟨X.out, Y.out, rfl, T⟩
  clear hzs
  refine (wpIn_wide (n := 6)).1 ?_
  refine rangeFunc_box rfl (by omega) (gf := 73) (lb := #[.pointer (some ⟨w1.heap.size, 0, none⟩)]) rfl trivial (enters_of Tryd.func73 (by kernel_rfl) rfl)
    (values_stops 5 (by omega) w1.heap.size cap (fun i => i ≠ w.heap.size ∧ i ≠ w.heap.size + 1) A l zs HZ.out (by omega) V ⟨by omega, by omega⟩ (fun h ad e => by have := NE.out h ad e; exact ⟨by omega, by omega⟩) Z.out HS.out)
    (fun h k => keepP_t h k) (keepP_b (by omega)) (fun W o h => keepP_below (by omega) (below_al (below_0 W) o)) (Below.refl _ _) (fun _ => rfl)
    (RgI w l) (RgX w l) (RgI_own (by omega)) (fun c => RgX_own (by omega)) hst
    (fun x b => { tmps := #[.slice A l.length cap, undef, .bool false, .pointer (some ⟨w.heap.size, 0, none⟩), .pointer (some ⟨w.heap.size + 1, 0, none⟩), .pointer (some ⟨b, 0, none⟩), .slice A l.length cap, .int .i64 l.length, .bool false, .bool false, .slice A l.length cap, .int .i64 l.length, .bool false, .bool false, .slice A l.length cap,
      .func (.func 73) #[] #[.pointer (some ⟨w1.heap.size, 0, none⟩)], .agg #[.string (lth l x.1).1, .string (lth l x.1).2], undef, undef, undef, undef, undef, undef, undef, undef, undef, undef, undef, undef, undef, undef, undef, undef, undef, undef, undef], defers := [] })
    (fun x => .cells #[.string (lth l x.1).1, .string (lth l x.1).2] 41) ?assign ?body ?done ?stop
  case assign =>
    intro l x W K hK
    gi_wp2
    exact hK
  case body =>
    rintro l' pre x W b ⟨hX, hY, hall, hb⟩ hbz hN hlt
    have HX := Lib.hid hX
    have HY := Lib.hid hY
    have HN : Hid (Blk W b 41 #[.string (lth l x.1).1, .string (lth l x.1).2]) := hN
    have HB := Lib.hid hb
    have HG2 : Hid (chainB [] (mapL l (pre ++ [x])) = okStep (tx (lastNm (mapL l pre))) (lth l x.1)) := by show _ = _; rw [mapL_snoc, chainB_last, hall, Bool.true_and]
    have KO : KeepsOthers W W := KeepsOthers.refl _
    have KP : Hid (KeepP V.heap.size (fun i => i ≠ w.heap.size ∧ i ≠ w.heap.size + 1) W W) := keepP_refl _ _ _
    have HTW : Tb W := HT.out.later hb
    have HVL := HSZ.out x.1
    clear hX hY hN hb hall
    have HNX : Hid (lastNm (mapL l (pre ++ [x])) = (lth l x.1).1) := by show _ = _; rw [mapL_snoc, lastNm_snoc]
    generalize lth l x.1 = it at *
    generalize lastNm (mapL l pre) = pv at *
    obtain ⟨nm, hnm⟩ : ∃ q, nameB (tx it.1) = q := ⟨_, rfl⟩
    obtain ⟨vl, hvl⟩ : ∃ q, valueB (tx it.2) = q := ⟨_, rfl⟩
    have QN : Hid (∀ w1, Calls Tryd.prog 38 #[.string it.1] w1 fun e w' => e = .returned (.bool nm) ∧ Below w1.heap.size w1 w') := fun w1 => by have := isName_any it.1 w1; rwa [hnm] at this
    have QV : Hid (∀ w1, Tb w1 → Calls Tryd.prog 39 #[.string it.2] w1 fun e w' => e = .returned (.bool vl) ∧ Below w1.heap.size w1 w') := fun w1 h => by have := isValue_any it.2 w1 HVL h; rwa [hvl] at this
    rw [okStep, hnm, hvl] at HG2
    have HLQ : Hid (leqB (tx it.1) (tx pv) = (Op.bytesLess it.1.toList pv.toList || it.1.toList == pv.toList)) := by show _ = _; rw [tx_toList, tx_toList]; rfl
    clear hnm hvl
    cases nm with
    | false =>
      have HBAD : Hid (chainB [] (mapL l (pre ++ [x])) = false) := by show _ = _; rw [HG2.out]; rfl
      have x0 := HX.out.one
      have fx := HX.out.frozen 0
      have y0 := HY.out.one
      have fy := HY.out.frozen 0
      have n0 := HN.out.p0
      have n1 := HN.out.p1
      have zx := HX.out.lt
      have zy := HY.out.lt
      have zn := HN.out.lt
      gi_wp2_with fail
      refine ⟨trivial, ?_⟩
      refine (CallsIn.inRound l' (callsIn_wide.2 (QN.out _))).mono ?_
      rintro e W1 ⟨rfl, hb1⟩
      clear x0 fx y0 fy n0 n1 zx zy zn
      replace KP := Lib.hid (keepP_t KP.out (keepP_below (by have := HN.out.lt; omega) hb1))
      replace HX := Lib.hid (HX.out.later hb1)
      replace HY := Lib.hid (HY.out.later hb1)
      replace HN := Lib.hid (HN.out.later hb1)
      replace HB := Lib.hid (Below.two HB.out hb1)
      replace KO := KO.trans (keeps_of_below hb1)
      clear hb1
      have x0 := HX.out.one
      have fx := HX.out.frozen 0
      have y0 := HY.out.one
      have fy := HY.out.frozen 0
      have n0 := HN.out.p0
      have n1 := HN.out.p1
      have zx := HX.out.lt
      have zy := HY.out.lt
      have zn := HN.out.lt
      gi_wp2_with fail
      refine ⟨trivial, ?_⟩
      gi_wp2_with fail
      exact ⟨KO.trans (KeepsOthers.setCell _ _ _), rfl, HX.out.set_ 0 _, HBAD.out, HB.out.setCell (Nat.le_refl _) _⟩
    | true =>
      cases c1 : Op.bytesLess it.1.toList pv.toList with
      | true =>
        have HBAD : Hid (chainB [] (mapL l (pre ++ [x])) = false) := by show _ = _; rw [HG2.out, HLQ.out, c1]; simp
        have x0 := HX.out.one
        have fx := HX.out.frozen 0
        have y0 := HY.out.one
        have fy := HY.out.frozen 0
        have n0 := HN.out.p0
        have n1 := HN.out.p1
        have zx := HX.out.lt
        have zy := HY.out.lt
        have zn := HN.out.lt
        gi_wp2_with fail
        refine ⟨trivial, ?_⟩
        refine (CallsIn.inRound l' (callsIn_wide.2 (QN.out _))).mono ?_
        rintro e W1 ⟨rfl, hb1⟩
        clear x0 fx y0 fy n0 n1 zx zy zn
        replace KP := Lib.hid (keepP_t KP.out (keepP_below (by have := HN.out.lt; omega) hb1))
        replace HX := Lib.hid (HX.out.later hb1)
        replace HY := Lib.hid (HY.out.later hb1)
        replace HN := Lib.hid (HN.out.later hb1)
        replace HB := Lib.hid (Below.two HB.out hb1)
        replace KO := KO.trans (keeps_of_below hb1)
        clear hb1
        have x0 := HX.out.one
        have fx := HX.out.frozen 0
        have y0 := HY.out.one
        have fy := HY.out.frozen 0
        have n0 := HN.out.p0
        have n1 := HN.out.p1
        have zx := HX.out.lt
        have zy := HY.out.lt
        have zn := HN.out.lt
        gi_wp2_with fail
        refine ⟨trivial, ?_⟩
        gi_wp2_with fail
        exact ⟨KO.trans (KeepsOthers.setCell _ _ _), rfl, HX.out.set_ 0 _, HBAD.out, HB.out.setCell (Nat.le_refl _) _⟩
      | false =>
        cases c2 : (it.1.toList == pv.toList) with
        | true =>
          have HBAD : Hid (chainB [] (mapL l (pre ++ [x])) = false) := by show _ = _; rw [HG2.out, HLQ.out, c1, c2]; simp
          have x0 := HX.out.one
          have fx := HX.out.frozen 0
          have y0 := HY.out.one
          have fy := HY.out.frozen 0
          have n0 := HN.out.p0
          have n1 := HN.out.p1
          have zx := HX.out.lt
          have zy := HY.out.lt
          have zn := HN.out.lt
          gi_wp2_with fail
          refine ⟨trivial, ?_⟩
          refine (CallsIn.inRound l' (callsIn_wide.2 (QN.out _))).mono ?_
          rintro e W1 ⟨rfl, hb1⟩
          clear x0 fx y0 fy n0 n1 zx zy zn
          replace KP := Lib.hid (keepP_t KP.out (keepP_below (by have := HN.out.lt; omega) hb1))
          replace HX := Lib.hid (HX.out.later hb1)
          replace HY := Lib.hid (HY.out.later hb1)
          replace HN := Lib.hid (HN.out.later hb1)
          replace HB := Lib.hid (Below.two HB.out hb1)
          replace KO := KO.trans (keeps_of_below hb1)
          clear hb1
          have x0 := HX.out.one
          have fx := HX.out.frozen 0
          have y0 := HY.out.one
          have fy := HY.out.frozen 0
          have n0 := HN.out.p0
          have n1 := HN.out.p1
          have zx := HX.out.lt
          have zy := HY.out.lt
          have zn := HN.out.lt
          gi_wp2_with fail
          refine ⟨trivial, ?_⟩
          gi_wp2_with fail
          exact ⟨KO.trans (KeepsOthers.setCell _ _ _), rfl, HX.out.set_ 0 _, HBAD.out, HB.out.setCell (Nat.le_refl _) _⟩
        | false =>
          have x0 := HX.out.one
          have fx := HX.out.frozen 0
          have y0 := HY.out.one
          have fy := HY.out.frozen 0
          have n0 := HN.out.p0
          have n1 := HN.out.p1
          have zx := HX.out.lt
          have zy := HY.out.lt
          have zn := HN.out.lt
          gi_wp2_with fail
          refine ⟨trivial, ?_⟩
          refine (CallsIn.inRound l' (callsIn_wide.2 (QN.out _))).mono ?_
          rintro e W1 ⟨rfl, hb1⟩
          clear x0 fx y0 fy n0 n1 zx zy zn
          have HTW1 := HTW.later hb1
          replace KP := Lib.hid (keepP_t KP.out (keepP_below (by have := HN.out.lt; omega) hb1))
          replace HX := Lib.hid (HX.out.later hb1)
          replace HY := Lib.hid (HY.out.later hb1)
          replace HN := Lib.hid (HN.out.later hb1)
          replace HB := Lib.hid (Below.two HB.out hb1)
          replace KO := KO.trans (keeps_of_below hb1)
          clear hb1
          have x0 := HX.out.one
          have fx := HX.out.frozen 0
          have y0 := HY.out.one
          have fy := HY.out.frozen 0
          have n0 := HN.out.p0
          have n1 := HN.out.p1
          have zx := HX.out.lt
          have zy := HY.out.lt
          have zn := HN.out.lt
          gi_wp2_with fail
          refine ⟨trivial, ?_⟩
          refine (CallsIn.inRound l' (callsIn_wide.2 (QV.out _ HTW1))).mono ?_
          rintro e W2 ⟨rfl, hb2⟩
          clear x0 fx y0 fy n0 n1 zx zy zn
          replace KP := Lib.hid (keepP_t KP.out (keepP_below (by have := HN.out.lt; omega) hb2))
          replace HX := Lib.hid (HX.out.later hb2)
          replace HY := Lib.hid (HY.out.later hb2)
          replace HN := Lib.hid (HN.out.later hb2)
          replace HB := Lib.hid (Below.two HB.out hb2)
          replace KO := KO.trans (keeps_of_below hb2)
          clear hb2
          have x0 := HX.out.one
          have fx := HX.out.frozen 0
          have y0 := HY.out.one
          have fy := HY.out.frozen 0
          have n0 := HN.out.p0
          have n1 := HN.out.p1
          have zx := HX.out.lt
          have zy := HY.out.lt
          have zn := HN.out.lt
          cases vl with
          | false =>
            have HBAD : Hid (chainB [] (mapL l (pre ++ [x])) = false) := by show _ = _; rw [HG2.out]; simp
            gi_wp2_with fail
            exact ⟨KO.trans (KeepsOthers.setCell _ _ _), rfl, HX.out.set_ 0 _, HBAD.out, HB.out.setCell (Nat.le_refl _) _⟩
          | true =>
            have HGD : Hid (chainB [] (mapL l (pre ++ [x])) = true) := by show _ = _; rw [HG2.out, HLQ.out, c1, c2]; rfl
            gi_wp2_with fail
            refine ⟨KO.trans (KeepsOthers.setCell _ _ _), keepP_t KP.out (keepP_set (by simp)), HX.out.far (by show w.heap.size ≠ w.heap.size + 1; omega) _, ?_, HGD.out, HB.out.setCell (Nat.le_succ _) _⟩
            rw [HNX.out]; exact HY.out.set_ 0 _
  case done =>
    rintro D ys W hD rfl ⟨hX, _, hall, hb⟩ hK
    have HE : Hid (setB l = true) := by
      show _ = _
      rw [mapL_all HZ.out] at hall
      unfold setB; rw [hall]; simp; omega
    have x0 := hX.one
    clear hX hall
    go_wp2_with fail
    try rw [Exit.noGoto_ret]
    refine ⟨by simp, .inl ⟨_, _, rfl, run_takeDeferred hK, ?_⟩⟩
    exact ⟨.bool true, by simp [results, Tryd.results19, go_sem], by rw [HE.out], hb.trans (belowK_b (w := w) (Nat.le_refl _) _ D _ _ (by omega) hK rfl rfl)⟩
  case stop =>
    rintro D c' pre W hD hpre ⟨rfl, hX, hall, hb⟩ hK
    have HE : Hid (setB l = false) := by
      show _ = _
      obtain ⟨t, ht⟩ := mapL_pre HZ.out hpre
      unfold setB; rw [show chainB [] l = false by rw [ht]; exact chainB_more _ _ _ hall]; simp
    have x0 := hX.one
    clear hX hall
    refine wpIn_wide.2 ?_
    go_wp2_with fail
    try rw [Exit.noGoto_ret]
    refine ⟨by simp, .inl ⟨_, _, rfl, run_takeDeferred hK, ?_⟩⟩
    exact ⟨.bool false, by simp [results, Tryd.results19, go_sem], by rw [HE.out], hb.trans (belowK_b (w := w) (Nat.le_refl _) _ D _ _ (by omega) hK rfl rfl)⟩
theorem right_any (A : Option Addr) (l : List Lab) (cap : Nat) (hs : ∀ x ∈ l, (x.2).size ≤ 4294967296) (w : World) (hT : Tb w) (hS : Lb w w.heap.size A l) :
    Calls Tryd.prog 19 #[.slice A l.length cap] w fun e w' => e = .returned (.bool (setB l)) ∧ Below w.heap.size w w' := by
  by_cases h : 1 ≤ l.length ∧ l.length ≤ 6
  · exact callsIn_wide.1 (right_in A l cap h.1 h.2 hs w hT hS)
  · have HE : Hid (setB l = false) := by
      show _ = _
      unfold setB; simp; omega
    by_cases h0 : l.length = 0
    · have d0 : ((l.length : Int) == 0) = true := by rw [beq_iff_eq]; omega
      have d0' : (l.length == 0) = true := by rw [beq_iff_eq]; omega
      have HN := Lib.hid h0
      generalize l.length = n at *
      clear h h0 hS
      go_enter Tryd.func19, Tryd.ntmps19
      go_wp2_with fail
      go_step3
      go_wp2_with fail
      rw [Exit.noGoto_ret]
      go_ret
      exact ⟨by rw [HE.out]; rfl, below_0 _⟩
    · have d0 : ((l.length : Int) == 0) = false := by rw [beq_eq_false_iff_ne]; omega
      have d0' : (l.length == 0) = false := by rw [beq_eq_false_iff_ne]; omega
      have d6 : decide ((6 : Int) < (l.length : Int)) = true := by simp; omega
      have d6' : decide (6 < l.length) = true := by simp; omega
      clear hS
      generalize l.length = n at *
      go_enter Tryd.func19, Tryd.ntmps19
      go_wp2_with fail
      go_step3
      go_wp2_with fail
      rw [Exit.noGoto_ret]
      go_ret
      exact ⟨by rw [HE.out]; rfl, below_0 _⟩
end Go.Proofs.YtlcpigkgbihebaaDoor

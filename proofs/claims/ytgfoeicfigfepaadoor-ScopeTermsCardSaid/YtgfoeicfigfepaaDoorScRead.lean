/-
  read: a scope's terms.
-/
import Derived.Test.YtgfoeicfigfepaaDoorScSplit
import Derived.Test.YtgfoeicfigfepaaDoorScFits
import Derived.Test.YtgfoeicfigfepaaDoorScLab2
import Derived.WalkMore
namespace Go.Proofs.YtgfoeicfigfepaaDoor
open Go.RowKit Go.Shelf
set_option linter.unusedVariables false
set_option linter.unusedSimpArgs false
attribute [local go_sem] Oper.semAt_some
theorem Tryd.infoTerm : (Tryd.prog.info? 53).map (fun i => (i.zero, i.size, i.bytes)) = some (some (.agg #[.string ⟨#[]⟩, .string ⟨#[]⟩]), 2, 32) := by kernel_rfl
/-- The terms of the pieces so far. -/
def Lp (pre : List Pc) : List Lab := pre.map fun x => termOf x.1
def Ps (pre : List Pc) : List (List UInt8) := pre.map (·.1)
theorem Lp_len (pre : List Pc) : (Lp pre).length = pre.length := by simp [Lp]
theorem Lp_snoc (pre : List Pc) (x : Pc) : Lp (pre ++ [x]) = Lp pre ++ [termOf x.1] := by simp [Lp]
theorem read_snoc {pre : List Pc} (h : readL [] (Ps pre) = some (Lp pre)) (x : Pc) : readL [] (Ps (pre ++ [x])) = if rdB (Lp pre) x.1 = true then some (Lp (pre ++ [x])) else none := by
  have e : Ps (pre ++ [x]) = Ps pre ++ [x.1] := by simp [Ps]
  rw [e, readL_append, h, Lp_snoc]
  rfl
def ReI (w : World) (n₀ : Nat) (pre : List Pc) (W : World) : Prop :=
  (∃ lv, Blk W w.heap.size 49 #[lv] ∧ W.ownsRow n₀ 53 2 lv pre.length (flatL (Lp pre))) ∧ Blk W (w.heap.size + 1) 4 #[.bool true] ∧ Blk W (w.heap.size + 1 + 1) 9 #[.string (lastNm (Lp pre))] ∧ readL [] (Ps pre) = some (Lp pre) ∧ Below w.heap.size w W
def ReX (w : World) (c : Code) (pre : List Pc) (W : World) : Prop :=
  c = .exit 0 ∧ Blk W (w.heap.size + 1) 4 #[.bool false] ∧ readL [] (Ps pre) = none ∧ Below w.heap.size w W
theorem ReI_own {w : World} {n₀ Bd : Nat} (hB : w.heap.size ≤ Bd) : OwnFrom Bd (ReI w n₀) := by
  rintro s W W' row ⟨⟨lv, h1, h2⟩, h3, h4, h5, h6⟩ hg hr
  exact ⟨⟨lv, h1.kept hg (fun r e => (hr r e).2), own_kept_nc h2 hg (fun r e => (hr r e).2)⟩, h3.kept hg (fun r e => (hr r e).2), h4.kept hg (fun r e => (hr r e).2), h5, h6.grown hg h6.size (fun k e => Nat.le_trans hB (hr k e).1)⟩
theorem ReX_own {w : World} {c : Code} {Bd : Nat} (hB : w.heap.size ≤ Bd) : OwnFrom Bd (ReX w c) := by
  rintro s W W' row ⟨h0, h3, h5, h6⟩ hg hr
  exact ⟨h0, h3.kept hg (fun r e => (hr r e).2), h5, h6.grown hg h6.size (fun k e => Nat.le_trans hB (hr k e).1)⟩
theorem ReI_q {w : World} {n₀ Bs : Nat} (h1 : w.heap.size + 2 < Bs) (h2 : Bs < n₀) : StandsQ (· = Bs) (ReI w n₀) := by
  rintro s W W' r ⟨⟨lv, a1, a2⟩, a3, a4, a5, a6⟩ hg rfl
  refine ⟨⟨lv, a1.grown hg (by simp; omega), a2.kept hg (.inr fun e => ?_)⟩, a3.grown hg (by simp; omega), a4.grown hg (by simp; omega), a5, a6.grown hg a6.size (fun k e => by cases e; omega)⟩
  have := (own_row1 a2 _ e).1
  omega
theorem ReX_q {w : World} {c : Code} {Bs : Nat} (h1 : w.heap.size + 2 < Bs) : StandsQ (· = Bs) (ReX w c) := by
  rintro s W W' r ⟨a0, a3, a5, a6⟩ hg rfl
  exact ⟨a0, a3.grown hg (by simp; omega), a5, a6.grown hg a6.size (fun k e => by cases e; omega)⟩
/-- What read hands back. -/
def RdRet (w : World) (s : List UInt8) (e : Ending) (w' : World) : Prop := Below w.heap.size w w' ∧
  match readSc s with
  | none => e = .returned (.tuple #[.slice none 0 0, .bool false])
  | some L => ∃ A c, e = .returned (.tuple #[.slice A L.length c, .bool true]) ∧ Lb w' w'.heap.size A L
theorem RdRet.no {w w' : World} {s : List UInt8} (h : readSc s = none) (hb : Below w.heap.size w w') : RdRet w s (.returned (.tuple #[.slice none 0 0, .bool false])) w' := ⟨hb, by rw [h]⟩
theorem RdRet.yes {w w' : World} {s : List UInt8} {L : List Lab} {A : Option Addr} {n c : Nat} (h : readSc s = some L) (hn : n = L.length) (hb : Below w.heap.size w w') (hS : Lb w' w'.heap.size A L) : RdRet w s (.returned (.tuple #[.slice A n c, .bool true])) w' := ⟨hb, by rw [h]; exact ⟨A, c, by rw [hn], hS⟩⟩
theorem cutB_term {x : List UInt8} (h : (61 : UInt8) ∈ x) : cutB (bt x) 61 = ((termOf x).1, (termOf x).2, true) := by
  unfold cutB; rw [tx_bt, if_pos h]; rfl
theorem cutB_no {x : List UInt8} (h : ¬ (61 : UInt8) ∈ x) : cutB (bt x) 61 = (bt x, ⟨#[]⟩, false) := by
  unfold cutB; rw [tx_bt, if_neg h]
theorem splitL_count : ∀ l : List UInt8, (splitL l).length ≤ l.length + 1
  | [] => Nat.le_refl _
  | b :: t => by
    have ih := splitL_count t
    unfold splitL
    split
    · simp only [List.length_cons]; omega
    · simp only [List.length_cons, List.length_tail]; omega
set_option maxRecDepth 100000 in
set_option maxHeartbeats 4000000 in
theorem read_in (s : ByteArray) (hne : tx s ≠ []) (hs : s.size ≤ 4294967296) (w : World) (hT : Tb w) :
    CallsIn Fence.wide 6 Tryd.prog 17 #[.string s] w (RdRet w (tx s)) := by
  have T : Below w.heap.size w (((w.alloc (.cells #[.slice none 0 0] 49)).alloc (.cells #[.bool true] 4)).alloc (.cells #[.string ⟨#[]⟩] 9)) := below_al (below_al (below_al (below_0 _) _) _) _
  have X := Lib.hid (((Blk.new w 49 #[.slice none 0 0]).alloc (.cells #[.bool true] 4)).alloc (.cells #[.string ⟨#[]⟩] 9))
  have Y := Lib.hid ((blk_new2 w (.cells #[.slice none 0 0] 49) 4 #[.bool true]).alloc (.cells #[.string ⟨#[]⟩] 9))
  have Z := Lib.hid (blk_new3 w (.cells #[.slice none 0 0] 49) (.cells #[.bool true] 4) 9 #[.string ⟨#[]⟩])
  have HT := Lib.hid hT
  have HRS : Hid (readSc (tx s) = readL [] (splitL (tx s))) := by show _ = _; unfold readSc; rw [if_neg hne]
  have d0 : (s.toList == ([] : List UInt8)) = false := by rw [tx_toList]; simpa using hne
  obtain ⟨zs, hzs⟩ := exists_pcs (splitL (tx s)) (fun x hx => by have := splitL_len _ x hx; rw [tx_len] at this; omega)
  have HZ := Lib.hid hzs
  have HNZ : ∀ (x : Pc) {n : Nat}, n < zs.length → n ≤ 4294967296 := fun x n h => by
    have h1 := congrArg List.length hzs
    have h2 := splitL_count (tx s)
    rw [List.length_map] at h1
    rw [tx_len] at h2
    omega
  clear hT hzs
  refine callsIn_of_wp_marks Tryd.func17 rfl trivial ?_ rfl
  simp only [Tryd.ntmps17, List.size_toArray, List.length_cons, List.length_nil, Nat.reduceAdd, Nat.reduceSub, Array.replicate_succ, Array.replicate_zero, List.push_toArray, List.append_toArray, List.nil_append, List.cons_append]
  refine wpIn_wide.2 ?_
  go_wp2_with fail
  go_step3
  go_wp2_with fail
  go_step3
  generalize ((w.alloc (.cells #[.slice none 0 0] 49)).alloc (.cells #[.bool true] 4)).alloc (.cells #[.string ⟨#[]⟩] 9) = w1 at *
  go_wp2_with fail
  refine (splitSeqX_any _ _ _).mono ?_
  rintro e w' ⟨rfl, rfl⟩
  have hba := below_al (below_al (below_al (below_0 w1) (.cells #[.string s] 9)) (.cells #[.string ⟨#[59]⟩] 9)) (.cells #[.int .i64 0] 3)
  have B1 := Lib.hid (((Blk.new w1 9 #[.string s]).alloc (.cells #[.string ⟨#[59]⟩] 9)).alloc (.cells #[.int .i64 0] 3))
  have B2 := Lib.hid ((blk_new2 w1 (.cells #[.string s] 9) 9 #[.string ⟨#[59]⟩]).alloc (.cells #[.int .i64 0] 3))
  have B3 := Lib.hid (blk_new3 w1 (.cells #[.string s] 9) (.cells #[.string ⟨#[59]⟩] 9) 3 #[.int .i64 0])
  have xz := X.out.lt
  have yz := Y.out.lt
  have zz := Z.out.lt
  replace X := Lib.hid (X.out.later hba)
  replace Y := Lib.hid (Y.out.later hba)
  replace Z := Lib.hid (Z.out.later hba)
  replace T := Below.two T hba
  clear hba
  go_wp2_with fail
  generalize ((w1.alloc (.cells #[.string s] 9)).alloc (.cells #[.string ⟨#[59]⟩] 9)).alloc (.cells #[.int .i64 0] 3) = V at *
  have b1z := B1.out.lt
  have b2z := B2.out.lt
  have b3z := B3.out.lt
  have hst : ReI w V.heap.size [] V := ⟨⟨_, X.out, World.ownsRow_nil _ _ _ _⟩, Y.out, Z.out, rfl, T⟩
  refine (wpIn_wide (n := 6)).1 ?_
  refine rangeFunc_q (q := (· = w1.heap.size)) rfl (by omega) (gf := 35) (lb := #[.pointer (some ⟨w1.heap.size + 1, 0, none⟩), .pointer (some ⟨w1.heap.size, 0, none⟩), .pointer (some ⟨w1.heap.size + 1 + 1, 0, none⟩)]) rfl trivial (enters_of Tryd.func35 (by kernel_rfl) rfl)
    (split_stops 5 (by omega) w1.heap.size (w1.heap.size + 1) (w1.heap.size + 1 + 1) s hs zs HZ.out (by omega) (by omega) V B1.out B2.out B3.out)
    (fun h k => keepP_t h k) (keepP_b (by omega)) (Below.refl _ _) (fun _ => rfl) (fun r h => by omega)
    (ReI w V.heap.size) (ReX w) (ReI_own (by omega)) (fun c => ReX_own (by omega)) (ReI_q (by omega) b1z) (fun c => ReX_q (by omega)) hst
    (fun x => { tmps := #[.string s, undef, .slice none 0 0, .bool false, .pointer (some ⟨w.heap.size, 0, none⟩), .pointer (some ⟨w.heap.size + 1, 0, none⟩), .pointer (some ⟨w.heap.size + 1 + 1, 0, none⟩), .string (bt x.1), undef, undef, undef, .string s, .bool false, .string s,
      .func (.func 35) #[] #[.pointer (some ⟨w1.heap.size + 1, 0, none⟩), .pointer (some ⟨w1.heap.size, 0, none⟩), .pointer (some ⟨w1.heap.size + 1 + 1, 0, none⟩)], .string (bt x.1), undef, undef, undef, undef, undef, undef, undef, undef, undef, undef, undef, undef, undef, undef, undef, undef, undef, undef, undef, undef, undef, undef, undef, undef, undef, undef, undef, undef, undef, undef, undef, undef, undef, undef, undef, undef, undef, undef], defers := [] })
    ?assign ?body ?done ?stop
  case assign =>
    intro l x W K hK
    gi_wp2
    exact hK
  case body =>
    rintro l' pre x W ⟨⟨lv, hX, hO⟩, hY, hZ, hrd, hb⟩ hbz hlt
    have HX := Lib.hid hX
    have HO := Lib.hid hO
    have HY := Lib.hid hY
    have HZ2 := Lib.hid hZ
    have HB := Lib.hid hb
    have HSN := Lib.hid (read_snoc hrd x)
    have KO : KeepsOthers W W := KeepsOthers.refl _
    have KP : Hid (Kp3 V.heap.size w1.heap.size (w1.heap.size + 1) (w1.heap.size + 1 + 1) W W) := keepP_refl _ _ _
    have HTW : Tb W := HT.out.later hb
    have hVW : V.heap.size ≤ W.heap.size := by omega
    clear hX hO hY hZ hrd hb hst
    have hxl := x.2
    have HLL := Lp_len pre
    have HLN : Hid (flatL (Lp (pre ++ [x])) = flatL (Lp pre) ++ [.string (termOf x.1).1, .string (termOf x.1).2]) := by show _ = _; rw [Lp_snoc, flatL_snoc]
    have HLT : Hid (lastNm (Lp (pre ++ [x])) = (termOf x.1).1) := by show _ = _; rw [Lp_snoc, lastNm_snoc]
    have QC := Lib.hid (fun w => cut_any (bt x.1) 61 (by rw [← tx_len, tx_bt]; exact hxl) w)
    have hlen : (pre ++ [x]).length = pre.length + 1 := by simp
    obtain ⟨A0, c0, rfl⟩ := own_form1 HO.out
    by_cases hm : (61 : UInt8) ∈ x.1
    · rw [cutB_term hm] at QC
      have HRD : Hid (rdB (Lp pre) x.1 = (decide (pre.length ≠ 4) && (nameB (tx (termOf x.1).1) && (!(leqB (tx (termOf x.1).1) (tx (lastNm (Lp pre)))) && (signsF (tx (termOf x.1).2)).isSome)))) := by
        show _ = _; unfold rdB; rw [decide_eq_true hm, Bool.true_and, HLL]
      have hps : (termOf x.1).2.size ≤ 4294967296 := by
        show (bt _).size ≤ _; rw [← tx_len, tx_bt, List.length_drop]; omega
      rw [HRD.out] at HSN
      clear HRD hm
      generalize termOf x.1 = it at *
      obtain ⟨nm, pt⟩ := it
      simp only at QC hps HLN HLT HSN
      generalize lastNm (Lp pre) = pv at *
      obtain ⟨bn, hbn⟩ : ∃ q, nameB (tx nm) = q := ⟨_, rfl⟩
      obtain ⟨bp, hbp⟩ : ∃ q, (signsF (tx pt)).isSome = q := ⟨_, rfl⟩
      have QN : Hid (∀ w1, Tb w1 → Calls Tryd.prog 28 #[.string nm] w1 fun e w' => e = .returned (.bool bn) ∧ Below w1.heap.size w1 w') := fun w1 h => by have := sisName_any nm w1 h; rwa [hbn] at this
      have QP : Hid (∀ w1, Tb w1 → Calls Tryd.prog 7 #[.string pt] w1 fun e w' => e = .returned (.bool bp) ∧ Below w1.heap.size w1 w') := fun w1 h => by have := isPat_any pt w1 hps h; rwa [hbp] at this
      rw [hbn, hbp] at HSN
      have HLQ : Hid (leqB (tx nm) (tx pv) = (Op.bytesLess nm.toList pv.toList || nm.toList == pv.toList)) := by show _ = _; rw [tx_toList, tx_toList]; rfl
      rw [HLQ.out] at HSN
      clear hbn hbp hps HLQ
      have x0 := HX.out.one
      have fx := HX.out.frozen 0
      have y0 := HY.out.one
      have fy := HY.out.frozen 0
      have z0 := HZ2.out.one
      have fz := HZ2.out.frozen 0
      have zx := HX.out.lt
      have zy := HY.out.lt
      have zw := HZ2.out.lt
      gi_wp2_with fail
      refine ⟨trivial, ?_⟩
      refine (CallsIn.inRound l' (callsIn_wide.2 (QC.out _))).mono ?_
      rintro e W1 ⟨rfl, hb1⟩
      clear x0 fx y0 fy z0 fz zx zy zw
      have hshb1 := hb1.size
      replace KP := Lib.hid (keepP_t KP.out (keepP_below (by omega) hb1))
      replace HX := Lib.hid (HX.out.later hb1)
      replace HY := Lib.hid (HY.out.later hb1)
      replace HZ2 := Lib.hid (HZ2.out.later hb1)
      replace HO := Lib.hid (own_later HO.out hb1)
      replace HB := Lib.hid (Below.two HB.out hb1)
      replace KO := KO.trans (keeps_of_below hb1)
      replace HTW := HTW.later hb1
      clear hb1
      have x0 := HX.out.one
      have fx := HX.out.frozen 0
      have y0 := HY.out.one
      have fy := HY.out.frozen 0
      have z0 := HZ2.out.one
      have fz := HZ2.out.frozen 0
      have zx := HX.out.lt
      have zy := HY.out.lt
      have zw := HZ2.out.lt
      by_cases h4 : pre.length = 4
      · have HBAD : Hid (readL [] (Ps (pre ++ [x])) = none) := by show _ = _; rw [HSN.out, decide_eq_false (by simpa using h4)]; rfl
        have d4 : ((pre.length : Int) == 4) = true := by simp; omega
        gi_wp2_with fail
        refine ⟨trivial, ?_⟩
        gi_wp2_with fail
        refine ⟨trivial, ?_⟩
        gi_wp2_with fail
        exact ⟨KO.trans (KeepsOthers.setCell _ _ _), rfl, HY.out.set_ 0 _, HBAD.out, HB.out.setCell (Nat.le_succ _) _⟩
      · have d4 : ((pre.length : Int) == 4) = false := by simp; omega
        rw [decide_eq_true (show pre.length ≠ 4 from h4), Bool.true_and] at HSN
        gi_wp2_with fail
        refine ⟨trivial, ?_⟩
        refine (CallsIn.inRound l' (callsIn_wide.2 (QN.out _ HTW))).mono ?_
        rintro e W2 ⟨rfl, hb2⟩
        clear x0 fx y0 fy z0 fz zx zy zw
        have hshb2 := hb2.size
        replace KP := Lib.hid (keepP_t KP.out (keepP_below (by omega) hb2))
        replace HX := Lib.hid (HX.out.later hb2)
        replace HY := Lib.hid (HY.out.later hb2)
        replace HZ2 := Lib.hid (HZ2.out.later hb2)
        replace HO := Lib.hid (own_later HO.out hb2)
        replace HB := Lib.hid (Below.two HB.out hb2)
        replace KO := KO.trans (keeps_of_below hb2)
        replace HTW := HTW.later hb2
        clear hb2
        have x0 := HX.out.one
        have fx := HX.out.frozen 0
        have y0 := HY.out.one
        have fy := HY.out.frozen 0
        have z0 := HZ2.out.one
        have fz := HZ2.out.frozen 0
        have zx := HX.out.lt
        have zy := HY.out.lt
        have zw := HZ2.out.lt
        cases bn with
        | false =>
          have HBAD : Hid (readL [] (Ps (pre ++ [x])) = none) := by show _ = _; rw [HSN.out]; rfl
          gi_wp2_with fail
          refine ⟨trivial, ?_⟩
          gi_wp2_with fail
          exact ⟨KO.trans (KeepsOthers.setCell _ _ _), rfl, HY.out.set_ 0 _, HBAD.out, HB.out.setCell (Nat.le_succ _) _⟩
        | true =>
          cases c1 : Op.bytesLess nm.toList pv.toList with
          | true =>
            have HBAD : Hid (readL [] (Ps (pre ++ [x])) = none) := by show _ = _; rw [HSN.out, c1]; rfl
            gi_wp2_with fail
            refine ⟨trivial, ?_⟩
            gi_wp2_with fail
            exact ⟨KO.trans (KeepsOthers.setCell _ _ _), rfl, HY.out.set_ 0 _, HBAD.out, HB.out.setCell (Nat.le_succ _) _⟩
          | false =>
            cases c2 : (nm.toList == pv.toList) with
            | true =>
              have HBAD : Hid (readL [] (Ps (pre ++ [x])) = none) := by show _ = _; rw [HSN.out, c1, c2]; rfl
              gi_wp2_with fail
              refine ⟨trivial, ?_⟩
              gi_wp2_with fail
              exact ⟨KO.trans (KeepsOthers.setCell _ _ _), rfl, HY.out.set_ 0 _, HBAD.out, HB.out.setCell (Nat.le_succ _) _⟩
            | false =>
              gi_wp2_with fail
              refine ⟨trivial, ?_⟩
              refine (CallsIn.inRound l' (callsIn_wide.2 (QP.out _ HTW))).mono ?_
              rintro e W3 ⟨rfl, hb3⟩
              clear x0 fx y0 fy z0 fz zx zy zw
              have hshb3 := hb3.size
              replace KP := Lib.hid (keepP_t KP.out (keepP_below (by omega) hb3))
              replace HX := Lib.hid (HX.out.later hb3)
              replace HY := Lib.hid (HY.out.later hb3)
              replace HZ2 := Lib.hid (HZ2.out.later hb3)
              replace HO := Lib.hid (own_later HO.out hb3)
              replace HB := Lib.hid (Below.two HB.out hb3)
              replace KO := KO.trans (keeps_of_below hb3)
              replace HTW := HTW.later hb3
              clear hb3
              have x0 := HX.out.one
              have fx := HX.out.frozen 0
              have y0 := HY.out.one
              have fy := HY.out.frozen 0
              have z0 := HZ2.out.one
              have fz := HZ2.out.frozen 0
              have zx := HX.out.lt
              have zy := HY.out.lt
              have zw := HZ2.out.lt
              cases bp with
              | false =>
                have HBAD : Hid (readL [] (Ps (pre ++ [x])) = none) := by show _ = _; rw [HSN.out, c1, c2]; rfl
                gi_wp2_with fail
                exact ⟨KO.trans (KeepsOthers.setCell _ _ _), rfl, HY.out.set_ 0 _, HBAD.out, HB.out.setCell (Nat.le_succ _) _⟩
              | true =>
                have HGD : Hid (readL [] (Ps (pre ++ [x])) = some (Lp (pre ++ [x]))) := by show _ = _; rw [HSN.out, c1, c2]; rfl
                clear QC QN QP HSN c1 c2 d4
                obtain ⟨i0, hi0, hz0, hz1, hz2⟩ := info_parts Tryd.infoTerm
                have hba := below_al (below_0 W3) (.cells #[.string nm, .string pt] 53)
                have NB := Lib.hid (Blk.new W3 53 #[.string nm, .string pt])
                have HX4 := Lib.hid (HX.out.later hba)
                have HY4 := Lib.hid (HY.out.later hba)
                have HZ4 := Lib.hid (HZ2.out.later hba)
                have HO4 := Lib.hid (own_later HO.out hba)
                have HB4 := Lib.hid (Below.two HB.out hba)
                have KO4 := KO.trans (keeps_of_below hba)
                have KP4 := Lib.hid (keepP_t KP.out (keepP_below (by omega) hba))
                have hs4 : V.heap.size ≤ (W3.alloc (.cells #[.string nm, .string pt] 53)).heap.size := by simp; omega
                have hrow := own_row1 HO4.out
                have hp4 : pre.length ≤ 4294967296 := HNZ x hlt
                clear hba HO HB KO KP HTW
                gi_wp2_with (gi_at_builtin; refine wpListIn_append_own _ rfl _ _ 49 rfl V.heap.size 53 i0 (.agg #[.string ⟨#[]⟩, .string ⟨#[]⟩]) 2 32 Tryd.underlying49 hi0 hz0 hz1 hz2 rfl (by decide) (.slice A0 pre.length c0) pre.length _ rfl HO4.out ⟨W3.heap.size, 0, none⟩ 1 1 [.string nm, .string pt] rfl rfl (fun j u hj => by have := NB.out.at_ (i := j) (v := u) (by simpa using hj); rw [addr_add]; simpa using this) (by intro u hu; simp at hu; rcases hu with rfl | rfl <;> rfl) (by unfold maxLen; omega) (by omega) hs4 ?_; intro v' W5 hown hgrow _; obtain ⟨A5, c5, rfl⟩ := own_form1 hown; have HX5 := Lib.hid (HX4.out.grown hgrow (fun e => by have := (hrow _ e.symm).1; omega)); have HY5 := Lib.hid (HY4.out.grown hgrow (fun e => by have := (hrow _ e.symm).1; omega)); have HZ5 := Lib.hid (HZ4.out.grown hgrow (fun e => by have := (hrow _ e.symm).1; omega)); have x5 := HX5.out.one; have fx5 := HX5.out.frozen 0; have z5 := HZ5.out.one; have fz5 := HZ5.out.frozen 0; have zx5 := HX5.out.lt; have zz5 := HZ5.out.lt)
                have hrow5 := own_row1 hown
                have HB5 : Hid (Below w.heap.size w W5) := HB4.out.grown hgrow HB4.out.size (fun r hr => by have := (hrow r hr).1; have := T.size; omega)
                have KO5 := KO4.trans (keeps_grow hgrow (fun k e => by obtain ⟨_, c, fz, hc⟩ := hrow k e; exact ⟨c, _, fz, hc⟩))
                have KP5 : Hid (Kp3 V.heap.size w1.heap.size (w1.heap.size + 1) (w1.heap.size + 1 + 1) W W5) := keepP_t KP4.out ⟨hgrow.size, fun i hi _ => hgrow.block i (by omega) (fun e => by have := (hrow i e.symm).1; omega)⟩
                have o1 := ownsRow_setCell_other hown (a := ⟨w.heap.size, 0, none⟩) (fun e => by have := (hrow5 _ e).1; simp only at this; omega) (.slice A5 (pre.length + 1) c5)
                have o2 := ownsRow_setCell_other o1 (a := ⟨w.heap.size + 1 + 1, 0, none⟩) (fun e => by have := (hrow5 _ e).1; simp only at this; omega) (.string nm)
                refine ⟨(KO5.trans (KeepsOthers.setCell _ _ _)).trans (KeepsOthers.setCell _ _ _), keepP_t (keepP_t KP5.out (keepP_set (by omega))) (keepP_set (by omega)), ⟨.slice A5 (pre.length + 1) c5, (HX5.out.set_ 0 _).far (by show w.heap.size ≠ w.heap.size + 1 + 1; omega) _, ?_⟩, (HY5.out.far (by show w.heap.size + 1 ≠ w.heap.size; omega) _).far (by show w.heap.size + 1 ≠ w.heap.size + 1 + 1; omega) _, ?_, HGD.out, (HB5.out.setCell (Nat.le_refl _) _).setCell (by show w.heap.size ≤ w.heap.size + 1 + 1; omega) _⟩
                · rw [hlen, HLN.out]; exact o2
                · rw [HLT.out]; exact (HZ5.out.far (by show w.heap.size + 1 + 1 ≠ w.heap.size; omega) _).set_ 0 _
    · rw [cutB_no hm] at QC
      have HBAD : Hid (readL [] (Ps (pre ++ [x])) = none) := by
        show _ = _; rw [HSN.out]; unfold rdB; rw [decide_eq_false hm, Bool.false_and]; rfl
      clear HSN
      have x0 := HX.out.one
      have fx := HX.out.frozen 0
      have y0 := HY.out.one
      have fy := HY.out.frozen 0
      have z0 := HZ2.out.one
      have fz := HZ2.out.frozen 0
      have zx := HX.out.lt
      have zy := HY.out.lt
      have zw := HZ2.out.lt
      gi_wp2_with fail
      refine ⟨trivial, ?_⟩
      refine (CallsIn.inRound l' (callsIn_wide.2 (QC.out _))).mono ?_
      rintro e W1 ⟨rfl, hb1⟩
      clear x0 fx y0 fy z0 fz zx zy zw
      have hshb1 := hb1.size
      replace KP := Lib.hid (keepP_t KP.out (keepP_below (by omega) hb1))
      replace HX := Lib.hid (HX.out.later hb1)
      replace HY := Lib.hid (HY.out.later hb1)
      replace HZ2 := Lib.hid (HZ2.out.later hb1)
      replace HO := Lib.hid (own_later HO.out hb1)
      replace HB := Lib.hid (Below.two HB.out hb1)
      replace KO := KO.trans (keeps_of_below hb1)
      replace HTW := HTW.later hb1
      clear hb1
      have x0 := HX.out.one
      have fx := HX.out.frozen 0
      have y0 := HY.out.one
      have fy := HY.out.frozen 0
      have z0 := HZ2.out.one
      have fz := HZ2.out.frozen 0
      have zx := HX.out.lt
      have zy := HY.out.lt
      have zw := HZ2.out.lt
      gi_wp2_with fail
      refine ⟨trivial, ?_⟩
      gi_wp2_with fail
      refine ⟨trivial, ?_⟩
      gi_wp2_with fail
      exact ⟨KO.trans (KeepsOthers.setCell _ _ _), rfl, HY.out.set_ 0 _, HBAD.out, HB.out.setCell (Nat.le_succ _) _⟩
  case done =>
    rintro D ys W hD rfl ⟨⟨lv, hX, hO⟩, hY, _, hrd, hb⟩ hK
    have HE : Hid (readSc (tx s) = some (Lp ys)) := by
      show _ = _
      rw [HRS.out, ← HZ.out]; exact hrd
    obtain ⟨A0, c0, rfl⟩ := own_form1 hO
    have x0 := hX.one
    have y0 := hY.one
    have HB := Lib.hid hb
    have HO := Lib.hid hO
    have HK := Lib.hid hK
    clear hX hO hrd hb hK hY
    go_wp2_with fail
    try rw [Exit.noGoto_ret]
    have HRW : Hid (∀ o', Lb (W.putObj D o') (W.putObj D o').heap.size A0 (Lp ys)) := fun o' => Rd.own (own_kept_nc HO.out (grownBy_putObj' W D o') (fun r e => by cases e; exact ⟨_, HK.out, rfl⟩))
    refine ⟨by simp, .inl ⟨_, _, rfl, run_takeDeferred HK.out, ?_⟩⟩
    exact ⟨.tuple #[.slice A0 ys.length c0, .bool true], by simp [results, Tryd.results17, go_sem], RdRet.yes HE.out (Lp_len ys).symm (HB.out.trans (belowK_b (w := w) (Nat.le_refl _) _ D _ _ (by omega) HK.out rfl rfl)) (HRW.out _)⟩
  case stop =>
    rintro D c' pre W hD hpre ⟨rfl, hY, hrd, hb⟩ hK
    have HE : Hid (readSc (tx s) = none) := by
      show _ = _
      obtain ⟨t, rfl⟩ := hpre
      rw [HRS.out, ← HZ.out, List.map_append, readL_append]
      rw [show List.map (fun x : Pc => x.1) pre = Ps pre from rfl, hrd]; rfl
    have y0 := hY.one
    clear hY hrd
    refine wpIn_wide.2 ?_
    go_wp2_with fail
    try rw [Exit.noGoto_ret]
    refine ⟨by simp, .inl ⟨_, _, rfl, run_takeDeferred hK, ?_⟩⟩
    exact ⟨.tuple #[.slice none 0 0, .bool false], by simp [results, Tryd.results17, go_sem], RdRet.no HE.out (hb.trans (belowK_b (w := w) (Nat.le_refl _) _ D _ _ (by omega) hK rfl rfl))⟩
set_option maxRecDepth 100000 in
theorem read_any (s : ByteArray) (hs : s.size ≤ 4294967296) (w : World) (hT : Tb w) :
    Calls Tryd.prog 17 #[.string s] w (RdRet w (tx s)) := by
  by_cases h : tx s = []
  · have HE : Hid (readSc (tx s) = some []) := by show _ = _; unfold readSc; rw [if_pos h]
    obtain rfl : s = ⟨#[]⟩ := tx_inj h
    clear h hT
    go_enter Tryd.func17, Tryd.ntmps17
    go_wp2_with fail
    go_step3
    go_wp2_with fail
    (try rw [Exit.noGoto_ret])
    go_ret2
    exact RdRet.yes (L := []) HE.out rfl (below_0 _) (fun h => absurd rfl h)
  · exact callsIn_wide.1 (read_in s h hs w hT)
end Go.Proofs.YtgfoeicfigfepaaDoor

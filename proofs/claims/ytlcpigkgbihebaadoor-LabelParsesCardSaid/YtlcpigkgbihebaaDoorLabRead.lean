/-
  label.read and label.Parse.
-/
import Derived.Test.YtlcpigkgbihebaaDoorLabSort
namespace Go.Proofs.YtlcpigkgbihebaaDoor
open Go.RowKit
set_option linter.unusedVariables false
set_option linter.unusedSimpArgs false
def runF : RS → List (Nat × Nat) → Option RS
  | s, [] => some s
  | s, d :: l => (stepF s d).bind fun s' => runF s' l
theorem runF_append : ∀ (l m : List (Nat × Nat)) (s : RS), runF s (l ++ m) = (runF s l).bind fun s' => runF s' m
  | [], _, _ => rfl
  | d :: l, m, s => by
    rw [List.cons_append, runF, runF]
    cases stepF s d with
    | none => rfl
    | some s' => exact runF_append l m s'
theorem runF_snoc (l : List (Nat × Nat)) (d : Nat × Nat) (s : RS) : runF s (l ++ [d]) = (runF s l).bind fun s' => stepF s' d := by
  rw [runF_append]
  cases runF s l with
  | none => rfl
  | some s' => show runF s' [d] = stepF s' d; rw [runF]; cases stepF s' d <;> rfl
/-- What read comes to. -/
def readF (t : List UInt8) : Option (List Lab) := if validL t = true then ((runF RS.zero (cp t)).bind endF).map (·.l) else none
theorem encR_le (d : Nat × Nat) : (encR d).size ≤ 4 := encode_size_le _
theorem encR_name {d : Nat × Nat} (h : nameRune d = true) : (encR d).size = 1 := by
  simp [nameRune] at h
  unfold encR Utf8.encode
  have h1 : Utf8.valid (d.1 : Int) = true := by simp [Utf8.valid]; omega
  have h2 : (d.1 : Int).toNat < 128 := by omega
  simp only [h1, if_true, h2]
  rfl
theorem plainF_ok {s s' : RS} {d : Nat × Nat} (h : s.Ok) (e : plainF s d = some s') : s'.Ok := by
  obtain ⟨k1, k2, k3, k4, k5⟩ := h
  unfold plainF at e
  split at e
  · split at e
    · rename_i hc
      cases e
      have := encR_name hc.1
      exact ⟨by show (s.nm ++ encR d).size ≤ 12; rw [ByteArray.size_append]; omega, k2, k3, k4, k5⟩
    · cases e
  · split at e
    · rename_i hc
      cases e
      have := encR_le d
      exact ⟨k1, by show ((s.vl ++ encR d).size : Int) ≤ 4 * (s.runes + 1); rw [ByteArray.size_append]; omega, by show 0 ≤ s.runes + 1; omega, by show s.runes + 1 ≤ 24; omega, k5⟩
    · cases e
theorem endF_ok {s s' : RS} (h : s.Ok) (e : endF s = some s') : s'.Ok := by
  obtain ⟨k1, k2, k3, k4, k5⟩ := h
  unfold endF at e
  split at e
  · split at e
    · cases e
      exact ⟨by show (0 : Nat) ≤ 12; omega, by show ((0 : Nat) : Int) ≤ 4 * 0; omega, Int.le_refl _, by show (0 : Int) ≤ 24; omega, by show (s.l ++ [(s.nm, s.vl)]).length ≤ 6; rw [List.length_append]; simp; omega⟩
    · cases e
  · cases e
theorem stepF_ok {s s' : RS} {d : Nat × Nat} (h : s.Ok) (e : stepF s d = some s') : s'.Ok := by
  unfold stepF at e
  split at e
  · exact plainF_ok (s := { s with place := 1 }) ⟨h.nm, h.vl, h.r0, h.r24, h.l⟩ e
  · split at e
    · unfold equalsF at e
      split at e
      · exact plainF_ok h e
      · split at e
        · cases e
        · cases e; exact ⟨h.nm, h.vl, h.r0, h.r24, h.l⟩
    · split at e
      · exact endF_ok h e
      · split at e
        · unfold quoteF at e
          split at e
          · cases e
          · cases e; exact ⟨h.nm, h.vl, h.r0, h.r24, h.l⟩
        · exact plainF_ok h e
theorem zero_ok : RS.zero.Ok := ⟨by show (0 : Nat) ≤ 12; omega, by show ((0 : Nat) : Int) ≤ 4 * 0; omega, Int.le_refl _, by show (0 : Int) ≤ 24; omega, by show (0 : Nat) ≤ 6; omega⟩
theorem own_mono {w : World} {B B' n : Nat} {v : Value} {xs : List Value} (h : w.ownsRow B 41 2 v n xs) (hB : B' ≤ B) : w.ownsRow B' 41 2 v n xs := by
  obtain ⟨h1, h2 | ⟨g, cap, cur, e1, e2, e3⟩⟩ := h
  · exact ⟨h1, .inl h2⟩
  · exact ⟨h1, .inr ⟨g, cap, cur, e1, Nat.le_trans hB e2, e3⟩⟩
theorem RdAt.later {B g m : Nat} {s : RS} {w w' : World} (h : RdAt B g m s w) (hb : Below w.heap.size w w') : RdAt B g m s w' := by
  obtain ⟨h1, h2, h3, lv, h4, h5⟩ := h
  exact ⟨h1, h2, (hb.block m (Array.getElem?_eq_some_iff.1 h3).1).trans h3, lv, h4.later hb, h5.kept (row := none) ⟨hb.os, hb.tape, hb.output, hb.size, fun i hi _ => hb.block i hi⟩ (by
    cases e : lv.ownBlock with
    | none => exact .inl rfl
    | some r => exact .inr (by simp))⟩
theorem RdAt.lt {B g m : Nat} {s : RS} {w : World} (h : RdAt B g m s w) : m < w.heap.size := (Array.getElem?_eq_some_iff.1 h.2.2.1).1
theorem RdAt.iterAt {B g m : Nat} {s : RS} {w : World} (h : RdAt B g m s w) {k : Nat} {t : ByteArray} {p : Nat} (hk : w.heap[k]? = some (.stringIter t p)) (q : Nat) : RdAt B g m s (w.iterAt k t q) := by
  obtain ⟨h1, h2, h3, lv, h4, hl, h5⟩ := h
  have ne : ∀ j o, w.heap[j]? = some o → (∀ (t : ByteArray) (p : Nat), o ≠ Obj.stringIter t p) → (w.iterAt k t q).heap[j]? = some o := fun j o hj hn => by
    rw [Lib.iterAt_other w k j t q (by rintro rfl; rw [hj] at hk; exact hn _ _ (Option.some.inj hk))]
    exact hj
  refine ⟨h1, h2, ne m _ h3 (fun _ _ e => by cases e), lv, ne g _ h4 (fun _ _ e => by cases e), hl, ?_⟩
  rcases h5 with h5 | ⟨r, cap, cur, e1, e2, e3, e4⟩
  · exact .inl h5
  · exact .inr ⟨r, cap, cur, e1, e2, ne r _ e3 (fun _ _ e => by cases e), e4⟩
theorem RPost.some_ {B g m : Nat} {w w' : World} {s : RS} {e : Ending} (h : RPost B g m w (some s) e w') : Below B w w' ∧ Lib.OthersKept 41 (some g) w w' ∧ e = .returned .nilIface ∧ RdAt B g m s w' := h
theorem RPost.none_ {B g m : Nat} {w w' : World} {e : Ending} (h : RPost B g m w none e w') : Below B w w' ∧ Lib.OthersKept 41 (some g) w w' ∧ (∃ t, e = .returned (.iface 64 (.agg #[.string t]))) ∧ ∃ s', RdAt B g m s' w' := h
/-- What read hands back. -/
def RdRet (w : World) (r : Option (List Lab)) (e : Ending) (w' : World) : Prop :=
  Below w.heap.size w w' ∧ (match r with
    | some l => ∃ lv, e = .returned (.tuple #[lv, .nilIface]) ∧ w'.ownsRow w.heap.size 41 2 lv l.length (flatL l)
    | none => ∃ v t, e = .returned (.tuple #[v, .iface 64 (.agg #[.string t])]))
theorem RdRet.no {w w' : World} {v : Value} {t : ByteArray} (h : Below w.heap.size w w') : RdRet w none (.returned (.tuple #[v, .iface 64 (.agg #[.string t])])) w' := ⟨h, v, t, rfl⟩
set_option maxRecDepth 100000 in
set_option maxHeartbeats 2000000 in
theorem read_any (s : ByteArray) (w : World) (hs : s.size ≤ 4294967296) (hT : Tb w) :
    Calls Tryd.prog 26 #[.string s] w (RdRet w (readF (tx s))) := by
  have QR : Hid (∀ w1, Tb w1 → Calls Tryd.prog 14 #[.string s] w1 fun e w' => e = .returned (.tuple #[.int .i64 (runesF (tx s)).1, .bool (runesF (tx s)).2]) ∧ Below w1.heap.size w1 w') := fun w1 h => runes_any s w1 hs h
  have HT := Lib.hid hT
  clear hT
  cases hv : validL (tx s) with
  | false =>
    have HN : Hid (readF (tx s) = none) := by show _ = _; rw [readF, hv]; rfl
    have hr : runesF (tx s) = (0, false) := by rw [runesF, if_neg (by rw [hv]; simp)]
    rw [hr] at QR
    clear hr hv
    rw [HN.out]
    go_enter Tryd.func26, Tryd.ntmps26
    go_wp2_with fail
    go_step3
    go_wp2_with fail
    refine (QR.out _ HT.out).mono ?_
    rintro e w1 ⟨rfl, hb1⟩
    go_wp2_with fail
    rw [Exit.noGoto_ret]
    go_ret2
    exact RdRet.no hb1
  | true =>
    have HN : Hid (readF (tx s) = ((runF RS.zero (cp (tx s))).bind endF).map (·.l)) := by show _ = _; rw [readF, hv]; rfl
    have hr : runesF (tx s) = (((cp (tx s)).length : Int), true) := by rw [runesF, if_pos hv]
    rw [hr] at QR
    clear hr hv
    generalize ((cp (tx s)).length : Int) = nr at *
    go_enter Tryd.func26, Tryd.ntmps26
    go_wp2_with fail
    go_step3
    go_wp2_with fail
    refine (QR.out _ HT.out).mono ?_
    rintro e w1 ⟨rfl, hb1⟩
    go_wp2_with fail
    refine (newReader_any w1).mono ?_
    rintro e w2 ⟨rfl, hR2, hb2⟩
    have HR2 := Lib.hid hR2
    have HB2 := Lib.hid hb2
    have HB1 := Lib.hid hb1
    clear hR2 hb2 hb1
    have hI2 : Hid ((w2.iter s 0).heap[w2.heap.size]? = some (.stringIter s 0)) := World.iter_heap w2 s 0
    have HR3 : Hid (RdAt w1.heap.size w1.heap.size (w1.heap.size + 1) RS.zero (w2.iter s 0)) := HR2.out.later (below_al (below_0 w2) _)
    have HB3 : Hid (Below w1.heap.size w1 (w2.iter s 0)) := HB2.out.trans ((below_al (below_0 w2) (.stringIter s 0)).mono HB2.out.size)
    have hk : w1.heap.size + 1 < w2.heap.size := HR2.out.lt
    go_wp2_with fail
    go_step3
    go_wp2_with fail
    go_loopw [7] (fun e wr => ∃ (pos : Nat) (pre : List (Nat × Nat)) (st : RS), e = .nilIface ∧ Hid (Went s pos pre) ∧ Hid (runF RS.zero pre = some st) ∧ Hid st.Ok ∧ Hid (RdAt w1.heap.size w1.heap.size (w1.heap.size + 1) st wr) ∧ Hid (wr.heap[w2.heap.size]? = some (.stringIter s pos)) ∧ Hid (Below w1.heap.size w1 wr)) (fun _ wr => s.size - wr.iterPos w2.heap.size)
    case atStart => exact ⟨0, [], RS.zero, rfl, Went.zero s, rfl, zero_ok, HR3.out, hI2.out, HB3.out⟩
    case round =>
      clear HR2 HB2 HR3 HB3 hI2
      obtain ⟨pos, pre, st, rfl, HW, HF, HOK, HR, HI, HB⟩ := hrel
      have HP : Hid (wr.iterPos w2.heap.size = pos) := by show _ = _; simp [World.iterPos, HI.out]
      by_cases hp : pos < s.size
      · have hnx : ∀ ty, (Instr.next (.pointer (some ⟨w2.heap.size, 0, none⟩)) true ty).run Tryd.prog wr = _ := fun ty => Lib.run_next_any_at wr w2.heap.size s pos ty HI.out hp
        rw [dec_at] at hnx
        have HI2 := Lib.hid (Lib.iterAt_heap wr w2.heap.size s pos (pos + (decL ((tx s).drop pos)).2) HI.out)
        have HW2 := Lib.hid (HW.out.next hp)
        obtain ⟨d1, d2, d3, _⟩ := decL_bd ((tx s).drop pos)
        have HR2 := Lib.hid (HR.out.iterAt HI.out (pos + (decL ((tx s).drop pos)).2))
        have HB2 := Lib.hid (Lib.below_iterAt HB.out (k := w2.heap.size) (by omega) s (pos + (decL ((tx s).drop pos)).2))
        have HBAD : Hid (stepF st (decL ((tx s).drop pos)) = none → readF (tx s) = none) := fun h => by
          rw [HN.out, HW2.out.is, runF_append, runF_snoc, HF.out]
          show ((((stepF st _).bind _).bind endF).map _) = none
          rw [h]; rfl
        generalize decL ((tx s).drop pos) = d at *
        generalize hwi : wr.iterAt w2.heap.size s (pos + d.2) = wi at *
        clear hwi
        have QS := Lib.hid (step_any w1.heap.size w1.heap.size (w1.heap.size + 1) st d d1 wi HR2.out HOK.out)
        cases hst : stepF st d with
        | none =>
          rw [hst] at QS
          have HNO := Lib.hid (HBAD.out hst)
          clear hst HBAD
          go_wp2_with fail
          refine QS.out.mono ?_
          intro e w3 h3
          obtain ⟨b3, k3, ⟨t, rfl⟩, s3, r3⟩ := h3.none_
          have HB3 := Lib.hid (Below.two HB1.out (HB2.out.trans b3))
          obtain ⟨_, _, _, lv, hbl, _⟩ := r3
          have c4 : w3.cell? ⟨w1.heap.size, 4, none⟩ = some lv := hbl.cell 4
          clear b3 k3 hbl h3
          go_wp2_with fail
          rw [Exit.noGoto_ret]
          go_ret2
          rw [HNO.out]
          exact RdRet.no HB3.out
        | some s' =>
          rw [hst] at QS
          have HF2 : Hid (runF RS.zero (pre ++ [d]) = some s') := by show _ = _; rw [runF_snoc, HF.out]; exact hst
          have HOK2 := Lib.hid (stepF_ok HOK.out hst)
          clear hst HBAD
          go_wp2_with fail
          refine QS.out.mono ?_
          intro e w3 h3
          obtain ⟨b3, k3, rfl, r3⟩ := h3.some_
          have HR3 := Lib.hid r3
          have HB3 := Lib.hid (HB2.out.trans b3)
          have HI3 := Lib.hid (k3.iter HI2.out (by omega))
          clear b3 k3 r3 h3
          go_wp2_with fail
          go_roundw
          case rel => exact ⟨pos + d.2, pre ++ [d], s', rfl, HW2.out, HF2.out, HOK2.out, HR3.out, HI3.out, HB3.out⟩
          case measure => rw [HP.out]; simp only [World.iterPos, HI3.out]; omega
      · have hnx : ∀ ty, (Instr.next (.pointer (some ⟨w2.heap.size, 0, none⟩)) true ty).run Tryd.prog wr = _ := fun ty => Lib.run_next_end_at wr w2.heap.size s pos ty HI.out hp
        have HN2 : Hid (readF (tx s) = (endF st).map (·.l)) := by show _ = _; rw [HN.out, HW.out.done hp, HF.out]; rfl
        have QE := Lib.hid (end_any w1.heap.size w1.heap.size (w1.heap.size + 1) st wr HR.out HOK.out)
        cases hst : endF st with
        | none =>
          rw [hst] at QE
          have HNO : Hid (readF (tx s) = none) := by show _ = _; rw [HN2.out, hst]; rfl
          clear hst
          go_wp2_with fail
          refine QE.out.mono ?_
          intro e w3 h3
          obtain ⟨b3, k3, ⟨t, rfl⟩, s3, r3⟩ := h3.none_
          have HB3 := Lib.hid (Below.two HB1.out (HB.out.trans b3))
          obtain ⟨_, _, _, lv, hbl, _⟩ := r3
          have c4 : w3.cell? ⟨w1.heap.size, 4, none⟩ = some lv := hbl.cell 4
          clear b3 k3 hbl h3
          go_wp2_with fail
          rw [Exit.noGoto_ret]
          go_ret2
          rw [HNO.out]
          exact RdRet.no HB3.out
        | some s' =>
          rw [hst] at QE
          have HNO : Hid (readF (tx s) = some s'.l) := by show _ = _; rw [HN2.out, hst]; rfl
          clear hst
          go_wp2_with fail
          refine QE.out.mono ?_
          intro e w3 h3
          obtain ⟨b3, k3, rfl, r3⟩ := h3.some_
          have HB3 := Lib.hid (Below.two HB1.out (HB.out.trans b3))
          obtain ⟨_, _, _, lv, hbl, ho⟩ := r3
          have c4 : w3.cell? ⟨w1.heap.size, 4, none⟩ = some lv := hbl.cell 4
          have HO := Lib.hid (own_mono ho HB1.out.size)
          clear b3 k3 hbl h3 ho
          go_wp2_with fail
          rw [Exit.noGoto_ret]
          go_ret2
          rw [HNO.out]
          exact ⟨HB3.out, lv, rfl, HO.out⟩
end Go.Proofs.YtlcpigkgbihebaaDoor

/-
  isName, isValue, signs, IsPattern.
-/
import Derived.Test.YtgfoeicfigfepaaDoorScPut
namespace Go.Proofs.YtgfoeicfigfepaaDoor
open Go.RowKit
set_option linter.unusedVariables false
set_option linter.unusedSimpArgs false
theorem Blk.rd {w : World} {g : Nat} {t : TypeId} {cs : List Value} (h : Blk w g t cs.toArray) : Rd w w.heap.size (some ⟨g, 0, none⟩) cs := fun _ =>
  ⟨g, 0, rfl, h.lt, fun j u hj => by rw [Nat.zero_add]; exact h.at_ j (by simpa using hj)⟩
theorem Blk.lab {w : World} {g : Nat} {t : TypeId} {a b : ByteArray} (h : Blk w g t #[.string a, .string b]) : Lb w w.heap.size (some ⟨g, 0, none⟩) [(a, b)] := Blk.rd (cs := [.string a, .string b]) h
theorem set_value (s : ByteArray) : setB [(⟨#[97]⟩, s)] = valueB (tx s) := by
  have h1 : nameB (tx ⟨#[97]⟩) = true := by decide +kernel
  have h2 : leqB (tx ⟨#[97]⟩) [] = false := by decide +kernel
  unfold setB chainB chainB okStep
  rw [h1, h2]
  simp
theorem set_name (s : ByteArray) : setB [(s, ⟨#[]⟩)] = nameB (tx s) := by
  have h1 : valueB (tx ⟨#[]⟩) = true := by decide +kernel
  unfold setB chainB chainB okStep
  rw [h1]
  cases h : nameB (tx s) with
  | false => simp
  | true =>
    have h2 : leqB (tx s) [] = false := by
      cases e : tx s with
      | nil => rw [e] at h; cases h
      | cons b t => unfold leqB Op.bytesLess; simp
    rw [h2]; simp
set_option maxRecDepth 100000 in
theorem sisValue_any (s : ByteArray) (w : World) (hs : s.size ≤ 4294967296) (hT : Tb w) :
    Calls Tryd.prog 23 #[.string s] w fun e w' => e = .returned (.bool (valueB (tx s))) ∧ Below w.heap.size w w' := by
  have hb := below_al (below_0 w) (.cells #[.string ⟨#[97]⟩, .string s] 37)
  have Q := Lib.hid (right_any (some ⟨w.heap.size, 0, none⟩) [(⟨#[97]⟩, s)] 1 (fun x hx => by cases List.mem_singleton.1 hx; exact hs) _ (hT.later hb) (Blk.new w 37 #[.string ⟨#[97]⟩, .string s]).lab)
  rw [set_value] at Q
  have HB := Lib.hid hb
  clear hb hT
  show _
  go_enter Tryd.func23, Tryd.ntmps23
  go_wp2_with fail
  refine Q.out.mono ?_
  rintro e w1 ⟨rfl, hb1⟩
  have HB1 : Hid (Below w.heap.size w w1) := HB.out.trans (hb1.mono (by simp))
  clear hb1 HB Q
  go_wp2_with fail
  go_ret
  exact ⟨rfl, HB1.out⟩
set_option maxRecDepth 100000 in
theorem sisName_any (s : ByteArray) (w : World) (hT : Tb w) :
    Calls Tryd.prog 28 #[.string s] w fun e w' => e = .returned (.bool (nameB (tx s))) ∧ Below w.heap.size w w' := by
  have hb := below_al (below_0 w) (.cells #[.string s, .string ⟨#[]⟩] 37)
  have Q := Lib.hid (right_any (some ⟨w.heap.size, 0, none⟩) [(s, ⟨#[]⟩)] 1 (fun x hx => by cases List.mem_singleton.1 hx; exact Nat.zero_le _) _ (hT.later hb) (Blk.new w 37 #[.string s, .string ⟨#[]⟩]).lab)
  rw [set_name] at Q
  have HB := Lib.hid hb
  clear hb hT
  go_enter Tryd.func28, Tryd.ntmps28
  go_wp2_with fail
  refine Q.out.mono ?_
  rintro e w1 ⟨rfl, hb1⟩
  have HB1 : Hid (Below w.heap.size w w1) := HB.out.trans (hb1.mono (by simp))
  clear hb1 HB Q
  go_wp2_with fail
  go_ret
  exact ⟨rfl, HB1.out⟩
theorem own_apart {w : World} {B n size k : Nat} {e : TypeId} {v : Value} {xs : List Value} {o : Obj} (h : w.ownsRow B e size v n xs) (hk : w.heap[k]? = some o) (hc : o.isCells = false) : v.ownBlock ≠ some k := by
  rcases h.2 with ⟨rfl, _⟩ | ⟨g, cap, cur, rfl, _, hh, _⟩
  · intro e; cases e
  · intro e
    have e : g = k := by injection e
    subst e
    rw [hh] at hk
    cases hk
    cases hc
theorem iterAt_grown {w : World} {k : Nat} (s : ByteArray) (q : Nat) : w.grownBy (w.iterAt k s q) (some k) :=
  ⟨rfl, rfl, rfl, by rw [Lib.iterAt_size]; exact Nat.le_refl _, fun i _ hne => Lib.iterAt_other _ _ _ _ _ (fun e => hne (by rw [e]))⟩
theorem own_form1 {w : World} {B n : Nat} {e : TypeId} {size : Nat} {v : Value} {xs : List Value} (h : w.ownsRow B e size v n xs) : ∃ A c, v = .slice A n c := by
  obtain ⟨A, c, e, _⟩ := owns_form h
  exact ⟨A, c, e⟩
/-- Behind an append to a row of the call's own: what was ahead of the call stands. -/
theorem below_append {B n size : Nat} {e : TypeId} {a w W : World} {o : Obj} {v : Value} {xs : List Value} (h : Below B a w) (ho : w.ownsRow B e size v n xs) (hB : B ≤ w.heap.size) (hg : (w.alloc o).grownBy W v.ownBlock) : Below B a W := by
  have h1 : Below B a (w.alloc o) := h.trans ((below_al (below_0 w) o).mono hB)
  exact h1.trans (below_of_grow hg (by simp; omega) fun g hg' => (ho.lt g hg').1)
theorem Tryd.infoSign : (Tryd.prog.info? 65).map (fun i => (i.zero, i.size, i.bytes)) = some (some .nilIface, 1, 16) := by kernel_rfl
/-- What signs hands back. -/
def SigRet (w : World) (p : List UInt8) (e : Ending) (w' : World) : Prop := Below w.heap.size w w' ∧
  match signsF p with
  | none => e = .returned (.tuple #[.slice none 0 0, .bool false])
  | some l => ∃ A c, e = .returned (.tuple #[.slice A l.length c, .bool true]) ∧ Sgs w' w'.heap.size A l
theorem SigRet.no {w w' : World} {p : List UInt8} (h : signsF p = none) (hb : Below w.heap.size w w') : SigRet w p (.returned (.tuple #[.slice none 0 0, .bool false])) w' := ⟨hb, by rw [h]⟩
theorem SigRet.yes {w w' : World} {p : List UInt8} {l : List Sg} {A : Option Addr} {n c : Nat} (h : signsF p = some l) (hn : n = l.length) (hb : Below w.heap.size w w') (hS : Sgs w' w'.heap.size A l) : SigRet w p (.returned (.tuple #[.slice A n c, .bool true])) w' := ⟨hb, by rw [h]; exact ⟨A, c, by rw [hn], hS⟩⟩
/-- The signs so far lie in a row of the call's own. -/
def SgI (w : World) (s : ByteArray) (v : Value) (q : Bool) (pos : Nat) (pre : List (Nat × Nat)) (k : Nat) (wr : World) : Prop :=
  wr.ownsRow w.heap.size 65 1 v (sgF ([], false) pre).1.length ((sgF ([], false) pre).1.map sgV) ∧ (sgF ([], false) pre).2 = q ∧ Below w.heap.size w wr ∧ wr.heap[k]? = some (.stringIter s pos)
set_option maxRecDepth 100000 in
set_option maxHeartbeats 4000000 in
theorem signs_any (s : ByteArray) (w : World) (hs : s.size ≤ 4294967296) (hT : Tb w) :
    Calls Tryd.prog 14 #[.string s] w (SigRet w (tx s)) := by
  have QV := Lib.hid (sisValue_any s w hs hT)
  obtain ⟨i0, hi0, hz0, hz1, hz2⟩ := info_parts Tryd.infoSign
  clear hT
  cases hv : valueB (tx s) with
  | false =>
    have HN : Hid (signsF (tx s) = none) := by show _ = _; unfold signsF; rw [hv]; rfl
    rw [hv] at QV
    clear hv hi0 hz0 hz1 hz2
    go_enter Tryd.func14, Tryd.ntmps14
    go_wp2_with fail
    refine QV.out.mono ?_
    rintro e w1 ⟨rfl, hb1⟩
    go_wp2_with fail
    go_ret2
    exact SigRet.no HN.out hb1
  | true =>
    have HLN := Lib.hid (valueB_len hv)
    have HSG : Hid (signsF (tx s) = if (sgF ([], false) (cp (tx s))).2 = true then none else some (sgF ([], false) (cp (tx s))).1) := by show _ = _; unfold signsF; rw [if_pos hv]
    rw [hv] at QV
    clear hv
    go_enter Tryd.func14, Tryd.ntmps14
    go_wp2_with fail
    refine QV.out.mono ?_
    rintro e w1 ⟨rfl, hb1⟩
    have HB1 := Lib.hid hb1
    clear hb1 QV
    go_wp2_with fail
    go_loopw [4, 5] (fun v qv wr => ∃ (pos : Nat) (pre : List (Nat × Nat)) (q : Bool), qv = .bool q ∧ Hid (Went s pos pre) ∧ Hid (SgI w s v q pos pre w1.heap.size wr)) (fun _ _ wr => s.size - wr.iterPos w1.heap.size)
    case atStart => exact ⟨0, [], false, rfl, Went.zero s, ⟨by simp, .inl ⟨rfl, rfl⟩⟩, rfl, HB1.out.trans ((It.mk0 w1 s).2.mono HB1.out.size), (It.mk0 w1 s).1⟩
    case round =>
      obtain ⟨pos, pre, q, rfl, HW, HI⟩ := hrel
      obtain ⟨A0, c0, rfl⟩ := own_form1 HI.out.1
      have HP : Hid (wr.iterPos w1.heap.size = pos) := by show _ = _; simp [World.iterPos, HI.out.2.2.2]
      have hb1 := HB1.out.size
      by_cases hp : pos < s.size
      · have hnx : ∀ ty, (Instr.next (.pointer (some ⟨w1.heap.size, 0, none⟩)) true ty).run Tryd.prog wr = _ := fun ty => Lib.run_next_any_at wr w1.heap.size s pos ty HI.out.2.2.2 hp
        rw [dec_at] at hnx
        have HW2 := Lib.hid (HW.out.next hp)
        obtain ⟨d1, d2, d3, _⟩ := decL_bd ((tx s).drop pos)
        generalize decL ((tx s).drop pos) = d at *
        have HI2 : Hid (SgI w s (.slice A0 (sgF ([], false) pre).1.length c0) q (pos + d.2) pre w1.heap.size (wr.iterAt w1.heap.size s (pos + d.2))) := by
          obtain ⟨o1, o2, o3, o4⟩ := HI.out
          have hk := o1.kept (iterAt_grown s (pos + d.2)) (.inr (own_apart o1 o4 rfl))
          exact ⟨hk, o2, Lib.below_iterAt o3 hb1 s _, Lib.iterAt_heap wr _ s pos _ o4⟩
        have HL24 : (sgF ([], false) pre).1.length ≤ 24 := by
          have h1 := sgF_len pre ([], false)
          have h2 := HW.out.is
          have h3 := HLN.out
          rw [h2, List.length_append] at h3
          simp only [List.length_nil] at h1
          omega
        generalize wr.iterAt w1.heap.size s (pos + d.2) = wi at *
        clear HI HLN
        obtain ⟨o1, o2, o3, o4⟩ := HI2.out
        have ST : sgF ([], false) (pre ++ [d]) = stepS ((sgF ([], false) pre).1, q) d := by rw [sgF_snoc, ← o2]
        have HO := Lib.hid o1
        have HB := Lib.hid o3
        have HT4 := Lib.hid o4
        have hws := o3.size
        have hk1 : w1.heap.size < wi.heap.size := heap_lt o4
        have HAP := Lib.hid (own_apart o1 o4 rfl)
        clear HI2 o1 o2 o3 o4
        generalize (sgF ([], false) pre).1 = a at *
        have hmi : ∀ w, (Instr.makeInterface 60 (.agg #[.int .i32 (d.1 : Int)])).run Tryd.prog w = .ok (.iface 60 (.agg #[.int .i32 (d.1 : Int)])) w := fun w => by kernel_rfl
        cases q with
        | true =>
          have HST := Lib.hid (ST.trans (by unfold stepS; rw [if_pos rfl]))
          clear ST
          go_wp2_with (at_builtin; refine wpList_append_own _ rfl _ _ 40 rfl w.heap.size 65 i0 .nilIface 1 16 Tryd.underlying40 hi0 hz0 hz1 hz2 rfl (by decide) (.slice A0 a.length c0) a.length _ rfl (HO.out.alloc _) ⟨wi.heap.size, 0, none⟩ 1 1 [_] rfl rfl (cell_one _ _ _ _ rfl) (by simp [Value.oneCell']) (by unfold maxLen; omega) (by omega) (by simp; omega) ?_; intro v' W hown hgrow _)
          have HF : Hid (SgI w s v' false (pos + d.2) (pre ++ [d]) w1.heap.size W) := by
            refine ⟨?_, by rw [HST.out], below_append HB.out HO.out hws hgrow, ?_⟩
            · rw [HST.out]; simpa [sgV] using hown
            · exact (hgrow.block _ (by simp; omega) (fun e => HAP.out e.symm)).trans ((Below.heap_alloc wi _ _ hk1).trans HT4.out)
          clear hown hgrow HO HB HT4 HAP HST
          go_wp2_with fail
          go_roundw
          case rel => exact ⟨pos + d.2, pre ++ [d], false, rfl, HW2.out, HF.out⟩
          case measure =>
            have e : W.iterPos w1.heap.size = pos + d.2 := by simp [World.iterPos, HF.out.2.2.2]
            rw [HP.out, e]; omega
        | false =>
          by_cases e42 : d.1 = 42
          · have b42 : ((d.1 : Int) == 42) = true := by simp; omega
            have HST := Lib.hid (ST.trans (by unfold stepS; rw [if_neg (by simp), if_pos e42]))
            clear ST
            go_wp2_with (at_builtin; refine wpList_append_own _ rfl _ _ 40 rfl w.heap.size 65 i0 .nilIface 1 16 Tryd.underlying40 hi0 hz0 hz1 hz2 rfl (by decide) (.slice A0 a.length c0) a.length _ rfl (HO.out.alloc _) ⟨wi.heap.size, 0, none⟩ 1 1 [_] rfl rfl (cell_one _ _ _ _ rfl) (by simp [Value.oneCell']) (by unfold maxLen; omega) (by omega) (by simp; omega) ?_; intro v' W hown hgrow _)
            have HF : Hid (SgI w s v' false (pos + d.2) (pre ++ [d]) w1.heap.size W) := by
              refine ⟨?_, by rw [HST.out], below_append HB.out HO.out hws hgrow, ?_⟩
              · rw [HST.out]; simpa [sgV] using hown
              · exact (hgrow.block _ (by simp; omega) (fun e => HAP.out e.symm)).trans ((Below.heap_alloc wi _ _ hk1).trans HT4.out)
            clear hown hgrow HO HB HT4 HAP HST
            go_wp2_with fail
            go_roundw
            case rel => exact ⟨pos + d.2, pre ++ [d], false, rfl, HW2.out, HF.out⟩
            case measure =>
              have e : W.iterPos w1.heap.size = pos + d.2 := by simp [World.iterPos, HF.out.2.2.2]
              rw [HP.out, e]; omega
          · have b42 : ((d.1 : Int) == 42) = false := by simp; omega
            by_cases e63 : d.1 = 63
            · have b63 : ((d.1 : Int) == 63) = true := by simp; omega
              have HST := Lib.hid (ST.trans (by unfold stepS; rw [if_neg (by simp), if_neg e42, if_pos e63]))
              clear ST
              go_wp2_with (at_builtin; refine wpList_append_own _ rfl _ _ 40 rfl w.heap.size 65 i0 .nilIface 1 16 Tryd.underlying40 hi0 hz0 hz1 hz2 rfl (by decide) (.slice A0 a.length c0) a.length _ rfl (HO.out.alloc _) ⟨wi.heap.size, 0, none⟩ 1 1 [_] rfl rfl (cell_one _ _ _ _ rfl) (by simp [Value.oneCell']) (by unfold maxLen; omega) (by omega) (by simp; omega) ?_; intro v' W hown hgrow _)
              have HF : Hid (SgI w s v' false (pos + d.2) (pre ++ [d]) w1.heap.size W) := by
                refine ⟨?_, by rw [HST.out], below_append HB.out HO.out hws hgrow, ?_⟩
                · rw [HST.out]; simpa [sgV] using hown
                · exact (hgrow.block _ (by simp; omega) (fun e => HAP.out e.symm)).trans ((Below.heap_alloc wi _ _ hk1).trans HT4.out)
              clear hown hgrow HO HB HT4 HAP HST
              go_wp2_with fail
              go_roundw
              case rel => exact ⟨pos + d.2, pre ++ [d], false, rfl, HW2.out, HF.out⟩
              case measure =>
                have e : W.iterPos w1.heap.size = pos + d.2 := by simp [World.iterPos, HF.out.2.2.2]
                rw [HP.out, e]; omega
            · have b63 : ((d.1 : Int) == 63) = false := by simp; omega
              by_cases e126 : d.1 = 126
              · have b126 : ((d.1 : Int) == 126) = true := by simp; omega
                have HST : Hid (sgF ([], false) (pre ++ [d]) = (a, true)) := ST.trans (by unfold stepS; rw [if_neg (by simp), if_neg e42, if_neg e63, if_pos e126])
                have HF : Hid (SgI w s (.slice A0 a.length c0) true (pos + d.2) (pre ++ [d]) w1.heap.size wi) := ⟨by rw [HST.out]; exact HO.out, by rw [HST.out], HB.out, HT4.out⟩
                clear HO HB HT4 HAP HST ST
                go_wp2_with fail
                go_roundw
                case rel => exact ⟨pos + d.2, pre ++ [d], true, rfl, HW2.out, HF.out⟩
                case measure =>
                  have e : wi.iterPos w1.heap.size = pos + d.2 := by simp [World.iterPos, HF.out.2.2.2]
                  rw [HP.out, e]; omega
              · have b126 : ((d.1 : Int) == 126) = false := by simp; omega
                have HST := Lib.hid (ST.trans (by unfold stepS; rw [if_neg (by simp), if_neg e42, if_neg e63, if_neg e126]))
                clear ST
                go_wp2_with (at_builtin; refine wpList_append_own _ rfl _ _ 40 rfl w.heap.size 65 i0 .nilIface 1 16 Tryd.underlying40 hi0 hz0 hz1 hz2 rfl (by decide) (.slice A0 a.length c0) a.length _ rfl (HO.out.alloc _) ⟨wi.heap.size, 0, none⟩ 1 1 [_] rfl rfl (cell_one _ _ _ _ rfl) (by simp [Value.oneCell']) (by unfold maxLen; omega) (by omega) (by simp; omega) ?_; intro v' W hown hgrow _)
                have HF : Hid (SgI w s v' false (pos + d.2) (pre ++ [d]) w1.heap.size W) := by
                  refine ⟨?_, by rw [HST.out], below_append HB.out HO.out hws hgrow, ?_⟩
                  · rw [HST.out]; simpa [sgV] using hown
                  · exact (hgrow.block _ (by simp; omega) (fun e => HAP.out e.symm)).trans ((Below.heap_alloc wi _ _ hk1).trans HT4.out)
                clear hown hgrow HO HB HT4 HAP HST
                go_wp2_with fail
                go_roundw
                case rel => exact ⟨pos + d.2, pre ++ [d], false, rfl, HW2.out, HF.out⟩
                case measure =>
                  have e : W.iterPos w1.heap.size = pos + d.2 := by simp [World.iterPos, HF.out.2.2.2]
                  rw [HP.out, e]; omega
      · have hnx : ∀ ty, (Instr.next (.pointer (some ⟨w1.heap.size, 0, none⟩)) true ty).run Tryd.prog wr = _ := fun ty => Lib.run_next_end_at wr w1.heap.size s pos ty HI.out.2.2.2 hp
        have HE : Hid (signsF (tx s) = if q = true then none else some (sgF ([], false) pre).1) := by
          show _ = _
          rw [HSG.out, HW.out.done hp, HI.out.2.1]
        have HRD : Hid (Sgs wr wr.heap.size A0 (sgF ([], false) pre).1) := Rd.own HI.out.1
        have HBF := Lib.hid HI.out.2.2.1
        clear HI HSG HLN HP HW
        generalize (sgF ([], false) pre).1 = a at *
        cases q with
        | true =>
          have HN : Hid (signsF (tx s) = none) := HE.out
          clear HE
          go_wp2_with fail
          go_ret2
          exact SigRet.no HN.out HBF.out
        | false =>
          have HN : Hid (signsF (tx s) = some a) := HE.out
          clear HE
          go_wp2_with fail
          go_ret2
          exact SigRet.yes HN.out rfl HBF.out HRD.out
set_option maxRecDepth 100000 in
theorem isPat_any (s : ByteArray) (w : World) (hs : s.size ≤ 4294967296) (hT : Tb w) :
    Calls Tryd.prog 7 #[.string s] w fun e w' => e = .returned (.bool (signsF (tx s)).isSome) ∧ Below w.heap.size w w' := by
  have Q := Lib.hid (signs_any s w hs hT)
  clear hT
  go_enter Tryd.func7, Tryd.ntmps7
  go_wp2_with fail
  refine Q.out.mono ?_
  rintro e w1 ⟨hb1, h⟩
  cases hp : signsF (tx s) with
  | none =>
    rw [hp] at h
    subst h
    go_wp2_with fail
    go_ret
    exact ⟨ret_bool (by rw [hp]; rfl), hb1⟩
  | some l =>
    rw [hp] at h
    obtain ⟨A, c, rfl, _⟩ := h
    go_wp2_with fail
    go_ret
    exact ⟨ret_bool (by rw [hp]; rfl), hb1⟩
end Go.Proofs.YtgfoeicfigfepaaDoor

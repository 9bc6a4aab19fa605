/-
  Fits: what a pattern stands for.
-/
import Derived.Test.YtgfoeicfigfepaaDoorScSigns
import Derived.Test.YtgfoeicfigfepaaDoorScBehind
import Derived.WalkMore
namespace Go.Proofs.YtgfoeicfigfepaaDoor
open Go.RowKit
set_option linter.unusedVariables false
set_option linter.unusedSimpArgs false
theorem fits_none {p v : List UInt8} (h : signsF p = none) : fitsF p v = false := by
  cases e : fitsF p v with
  | false => rfl
  | true => obtain ⟨l, h1, _⟩ := fitsF_iff.1 e; rw [h] at h1; cases h1
theorem fits_bad {p v : List UInt8} (h : validL v = false) : fitsF p v = false := by
  cases e : fitsF p v with
  | false => rfl
  | true => obtain ⟨l, _, h1, _⟩ := fitsF_iff.1 e; rw [h] at h1; cases h1
theorem bool_iff {a b : Bool} (h : a = true ↔ b = true) : a = b := by cases a <;> cases b <;> simp_all
theorem fits_end {p v : List UInt8} {l : List Sg} {L : List Nat} (hp : signsF p = some l) (hv : validL v = true) (h : ∀ j, j ∈ L ↔ Pl l (rn v) j) : Maps.has (Sd L) (.int .i64 (l.length : Int)) = fitsF p v :=
  bool_iff (by
    rw [has_Sd, fitsF_some hp hv, ← Pl.end_]
    constructor
    · rintro ⟨j, hj, e⟩
      obtain rfl : j = l.length := by omega
      exact (h _).1 hj
    · exact fun h2 => ⟨_, (h _).2 h2, rfl⟩)
theorem fits_dead {p v : List UInt8} {l : List Sg} {pre post : List (Nat × Nat)} (hp : signsF p = some l) (hv : validL v = true) (e : cp v = pre ++ post) (h : ∀ j, j ∈ ([] : List Nat) ↔ Pl l (pre.map (·.1)) j) : fitsF p v = false := by
  cases ef : fitsF p v with
  | false => rfl
  | true =>
    rw [fitsF_some hp hv, ← Pl.end_] at ef
    unfold rn at ef
    rw [e, List.map_append] at ef
    exact absurd ef (Pl.dead _ _ (fun j hj => by cases (h j).2 hj) _)
/-- The places that may be next, in a map; all that was ahead stands. -/
def FtI (w : World) (v : ByteArray) (l : List Sg) (k Bm : Nat) (L : List Nat) (pos : Nat) (pre : List (Nat × Nat)) (wr : World) : Prop :=
  Sm wr l.length Bm L ∧ (∀ j, j ∈ L ↔ Pl l (pre.map (·.1)) j) ∧ w.heap.size ≤ Bm ∧ Below w.heap.size w wr ∧ wr.heap[k]? = some (.stringIter v pos)
set_option maxRecDepth 100000 in
set_option maxHeartbeats 4000000 in
theorem fits_any (p v : ByteArray) (w : World) (hp : p.size ≤ 4294967296) (hv : v.size ≤ 4294967296) (hT : Tb w) :
    Calls Tryd.prog 8 #[.string p, .string v] w fun e w' => e = .returned (.bool (fitsF (tx p) (tx v))) ∧ Below w.heap.size w w' := by
  have QS := Lib.hid (signs_any p w hp hT)
  have QR : Hid (∀ w1, Below w.heap.size w w1 → Calls Tryd.prog 6 #[.string v] w1 fun e w' => e = .returned (.tuple #[.int .i64 (runesF (tx v)).1, .bool (runesF (tx v)).2]) ∧ Below w1.heap.size w1 w') := fun w1 hb => runes_any v w1 hv (hT.later hb)
  clear hT
  go_enter Tryd.func8, Tryd.ntmps8
  go_wp2_with fail
  go_step3
  go_wp2_with fail
  refine QS.out.mono ?_
  rintro e w1 ⟨hb1, h⟩
  have HB1 := Lib.hid hb1
  have QR1 := Lib.hid (QR.out w1 hb1)
  clear QS QR hb1
  cases hsg : signsF (tx p) with
  | none =>
    rw [hsg] at h
    subst h
    have HN := Lib.hid (fits_none (v := tx v) hsg)
    go_wp2_with fail
    (try rw [Exit.noGoto_ret])
    go_ret
    exact ⟨ret_bool (by rw [HN.out]), HB1.out⟩
  | some l =>
    rw [hsg] at h
    obtain ⟨A, c, rfl, hS⟩ := h
    have HSG := Lib.hid hsg
    have HS := Lib.hid hS
    have hl24 : l.length ≤ 100000 := by
      obtain ⟨h1, h2⟩ := signs_valid hsg
      have h3 := sgF_len (cp (tx p)) ([], false)
      have h4 := valueB_len h1
      rw [h2] at h3
      simp only [List.length_nil] at h3
      omega
    clear hsg hS
    cases hvv : validL (tx v) with
    | false =>
      have HN := Lib.hid (fits_bad (p := tx p) hvv)
      have hr : runesF (tx v) = (0, false) := by rw [runesF, if_neg (by rw [hvv]; simp)]
      rw [hr] at QR1
      clear hr hvv HSG
      go_wp2_with fail
      refine QR1.out.mono ?_
      rintro e w2 ⟨rfl, hb2⟩
      go_wp2_with fail
      (try rw [Exit.noGoto_ret])
      go_ret
      exact ⟨ret_bool (by rw [HN.out]), Below.two HB1.out hb2⟩
    | true =>
      have hr : runesF (tx v) = (((cp (tx v)).length : Int), true) := by rw [runesF, if_pos hvv]
      rw [hr] at QR1
      have HV := Lib.hid hvv
      clear hr hvv
      go_wp2_with fail
      refine QR1.out.mono ?_
      rintro e w2 ⟨rfl, hb2⟩
      have HB2 := Lib.hid hb2
      have hmk : (Instr.makeMap 44 none).run Tryd.prog w2 = .ok (.map (some w2.heap.size)) (w2.alloc (.map #[] 0)) := by kernel_rfl
      have hba := below_al (below_0 w2) (.map #[] 0)
      have QP := Lib.hid (put_any A l c 0 w2.heap.size [] hl24 (Nat.zero_le _) (w2.alloc (.map #[] 0)) ((Rd.below HS.out (Below.two hb2 hba)).more hb2.size) (Sm.made w2 l.length))
      have HBA : Hid (Below w1.heap.size w1 (w2.alloc (.map #[] 0))) := Below.two hb2 hba
      have h12 := hb2.size
      clear QR1 hb2 hba
      go_wp2_with fail
      refine QP.out.mono ?_
      rintro e w3 ⟨rfl, ⟨L0, hm0, hj0⟩, hg0⟩
      have HI : Hid (FtI w1 v l w3.heap.size w2.heap.size L0 0 [] (w3.iter v 0)) := by
        have hbi := (It.mk0 w3 v).2
        refine ⟨hm0.later hbi, fun j => ?_, h12, Below.two ?_ hbi, (It.mk0 w3 v).1⟩
        · rw [hj0]; show _ ↔ Pl l [] j; rw [Pl.start]; simp
        · exact below_grown HBA.out hg0 h12 HBA.out.size
      have h3 : w1.heap.size ≤ w3.heap.size := by have := HBA.out.size; have := hg0.size; omega
      clear hm0 hj0 hg0 QP HBA hmk HB2
      go_wp2_with fail
      go_step3
      go_wp2_with fail
      go_loopw [9] (fun mv wr => ∃ (pos : Nat) (pre : List (Nat × Nat)) (Bm : Nat) (L : List Nat), mv = .map (some Bm) ∧ Hid (Went v pos pre) ∧ Hid (FtI w1 v l w3.heap.size Bm L pos pre wr)) (fun _ wr => v.size - wr.iterPos w3.heap.size)
      case atStart => exact ⟨0, [], _, L0, rfl, Went.zero v, HI⟩
      case round =>
        clear HI
        obtain ⟨pos, pre, Bm, L, rfl, HW, HI⟩ := hrel
        have HP : Hid (wr.iterPos w3.heap.size = pos) := by show _ = _; simp [World.iterPos, HI.out.2.2.2.2]
        by_cases hps : pos < v.size
        · have hnx : ∀ ty, (Instr.next (.pointer (some ⟨w3.heap.size, 0, none⟩)) true ty).run Tryd.prog wr = _ := fun ty => Lib.run_next_any_at wr w3.heap.size v pos ty HI.out.2.2.2.2 hps
          rw [dec_at] at hnx
          have HW2 := Lib.hid (HW.out.next hps)
          obtain ⟨d1, d2, d3, _⟩ := decL_bd ((tx v).drop pos)
          generalize decL ((tx v).drop pos) = d at *
          have HI2 : Hid (FtI w1 v l w3.heap.size Bm L (pos + d.2) pre (wr.iterAt w3.heap.size v (pos + d.2))) := by
            obtain ⟨o1, o2, o3, o4, o5⟩ := HI.out
            have hne : some Bm ≠ some w3.heap.size := fun e => by
              obtain ⟨es, clock, hh, _⟩ := o1.1
              have e : Bm = w3.heap.size := by injection e
              rw [e, o5] at hh; cases hh
            exact ⟨o1.keep (iterAt_grown v (pos + d.2)) hne, o2, o3, Lib.below_iterAt o4 h3 v _, Lib.iterAt_heap wr _ v pos _ o5⟩
          generalize wr.iterAt w3.heap.size v (pos + d.2) = wi at *
          clear HI
          obtain ⟨o1, o2, o3, o4, o5⟩ := HI2.out
          have QB := Lib.hid (behind_any A l c d.1 Bm L hl24 wi ((Rd.below HS.out o4).more o3) o1)
          have HN : Hid (∀ Bn L' W, wi.heap.size ≤ Bn → Sm W l.length Bn L' → (∀ j, j ∈ L' ↔ ∃ a ∈ L, From l d.1 a j) → Below wi.heap.size wi W → FtI w1 v l w3.heap.size Bn L' (pos + d.2) (pre ++ [d]) W) := fun Bn L' W hB hm hj hb => by
            refine ⟨hm, fun j => ?_, by have := o4.size; omega, Below.two o4 hb, (hb.block _ (heap_lt o5)).trans o5⟩
            rw [hj, List.map_append]
            show _ ↔ Pl l (pre.map (·.1) ++ [d.1]) j
            rw [Pl.next]
            exact ⟨fun ⟨a, h1, h2⟩ => ⟨a, (o2 a).1 h1, h2⟩, fun ⟨a, h1, h2⟩ => ⟨a, (o2 a).2 h1, h2⟩⟩
          clear o1 o2 o3 o4 o5 HI2
          go_wp2_with fail
          refine QB.out.mono ?_
          rintro e w4 ⟨Bn, L', rfl, hB, hm, hj, hb⟩
          have HF := Lib.hid (HN.out Bn L' w4 hB hm hj hb)
          have hown := hm.1
          have hsz : Maps.size (Sd L') = L'.length := by simp [Sd, Maps.size]
          clear hB hm hj hb HN QB
          by_cases h0 : L' = []
          · subst h0
            have b0 : (((Maps.size (Sd []) : Nat) : Int) == 0) = true := by rfl
            have HE : Hid (fitsF (tx p) (tx v) = false) := fits_dead HSG.out HV.out HW2.out.is HF.out.2.1
            have hh : Maps.has (Sd []) (.int .i64 (l.length : Int)) = false := rfl
            go_wp2_with (first
              | (at_len; refine wpList_len_own _ rfl _ 44 rfl 3 47 Tryd.underlying44 _ Bn (l.length + 1) _ rfl hown ?_)
              | (at_lookup; refine wpList_lookup_own_unit _ rfl _ _ 44 rfl 3 47 keyL Tryd.underlying44 (by kernel_rfl) Bn (l.length + 1) _ rfl hown _ _ rfl (Maps.keyOf_int_mk Tryd.underlying3 (wfP (Nat.le_refl _) hl24)) ?_)
              | go_in)
            (try rw [Exit.noGoto_ret])
            go_ret
            exact ⟨ret_bool HE.out.symm, Below.two HB1.out (HF.out.2.2.2.1)⟩
          · have b0 : (((Maps.size (Sd L') : Nat) : Int) == 0) = false := by
              have : L'.length ≠ 0 := fun e => h0 (List.eq_nil_of_length_eq_zero e)
              rw [hsz]; simp; exact h0
            go_wp2_with (first
              | (at_len; refine wpList_len_own _ rfl _ 44 rfl 3 47 Tryd.underlying44 _ Bn (l.length + 1) _ rfl hown ?_)
              | go_in)
            go_roundw
            case rel => exact ⟨pos + d.2, pre ++ [d], Bn, L', rfl, HW2.out, HF.out⟩
            case measure =>
              have e : w4.iterPos w3.heap.size = pos + d.2 := by simp [World.iterPos, HF.out.2.2.2.2]
              rw [HP.out, e]; omega
        · have hnx : ∀ ty, (Instr.next (.pointer (some ⟨w3.heap.size, 0, none⟩)) true ty).run Tryd.prog wr = _ := fun ty => Lib.run_next_end_at wr w3.heap.size v pos ty HI.out.2.2.2.2 hps
          have HE : Hid (Maps.has (Sd L) (.int .i64 (l.length : Int)) = fitsF (tx p) (tx v)) := fits_end HSG.out HV.out (by
            unfold rn; rw [HW.out.done hps]; exact HI.out.2.1)
          have hown := HI.out.1.1
          go_wp2_with (first
            | (at_lookup; refine wpList_lookup_own_unit _ rfl _ _ 44 rfl 3 47 keyL Tryd.underlying44 (by kernel_rfl) Bm (l.length + 1) _ rfl hown _ _ rfl (Maps.keyOf_int_mk Tryd.underlying3 (wfP (Nat.le_refl _) hl24)) ?_)
            | go_in)
          (try rw [Exit.noGoto_ret])
          go_ret
          exact ⟨ret_bool HE.out, Below.two HB1.out HI.out.2.2.2.1⟩
end Go.Proofs.YtgfoeicfigfepaaDoor

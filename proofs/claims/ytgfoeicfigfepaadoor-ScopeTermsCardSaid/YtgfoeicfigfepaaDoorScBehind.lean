/-
  behind: the places behind a rune.
-/
import Derived.Test.YtgfoeicfigfepaaDoorScPut
namespace Go.Proofs.YtgfoeicfigfepaaDoor
open Go.RowKit
set_option linter.unusedVariables false
set_option linter.unusedSimpArgs false
theorem from_any {l : List Sg} {c a j : Nat} (h : l[a]? = some .any) : From l c a j ↔ Cl l a j := by
  constructor
  · rintro (⟨_, h2⟩ | ⟨s, h2, h3, _⟩)
    · exact h2
    · rw [h] at h2; exact absurd (Option.some.inj h2).symm h3
  · exact fun h2 => .inl ⟨h, h2⟩
theorem from_for {l : List Sg} {c a j : Nat} {s : Sg} (h : l[a]? = some s) (hs : s ≠ .any) : From l c a j ↔ (forB s c = true ∧ Cl l (a + 1) j) := by
  constructor
  · rintro (⟨h2, _⟩ | ⟨t, h2, h3, h4, h5⟩)
    · rw [h] at h2; exact absurd (Option.some.inj h2) hs
    · rw [h] at h2; cases h2; exact ⟨h4, h5⟩
  · rintro ⟨h1, h2⟩; exact .inr ⟨s, h, hs, h1, h2⟩
theorem from_end {l : List Sg} {c a j : Nat} (h : l[a]? = none) : ¬ From l c a j := by
  rintro (⟨h2, _⟩ | ⟨s, h2, _⟩) <;> rw [h] at h2 <;> cases h2
theorem below_grown {B X : Nat} {a w w' : World} (h : Below B a w) (hg : w.grownBy w' (some X)) (hB : B ≤ X) (hw : B ≤ w.heap.size) : Below B a w' :=
  ⟨hg.os.trans h.os, hg.tape.trans h.tape, hg.output.trans h.output, by have := h.size; have := hg.size; omega, fun i hi => (hg.block i (by omega) (by simp; omega)).trans (h.block i hi)⟩
/-- The places so far: of those of L that have come. -/
def Went2 (l : List Sg) (c : Nat) (L L' : List Nat) (left : Lit → Bool) : Prop := ∀ j, j ∈ L' ↔ ∃ a ∈ L, left (.int .i64 (a : Int)) = false ∧ From l c a j
theorem went2_start (l : List Sg) (c : Nat) (L : List Nat) : Went2 l c L [] (Maps.has (Sd L)) := fun j => by
  constructor
  · intro h; cases h
  · rintro ⟨a, ha, h, _⟩
    rw [(has_Sd L _).2 ⟨a, ha, rfl⟩] at h; cases h
theorem left_step {left : Lit → Bool} {a b : Nat} : (left (.int .i64 (b : Int)) && !(Lit.int .i64 (b : Int)).sameKey (.int .i64 (a : Int))) = false ↔ left (.int .i64 (b : Int)) = false ∨ b = a := by
  rw [sameP]; cases left (.int .i64 (b : Int)) <;> simp
theorem went2_step {l : List Sg} {c : Nat} {L L' L'' : List Nat} {left : Lit → Bool} {a : Nat} (ha : a ∈ L) (h : Went2 l c L L' left) (h2 : ∀ j, j ∈ L'' ↔ j ∈ L' ∨ From l c a j) :
    Went2 l c L L'' fun z => left z && !z.sameKey (.int .i64 (a : Int)) := fun j => by
  rw [h2, h]
  constructor
  · rintro (⟨b, hb, h1, h3⟩ | h3)
    · exact ⟨b, hb, left_step.2 (.inl h1), h3⟩
    · exact ⟨a, ha, left_step.2 (.inr rfl), h3⟩
  · rintro ⟨b, hb, h1, h3⟩
    rcases left_step.1 h1 with h1 | rfl
    · exact .inl ⟨b, hb, h1, h3⟩
    · exact .inr h3
/-- What behind does to memory while it ranges. -/
def BhI (w : World) (l : List Sg) (c : Nat) (B r Bn : Nat) (L : List Nat) (wr : World) : Prop :=
  ∃ (left : Lit → Bool) (cnt : Nat), wr.ranges Tryd.prog 3 (unitElem (H := Unit)) B r (l.length + 1) (Sd L) left cnt ∧ (∀ kl, left kl = true → Maps.has (Sd L) kl = true) ∧
    (∃ L', Sm wr l.length Bn L' ∧ Went2 l c L L' left) ∧ Below w.heap.size w wr
set_option maxRecDepth 100000 in
set_option maxHeartbeats 4000000 in
theorem behind_any (A : Option Addr) (l : List Sg) (cap c B : Nat) (L : List Nat) (hN : l.length ≤ 100000) (w : World) (hR : Sgs w B A l) (hM : Sm w l.length B L) :
    Calls Tryd.prog 16 #[.map (some B), .slice A l.length cap, .int .i32 (c : Int)] w fun e w' => ∃ Bn L', e = .returned (.map (some Bn)) ∧ w.heap.size ≤ Bn ∧ Sm w' l.length Bn L' ∧ (∀ j, j ∈ L' ↔ ∃ a ∈ L, From l c a j) ∧ Below w.heap.size w w' := by
  have HR := Lib.hid hR
  have hB := hM.lt
  have HL := Lib.hid hM.2.2
  have M0 := (hM.later (below_al (below_0 w) (.map #[] 0))).1
  have N0 := Lib.hid (Sm.made w l.length)
  have HB0 := Lib.hid (below_al (below_0 w) (.map #[] 0))
  clear hR hM
  have hmk : (Instr.makeMap 44 none).run Tryd.prog w = .ok (.map (some w.heap.size)) (w.alloc (.map #[] 0)) := by kernel_rfl
  go_enter Tryd.func16, Tryd.ntmps16
  go_wp2_with (first
    | (at_range; refine wpList_range_own _ rfl _ 44 rfl 3 47 keyL Tryd.underlying44 _ B (l.length + 1) _ rfl M0 ?_; intro w1 hrg0 hg0 hs0)
    | go_in)
  have HI : Hid (BhI w l c B (w.heap.size + 1) w.heap.size L w1) := by
    refine ⟨Maps.has (Sd L), Maps.size (Sd L), ?_, fun kl h => h, ⟨[], N0.out.keep hg0 (by simp), went2_start l c L⟩, ?_⟩
    · have e : (w.alloc (.map #[] 0)).heap.size = w.heap.size + 1 := by simp
      rw [e] at hrg0; exact hrg0
    · exact below_grown HB0.out (hg0.but (some (w.heap.size + 1))) (by omega) (by simp)
  have e : (w.alloc (.map #[] 0)).heap.size = w.heap.size + 1 := by simp
  rw [e]
  clear M0 N0 HB0 hrg0 hg0 hs0 e hmk
  go_frame
  go_loopw [8] (fun _ wr => BhI w l c B (w.heap.size + 1) w.heap.size L wr) (fun _ wr => wr.rangeLeft B (w.heap.size + 1))
  case atStart => exact HI.out
  case round =>
    clear HI
    obtain ⟨left, cnt, hrg, hle, ⟨L', hM', hW⟩, hB'⟩ := hrel
    have HLe := Lib.hid hle
    have HM := Lib.hid hM'
    have HW := Lib.hid hW
    have HB := Lib.hid hB'
    clear hle hM' hW hB'
    go_wp2_with (first
      | (at_next; refine wpList_next_ranges _ rfl _ rfl 3 keyL (unitElem (H := Unit)) (Value.int .i64) (fun _ : Unit => Value.agg #[]) (fun key kl h => by obtain ⟨x, e, _⟩ := Maps.keyOf_int_inv Tryd.underlying3 h; exact ⟨x, e⟩) (fun v y h => ⟨(), (unitElem_inv h).1⟩) B _ _ _ _ _ rfl hrg ?_ ?_)
      | go_in)
    · intro _ hl0
      have HE : Hid (∀ j, j ∈ L' ↔ ∃ a ∈ L, From l c a j) := fun j => by
        rw [HW.out j]
        exact ⟨fun ⟨a, h1, _, h2⟩ => ⟨a, h1, h2⟩, fun ⟨a, h1, h2⟩ => ⟨a, h1, hl0 _, h2⟩⟩
      clear hrg hl0 HW HLe
      go_wp2_with fail
      go_ret
      exact ⟨_, L', rfl, Nat.le_refl _, HM.out, HE.out, HB.out⟩
    · intro x _ kl y w1 cnt1 hkey hlk _ _ hrg1 hlt hg1 hs1 hen
      obtain ⟨x', ex, rfl, hwx⟩ := Maps.keyOf_int_inv Tryd.underlying3 hkey
      cases ex
      obtain ⟨a, ha, rfl⟩ := (has_Sd L x).1 (HLe.out _ hlk)
      have HLe1 : Hid (∀ kl, (left kl && !kl.sameKey (.int .i64 (a : Int))) = true → Maps.has (Sd L) kl = true) := fun kl h => HLe.out kl (Bool.and_eq_true_iff.1 h).1
      have haN := HL.out a ha
      have HB1 := Lib.hid (below_grown HB.out hg1 (Nat.le_succ _) HB.out.size)
      have HM1 := Lib.hid (HM.out.keep hg1 (by simp))
      have HR1 : Hid (Sgs w1 B A l) := Rd.below HR.out (HB1.out.mono (Nat.le_of_lt hB))
      have HLT : Hid (w1.rangeLeft B (w.heap.size + 1) < wr.rangeLeft B (w.heap.size + 1)) := by show _ < _; rw [hrg1.left_eq, hrg.left_eq]; exact hlt
      have HRG := Lib.hid hrg1
      have HLEQ := Lib.hid hrg1.left_eq
      have HS : Hid (∀ L'' W, w1.grownBy W (some w.heap.size) → Sm W l.length w.heap.size L'' → (∀ j, j ∈ L'' ↔ j ∈ L' ∨ From l c a j) → BhI w l c B (w.heap.size + 1) w.heap.size L W ∧ W.rangeLeft B (w.heap.size + 1) < wr.rangeLeft B (w.heap.size + 1)) := fun L'' W hg hm hj => by
        have hk := HRG.out.kept hg (by simp; omega) (by simp)
        refine ⟨⟨_, _, hk, HLe1.out, ⟨L'', hm, went2_step ha HW.out hj⟩, below_grown HB1.out hg (Nat.le_refl _) HB1.out.size⟩, ?_⟩
        rw [hk.left_eq, ← HLEQ.out]; exact HLT.out
      have hB2 : B ≤ w.heap.size := Nat.le_of_lt hB
      have hB1' : w.heap.size < w1.heap.size := HM1.out.lt
      clear hkey hlk hrg hrg1 hlt hg1 hs1 HLe1 HB1 HLT HRG HLEQ HB HM HW HLe HR HL ha hwx
      by_cases hN1 : a = l.length
      · subst hN1
        have d1 : ((l.length : Int) == (l.length : Int)) = true := by simp
        have HE := HS.out L' w1 (World.grownBy.refl _ _) HM1.out (fun j => ⟨.inl, fun h => h.elim id fun h => absurd h (from_end (List.getElem?_eq_none (Nat.le_refl _)))⟩)
        have HF := Lib.hid HE
        clear HE HS HM1 HR1
        go_wp2_with fail
        go_roundw
        case rel => exact HF.out.1
        case measure => exact HF.out.2
      · have ha1 : a < l.length := by omega
        have d1 : ((a : Int) == (l.length : Int)) = false := by simp; omega
        obtain ⟨b, off, rfl, hb, hc⟩ := HR1.out.at_ ha1
        have hi1 : (0 : Int) ≤ (a : Int) := by omega
        have hi2 : (a : Int) < (l.length : Int) := by omega
        have hel : l[a]? = some l[a] := List.getElem?_eq_getElem ha1
        have QA := Lib.hid (fun w => isAny_any l[a] w)
        have QP : Hid (∀ W, Below w1.heap.size w1 W → ∀ k, k ≤ l.length → Calls Tryd.prog 15 #[.map (some w.heap.size), .slice (some ⟨b, off, none⟩) l.length cap, .int .i64 (k : Int)] W fun e w' => e = .returned (.tuple #[]) ∧ (∃ L'', Sm w' l.length w.heap.size L'' ∧ ∀ j, j ∈ L'' ↔ j ∈ L' ∨ Cl l k j) ∧ W.grownBy w' (some w.heap.size)) := fun W hb k hk =>
          put_any _ l cap k w.heap.size L' hN hk W ((Rd.below HR1.out (hb.mono (by omega))).more hB2) (HM1.out.later hb)
        by_cases hany : l[a] = .any
        · have HE : Hid (∀ j, From l c a j ↔ Cl l a j) := fun j => from_any (by rw [hel, hany])
          rw [decide_eq_true hany] at QA
          clear hel hany HM1 HR1 hN1
          generalize sgV l[a] = sv at *
          go_wp2_with fail
          refine (QA.out _).mono ?_
          rintro e w2 ⟨rfl, hb2⟩
          have QP2 := Lib.hid (QP.out w2 hb2 a (Nat.le_of_lt ha1))
          have HB2 := Lib.hid hb2
          clear QP hb2 QA
          go_wp2_with fail
          refine QP2.out.mono ?_
          rintro e w3 ⟨rfl, ⟨L'', hm, hj⟩, hg⟩
          have HF := Lib.hid (HS.out L'' w3 (grow_trans (grow_of_below HB2.out _) hg) hm (fun j => by rw [hj, HE.out]))
          clear hm hj hg QP2 HB2 HS
          go_wp2_with fail
          go_roundw
          case rel => exact HF.out.1
          case measure => exact HF.out.2
        · have HE : Hid (∀ j, From l c a j ↔ (forB l[a] c = true ∧ Cl l (a + 1) j)) := fun j => from_for hel hany
          have QF := Lib.hid (fun w => isFor_any l[a] hany c w)
          rw [decide_eq_false hany] at QA
          clear hel hany HR1 hN1
          cases hf : forB l[a] c with
          | true =>
            rw [hf] at QF HE
            clear HM1 hf
            generalize sgV l[a] = sv at *
            go_wp2_with fail
            refine (QA.out _).mono ?_
            rintro e w2 ⟨rfl, hb2⟩
            have HB2 := Lib.hid hb2
            have hc2 := (hb2.cell (p := ⟨b, off + a, none⟩) (by show b < _; omega)).trans hc
            clear hb2 QA
            go_wp2_with fail
            refine (QF.out _).mono ?_
            rintro e w3 ⟨rfl, hb3⟩
            have HB3 := Lib.hid (Below.two HB2.out hb3)
            have QP2 := Lib.hid (QP.out w3 HB3.out (a + 1) ha1)
            have hpl : ((a + 1 : Nat) : Int) = (a : Int) + 1 := by omega
            rw [hpl] at QP2
            clear QP hb3 QF HB2 hpl
            go_wp2_with fail
            refine QP2.out.mono ?_
            rintro e w4 ⟨rfl, ⟨L'', hm, hj⟩, hg⟩
            have HF := Lib.hid (HS.out L'' w4 (grow_trans (grow_of_below HB3.out _) hg) hm (fun j => by rw [hj, HE.out]; simp))
            clear hm hj hg QP2 HB3 HS
            go_wp2_with fail
            go_roundw
            case rel => exact HF.out.1
            case measure => exact HF.out.2
          | false =>
            rw [hf] at QF HE
            clear hf QP
            generalize sgV l[a] = sv at *
            go_wp2_with fail
            refine (QA.out _).mono ?_
            rintro e w2 ⟨rfl, hb2⟩
            have HB2 := Lib.hid hb2
            have hc2 := (hb2.cell (p := ⟨b, off + a, none⟩) (by show b < _; omega)).trans hc
            clear hb2 QA
            go_wp2_with fail
            refine (QF.out _).mono ?_
            rintro e w3 ⟨rfl, hb3⟩
            have HB3 := Lib.hid (Below.two HB2.out hb3)
            have HF := Lib.hid (HS.out L' w3 (grow_of_below HB3.out _) (HM1.out.later HB3.out) (fun j => by rw [HE.out]; simp))
            clear HS HB3 HB2 hb3 QF HM1
            go_wp2_with fail
            go_roundw
            case rel => exact HF.out.1
            case measure => exact HF.out.2
end Go.Proofs.YtgfoeicfigfepaaDoor

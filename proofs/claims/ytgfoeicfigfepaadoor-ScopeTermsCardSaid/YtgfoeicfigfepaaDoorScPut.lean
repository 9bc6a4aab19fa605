/-
  put: a place, and those behind it that no rune is needed for.
-/
import Derived.Test.YtgfoeicfigfepaaDoorScSign
import Derived.Maps.RangeWalk
import Derived.Maps.OwnSet
namespace Go.Proofs.YtgfoeicfigfepaaDoor
open Go.RowKit
set_option linter.unusedVariables false
set_option linter.unusedSimpArgs false
def entP (x : Nat) : Lit × DataW Unit := (.int .i64 (x : Int), .agg [])
/-- A set of places, as a map reads. -/
def Sd (L : List Nat) : DataW Unit := .map (L.map entP)
theorem sameI (a b : Int) : (Lit.int .i64 a).sameKey (.int .i64 b) = (a == b) := by
  simp only [Lit.sameKey, true_and]; rfl
theorem sameP (a b : Nat) : (Lit.int .i64 (a : Int)).sameKey (.int .i64 (b : Int)) = (a == b) := by
  rw [sameI]
  by_cases h : a = b
  · subst h; simp
  · rw [beq_eq_false_iff_ne.2 h, beq_eq_false_iff_ne.2 (by omega)]
theorem has_Sd (L : List Nat) (x : Int) : Maps.has (Sd L) (.int .i64 x) = true ↔ ∃ j ∈ L, (j : Int) = x := by
  show (L.map entP).any _ = true ↔ _
  rw [List.any_eq_true]
  constructor
  · rintro ⟨p, hp, h⟩
    obtain ⟨j, hj, rfl⟩ := List.mem_map.1 hp
    refine ⟨j, hj, ?_⟩
    have h : (Lit.int .i64 (j : Int)).sameKey (.int .i64 x) = true := h
    rw [sameI] at h
    simpa using h
  · rintro ⟨j, hj, rfl⟩
    exact ⟨entP j, List.mem_map.2 ⟨j, hj, rfl⟩, by show (Lit.int .i64 (j : Int)).sameKey _ = true; rw [sameP]; simp⟩
def putP : List Nat → Nat → List Nat
  | [], k => [k]
  | x :: m, k => if x < k then x :: putP m k else if x = k then k :: m else k :: x :: m
theorem mem_putP : ∀ (L : List Nat) (k j : Nat), j ∈ putP L k ↔ j = k ∨ j ∈ L
  | [], k, j => by simp [putP]
  | x :: m, k, j => by
    unfold putP
    split
    · rw [List.mem_cons, mem_putP m k j, List.mem_cons]
      constructor
      · rintro (h | h | h)
        · exact .inr (.inl h)
        · exact .inl h
        · exact .inr (.inr h)
      · rintro (h | h | h)
        · exact .inr (.inl h)
        · exact .inl h
        · exact .inr (.inr h)
    · split
      · next e => subst e; simp
      · simp
theorem putP_rise : ∀ {L : List Nat} (k : Nat), L.Pairwise (· < ·) → (putP L k).Pairwise (· < ·)
  | [], k, _ => List.pairwise_singleton _ _
  | x :: m, k, h => by
    obtain ⟨h1, h2⟩ := List.pairwise_cons.1 h
    unfold putP
    split
    · next hx =>
      refine List.pairwise_cons.2 ⟨fun y hy => ?_, putP_rise k h2⟩
      rcases (mem_putP m k y).1 hy with rfl | hy
      · exact hx
      · exact h1 y hy
    · split
      · next e => subst e; exact h
      · next hx hne =>
        refine List.pairwise_cons.2 ⟨fun y hy => ?_, h⟩
        rcases List.mem_cons.1 hy with rfl | hy
        · omega
        · have := h1 y hy; omega
theorem rise_len : ∀ (L : List Nat) (a N : Nat), L.Pairwise (· < ·) → (∀ j ∈ L, a ≤ j ∧ j ≤ N) → L.length ≤ N + 1 - a
  | [], a, N, _, _ => Nat.zero_le _
  | x :: m, a, N, h, hb => by
    obtain ⟨h1, h2⟩ := List.pairwise_cons.1 h
    have hx := hb x List.mem_cons_self
    have := rise_len m (x + 1) N h2 fun j hj => ⟨h1 j hj, (hb j (List.mem_cons_of_mem _ hj)).2⟩
    rw [List.length_cons]; omega
theorem insert_firstP {k : Nat} : ∀ {m : List Nat}, (∀ x ∈ m, k < x) → DataW.insert (entP k) (m.map entP) = entP k :: m.map entP
  | [], _ => rfl
  | x :: m, h => by
    have hx := h x List.mem_cons_self
    have : (entP k).1.before (entP x).1 = true := by simp [entP, Lit.before]; omega
    simp [DataW.insert, this]
theorem filterP (m : List Nat) (k : Nat) : (m.map entP).filter (fun p => !p.1.sameKey (.int .i64 (k : Int))) = (m.filter fun x => x != k).map entP := by
  induction m with
  | nil => rfl
  | cons x m ih =>
    simp only [List.map_cons, List.filter_cons, ih]
    have : (entP x).1.sameKey (.int .i64 (k : Int)) = (x == k) := sameP _ _
    rw [this]
    cases h : x == k <;> simp [bne, h]
theorem filter_goneP {k : Nat} {m : List Nat} (h : ∀ x ∈ m, x ≠ k) : (m.filter fun x => x != k) = m := List.filter_eq_self.2 fun x hx => by simp [h x hx]
theorem insert_putP (k : Nat) : ∀ {m : List Nat}, m.Pairwise (· < ·) → DataW.insert (entP k) ((m.filter fun x => x != k).map entP) = (putP m k).map entP
  | [], _ => rfl
  | x :: m, h => by
    obtain ⟨h1, h2⟩ := List.pairwise_cons.1 h
    rcases Nat.lt_trichotomy x k with hlt | heq | hgt
    · have d : (x != k) = true := by simp; omega
      have b : (entP k).1.before (entP x).1 = false := by simp [entP, Lit.before]; omega
      rw [List.filter_cons, d, if_pos rfl, List.map_cons, DataW.insert, b, if_neg (by simp), insert_putP k h2, putP, if_pos hlt, List.map_cons]
    · have d : (x != k) = false := by simp [heq]
      have g : ∀ y ∈ m, k < y := fun y hy => by have := h1 y hy; omega
      rw [List.filter_cons, d, if_neg (by simp), filter_goneP (fun y hy => by have := g y hy; omega), insert_firstP g, putP, if_neg (by omega), if_pos heq, List.map_cons]
    · have g : ∀ y ∈ x :: m, k < y := fun y hy => by
        rcases List.mem_cons.1 hy with rfl | h'
        · exact hgt
        · have := h1 y h'; omega
      rw [filter_goneP (fun y hy => by have := g y hy; omega), insert_firstP g, putP, if_neg (by omega), if_neg (by omega), List.map_cons, List.map_cons, List.map_cons]
theorem Sd_put {L : List Nat} (h : L.Pairwise (· < ·)) (k : Nat) : (Sd L).put (.int .i64 (k : Int)) (.agg []) = Sd (putP L k) := by
  show DataW.map (DataW.insert (entP k) ((L.map entP).filter fun p => !p.1.sameKey (.int .i64 (k : Int)))) = DataW.map _
  rw [filterP, insert_putP k h]
/-- Block B is a map whose keys are the places of L, all at most N. -/
def Sm (w : World) (N B : Nat) (L : List Nat) : Prop := w.ownsMap Tryd.prog 3 (unitElem (H := Unit)) B (N + 1) (Sd L) ∧ L.Pairwise (· < ·) ∧ ∀ j ∈ L, j ≤ N
theorem keyL : Maps.Keyed Tryd.prog 3 := Maps.int_keyed Tryd.underlying3
theorem wfP {N k : Nat} (hk : k ≤ N) (hN : N ≤ 100000) : (Lit.int .i64 (k : Int)).wf = true := WalkArith.wf_i64 (by constructor <;> omega)
theorem Sm.made (w : World) (N : Nat) : Sm (w.alloc (.map #[] 0)) N w.heap.size [] :=
  ⟨World.ownsMap.mono (World.ownsMap_made w Tryd.prog 3 (unitElem (H := Unit))) (Nat.zero_le _), List.Pairwise.nil, fun j hj => by cases hj⟩
theorem own_tight {w : World} {B n m : Nat} {D : DataW Unit} (h : w.ownsMap Tryd.prog 3 (unitElem (H := Unit)) B n D) (hm : Maps.size D ≤ m) : w.ownsMap Tryd.prog 3 (unitElem (H := Unit)) B m D := by
  obtain ⟨es, clock, hb, F, hs, rfl⟩ := h
  exact ⟨es, clock, hb, F, by simpa [Maps.size, length_sorted] using hm, rfl⟩
theorem Sm.update {w : World} {N B k : Nat} {L : List Nat} (h : Sm w N B L) (hN : N ≤ 100000) (hk : k ≤ N) :
    ∃ w', (Instr.mapUpdate 44 (.map (some B)) (.int .i64 (k : Int)) (.agg #[])).run Tryd.prog w = .ok () w' ∧ Sm w' N B (putP L k) ∧ w.grownBy w' (some B) := by
  obtain ⟨h1, h2, h3⟩ := h
  have hm : N + 1 < maxLen := by unfold maxLen; omega
  obtain ⟨w', e1, e2, e3⟩ := World.ownsMap.update h1 keyL Tryd.underlying44 hm (Maps.keyOf_int_mk Tryd.underlying3 (wfP hk hN)) unitElem_mk
  rw [Sd_put h2] at e2
  have hb : ∀ j ∈ putP L k, j ≤ N := fun j hj => by
    rcases (mem_putP L k j).1 hj with rfl | hj
    · exact hk
    · exact h3 j hj
  have hl : (putP L k).length ≤ N + 1 := rise_len _ 0 N (putP_rise k h2) fun j hj => ⟨Nat.zero_le _, hb j hj⟩
  exact ⟨w', e1, ⟨own_tight e2 (by simpa [Sd, Maps.size] using hl), putP_rise k h2, hb⟩, e3⟩
theorem Sm.lt {w : World} {N B : Nat} {L : List Nat} (h : Sm w N B L) : B < w.heap.size := World.ownsMap.lt h.1
theorem Sm.keep {w w' : World} {N B : Nat} {L : List Nat} {row : Option Nat} (h : Sm w N B L) (hg : w.grownBy w' row) (hne : some B ≠ row) : Sm w' N B L := ⟨World.ownsMap.kept h.1 hg hne, h.2⟩
theorem Sm.later {w w' : World} {N B : Nat} {L : List Nat} (h : Sm w N B L) (hb : Below w.heap.size w w') : Sm w' N B L := h.keep (grow_of_below hb none) (by simp)
/-- A slice of signs: it lies below block B. -/
def Sgs (w : World) (B : Nat) (A : Option Addr) (l : List Sg) : Prop := Rd w B A (l.map sgV)
theorem Sgs.keep {w w' : World} {B X : Nat} {A : Option Addr} {l : List Sg} (h : Sgs w B A l) (hB : B ≤ w.heap.size) (hg : w.grownBy w' (some X)) (hx : B ≤ X) : Sgs w' B A l :=
  Rd.keep h fun b o hb => hg.cell_far ⟨b, o, none⟩ (by show b < _; omega) (by simp; omega)
theorem Sgs.at_ {w : World} {B k : Nat} {A : Option Addr} {l : List Sg} (h : Sgs w B A l) (hk : k < l.length) : ∃ b off, A = some ⟨b, off, none⟩ ∧ b < B ∧ w.cell? ⟨b, off + k, none⟩ = some (sgV l[k]) := by
  obtain ⟨b, off, e, hb, hc⟩ := Rd.at_ h (by rw [List.length_map]; omega)
  exact ⟨b, off, e, hb, hc k _ (by rw [List.getElem?_map, List.getElem?_eq_getElem hk]; rfl)⟩
theorem cl_step {l : List Sg} {k x j : Nat} (hx : x < l.length) (ha : l[x] = .any) (h : Cl l k x) : (Cl l k j ∧ j ≤ x + 1) ↔ (j = x + 1 ∨ (Cl l k j ∧ j ≤ x)) := by
  constructor
  · rintro ⟨h1, h2⟩
    by_cases e : j = x + 1
    · exact .inl e
    · exact .inr ⟨h1, by omega⟩
  · rintro (rfl | ⟨h1, h2⟩)
    · refine ⟨⟨by have := h.1; omega, hx, fun i i1 i2 => ?_⟩, Nat.le_refl _⟩
      by_cases e : i = x
      · rw [e, List.getElem?_eq_getElem hx, ha]
      · exact h.2.2 i i1 (by omega)
    · exact ⟨h1, by omega⟩
theorem cl_end {l : List Sg} {k x j : Nat} (h : Cl l k x) (hn : ¬ l[x]? = some .any) : (Cl l k j ∧ j ≤ x) ↔ Cl l k j :=
  ⟨fun h => h.1, fun h1 => ⟨h1, Nat.le_of_not_lt fun hlt => hn (h1.2.2 x h.1 hlt)⟩⟩
set_option maxRecDepth 100000 in
set_option maxHeartbeats 2000000 in
theorem put_any (A : Option Addr) (l : List Sg) (cap k B : Nat) (L : List Nat) (hN : l.length ≤ 100000) (hk : k ≤ l.length) (w : World) (hR : Sgs w B A l) (hM : Sm w l.length B L) :
    Calls Tryd.prog 15 #[.map (some B), .slice A l.length cap, .int .i64 (k : Int)] w fun e w' => e = .returned (.tuple #[]) ∧ (∃ L', Sm w' l.length B L' ∧ ∀ j, j ∈ L' ↔ j ∈ L ∨ Cl l k j) ∧ w.grownBy w' (some B) := by
  have HR := Lib.hid hR
  obtain ⟨w1, hrun, M1, G1⟩ := hM.update hN hk
  have HM1 := Lib.hid M1
  have HG1 := Lib.hid G1
  have hB := hM.lt
  have HR1 := Lib.hid (hR.keep (by omega) G1 (Nat.le_refl _))
  have HC := Lib.hid (Cl.self (l := l) hk)
  clear hR hM M1 G1
  go_enter Tryd.func15, Tryd.ntmps15
  go_wp2_with fail
  go_loopw [2] (fun i wr => ∃ x : Nat, i = .int .i64 (x : Int) ∧ Hid (Cl l k x) ∧ Hid (∃ L', Sm wr l.length B L' ∧ ∀ j, j ∈ L' ↔ j ∈ L ∨ (Cl l k j ∧ j ≤ x)) ∧ Hid (w.grownBy wr (some B))) (fun i _ => l.length - (RowKit.intOf i).toNat)
  case atStart =>
    refine ⟨k, rfl, HC, ⟨_, HM1.out, fun j => ?_⟩, HG1⟩
    rw [mem_putP]
    constructor
    · rintro (rfl | h)
      · exact .inr ⟨HC.out, Nat.le_refl _⟩
      · exact .inl h
    · rintro (h | ⟨h, h2⟩)
      · exact .inr h
      · exact .inl (Nat.le_antisymm h2 h.1)
  case round =>
    obtain ⟨x, rfl, HX, HL, HG⟩ := hrel
    clear hrun HC HM1 HG1 HR1
    obtain ⟨L', hM', hL'⟩ := HL.out
    have hRr := HR.out.keep (by omega) HG.out (Nat.le_refl _)
    by_cases h1 : x < l.length
    · have d1 : decide ((x : Int) < (l.length : Int)) = true := decide_eq_true (by omega)
      obtain ⟨b, off, rfl, hb, hc⟩ := hRr.at_ h1
      have hi1 : (0 : Int) ≤ (x : Int) := by omega
      have hi2 : (x : Int) < (l.length : Int) := by omega
      have QA := Lib.hid (fun w => isAny_any l[x] w)
      by_cases ha : l[x] = .any
      · have HC1 : Hid (Cl l k (x + 1)) := (((cl_step h1 ha HX.out).2 (.inl rfl)).1)
        have HST := Lib.hid (fun j => cl_step (j := j) h1 ha HX.out)
        rw [decide_eq_true ha] at QA
        have HMr := Lib.hid hM'
        have HLr := Lib.hid hL'
        clear HL hL' hM' hRr ha
        generalize sgV l[x] = sv at *
        go_wp2_with fail
        refine (QA.out _).mono ?_
        rintro e w2 ⟨rfl, hb2⟩
        have HB2 := Lib.hid hb2
        obtain ⟨w3, hrun, M3, G3⟩ := (HMr.out.later hb2).update hN (k := x + 1) (by omega)
        have HM3 := Lib.hid M3
        have HG3 := Lib.hid G3
        clear hb2 M3 G3 HMr
        have hpl : (x : Int) + 1 = ((x + 1 : Nat) : Int) := by omega
        rw [← hpl] at hrun
        clear hpl
        go_wp2_with fail
        go_roundw
        case rel =>
          refine ⟨x + 1, by go_num, HC1, ⟨_, HM3.out, fun j => ?_⟩, grow_trans (grow_trans HG.out (grow_of_below HB2.out _)) HG3.out⟩
          rw [mem_putP, HLr.out, HST.out]
          constructor
          · rintro (h | h | h)
            · exact .inr (.inl h)
            · exact .inl h
            · exact .inr (.inr h)
          · rintro (h | h | h)
            · exact .inr (.inl h)
            · exact .inl h
            · exact .inr (.inr h)
        case measure => simp [RowKit.intOf]; omega
      · rw [decide_eq_false ha] at QA
        have HE := Lib.hid (fun j => cl_end (j := j) HX.out (by rw [List.getElem?_eq_getElem h1]; exact fun e => ha (Option.some.inj e)))
        have HMr := Lib.hid hM'
        have HLr := Lib.hid hL'
        clear HL hL' hM' hRr ha
        generalize sgV l[x] = sv at *
        go_wp2_with fail
        refine (QA.out _).mono ?_
        rintro e w2 ⟨rfl, hb2⟩
        have HB2 := Lib.hid hb2
        clear hb2
        go_wp2_with fail
        refine bodyPost_end (v := .tuple #[]) (by simp [results, Tryd.results15, go_sem]) rfl ⟨rfl, ⟨_, HMr.out.later HB2.out, fun j => ?_⟩, grow_trans HG.out (grow_of_below HB2.out _)⟩
        rw [HLr.out, HE.out]
    · have d1 : decide ((x : Int) < (l.length : Int)) = false := decide_eq_false (by omega)
      have HE := Lib.hid (fun j => cl_end (j := j) HX.out (by rw [List.getElem?_eq_none (by omega)]; simp))
      have HMr := Lib.hid hM'
      have HLr := Lib.hid hL'
      clear HL hL' hM' hRr
      go_wp2_with fail
      refine bodyPost_end (v := .tuple #[]) (by simp [results, Tryd.results15, go_sem]) rfl ⟨rfl, ⟨_, HMr.out, fun j => ?_⟩, HG.out⟩
      rw [HLr.out, HE.out]
end Go.Proofs.YtgfoeicfigfepaaDoor

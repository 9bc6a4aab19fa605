/-
  The document's put: a label among labels, by its name.
-/
import Derived.Test.YtlcpigkgbihebaaDoorLabRef8
namespace Go.Proofs.YtlcpigkgbihebaaDoor
open Go.RowKit Go.PlainAid
set_option linter.unusedVariables false
set_option linter.unusedSimpArgs false
theorem put_at : ∀ {l : List Lab} {x : Lab} {k : Nat}, k ≤ l.length → (∀ j, j < k → ahead (lth l j) x = true) → (k = l.length ∨ ahead (lth l k) x = false) → putF l x = l.take k ++ x :: l.drop k
  | [], x, k, hk, _, _ => by
    have : k = 0 := by simpa using hk
    subst this; rfl
  | y :: l, x, 0, _, _, he => by
    rcases he with he | he
    · simp at he
    · exact put_cons_neg he
  | y :: l, x, k + 1, hk, h, he => by
    have h0 : ahead y x = true := h 0 (by omega)
    rw [put_cons_pos h0, put_at (k := k) (by simpa using hk) (fun j hj => by have := h (j + 1) (by omega); simpa [lth] using this) (by
      rcases he with he | he
      · left; simpa using he
      · right; simpa [lth] using he)]
    rfl
theorem least_ahead (y x : Lab) : decide (leastF (tx y.1) (tx x.1) < 0) = ahead y x := by
  unfold ahead
  rcases leastF_ls (tx y.1) (tx x.1) with ⟨e, h⟩ | ⟨e, h⟩ | ⟨e, h⟩
  · rw [e, h]; rfl
  · rw [e, h, lsB_irr]; rfl
  · rw [e, lsB_asymm h]; rfl
theorem Tryd.sizeLab (w : World) : (Go.sizeOf (Tryd.prog.elem 23)).run Tryd.prog w = .ok 2 w := by
  have he : Tryd.prog.elem 23 = 41 := by simp [Program.elem, Tryd.underlying23]
  obtain ⟨i0, hi0, hz0, hz1, hz2⟩ := info_parts Tryd.infoLab
  rw [he]; simp [Go.sizeOf, typeInfo, hi0, hz1]
theorem lab_to (A : Option Addr) (n cap k : Nat) (hk : k ≤ cap) (w : World) :
    (Instr.slice 23 (.slice A n cap) none (some (.int .i64 (k : Int))) none).run Tryd.prog w = .ok (.slice A k cap) w := by
  have ht : Tryd.prog.underlying 23 = some (.slice (Tryd.prog.elem 23)) := by
    have he : Tryd.prog.elem 23 = 41 := by simp [Program.elem, Tryd.underlying23]
    rw [he]; exact Tryd.underlying23
  rw [run_slice_h (P := Tryd.prog) w 23 A n cap ht .i64 (k : Int) (by omega) (by omega), Tryd.sizeLab]
  have e : Option.map (fun x : Addr => x.add 0) A = A := by cases A <;> simp [Addr.add_zero']
  simp [Result.andThen, sliced, e]
def fromA (A : Option Addr) (k cap : Nat) : Option Addr := if cap = k then A else A.map (·.add (k * 2))
theorem lab_from (A : Option Addr) (n cap k : Nat) (hk : k ≤ n) (w : World) :
    (Instr.slice 23 (.slice A n cap) (some (.int .i64 (k : Int))) none none).run Tryd.prog w = .ok (.slice (fromA A k cap) (n - k) (cap - k)) w := by
  have ht : Tryd.prog.underlying 23 = some (.slice (Tryd.prog.elem 23)) := by
    have he : Tryd.prog.elem 23 = 41 := by simp [Program.elem, Tryd.underlying23]
    rw [he]; exact Tryd.underlying23
  rw [run_slice_l (P := Tryd.prog) w 23 A n cap ht .i64 (k : Int) (by omega) (by omega), Tryd.sizeLab]
  simp [Result.andThen, sliced, fromA]
theorem lb_from {w : World} {B : Nat} {A : Option Addr} {l : List Lab} (h : Lb w B A l) {k cap : Nat} (hc : l.length ≤ cap) : Lb w B (fromA A k cap) (l.drop k) := fun hl => by
  have hk : k < l.length := by
    apply Classical.byContradiction
    intro e
    rw [List.drop_of_length_le (by omega)] at hl
    exact hl rfl
  obtain ⟨b, off, rfl, _, _⟩ := h.at_ (by omega)
  have e : fromA (some ⟨b, off, none⟩) k cap = some ⟨b, off + k * 2, none⟩ := by
    unfold fromA; rw [if_neg (by omega)]
    show some (Addr.add _ _) = _
    unfold Addr.add
    split
    · rename_i h0; rw [h0]; rfl
    · rfl
  rw [e]
  exact h.drop_ k hl
theorem rd_len {l : List Lab} : (flatL l).length = l.length * 2 := by rw [length_flatL]; omega
theorem flat_one {l : List Lab} : ∀ u ∈ flatL l, u.oneCell' = true := fun u hu => by
  unfold flatL at hu
  obtain ⟨x, _, hu⟩ := List.mem_flatMap.1 hu
  simp at hu; rcases hu with rfl | rfl <;> rfl
theorem flat_append (l m : List Lab) : flatL l ++ flatL m = flatL (l ++ m) := by simp [flatL]
theorem own_cap2 {w : World} {B n : Nat} {A : Option Addr} {c : Nat} {xs : List Value} (h : w.ownsRow B 41 2 (.slice A n c) n xs) : n ≤ c := own_cap h
theorem own_lb2 {w : World} {B n c : Nat} {A : Option Addr} {l : List Lab} (h : w.ownsRow B 41 2 (.slice A n c) n (flatL l)) : Lb w w.heap.size A l := by
  have h' := h
  rcases h with ⟨h1, ⟨h2, e⟩ | ⟨g, cap, cur, hv, hb, hh, h3⟩⟩
  · intro hl
    subst e
    rw [Nat.zero_mul] at h1
    exact absurd (List.eq_nil_of_length_eq_zero h1) hl
  · cases hv
    exact own_lb h'
theorem own_max {w : World} {B n : Nat} {A : Option Addr} {c : Nat} {xs : List Value} (h : w.ownsRow B 41 2 (.slice A n c) n xs) : c ≤ 9223372036854775807 := by
  rcases h with ⟨_, ⟨h2, _⟩ | ⟨g, cap, cur, hv, _, _, _, h4, _⟩⟩
  · cases h2; omega
  · cases hv; unfold maxLen at h4; omega
set_option maxRecDepth 100000 in
set_option maxHeartbeats 8000000 in
theorem put_any (A : Option Addr) (l : List Lab) (cap : Nat) (x : Lab) (hl : l.length ≤ 1000) (hc : l.length ≤ cap) (hcm : cap ≤ 9223372036854775807) (hs : ∀ y ∈ l, y.1.size ≤ maxLen) (hx : x.1.size ≤ maxLen) (w : World) (hS : Lb w w.heap.size A l) :
    Calls Tryd.prog 32 #[.slice A l.length cap, .agg #[.string x.1, .string x.2]] w fun e w' => (∃ A' c', e = .returned (.slice A' (l.length + 1) c') ∧ l.length + 1 ≤ c' ∧ c' ≤ 9223372036854775807 ∧ Lb w' w'.heap.size A' (putF l x)) ∧ Below w.heap.size w w' := by
  have HS := Lib.hid hS
  have HZ : Hid (∀ k, (lth l k).1.size ≤ maxLen) := fun k => by
    unfold lth
    cases e : l[k]? with
    | none => show (0 : Nat) ≤ _; omega
    | some y => exact hs y (List.mem_of_getElem? e)
  have HX := Lib.hid hx
  clear hS hs hx
  obtain ⟨nm, vl⟩ := x
  obtain ⟨i0, hi0, hz0, hz1, hz2⟩ := info_parts Tryd.infoLab
  go_enter Tryd.func32, Tryd.ntmps32
  go_wp2_with fail
  have X0 := Lib.hid (Blk.new w 41 #[.string nm, .string vl])
  have B0 := Lib.hid (below_al (below_0 w) (.cells #[.string nm, .string vl] 41))
  generalize w.alloc (.cells #[.string nm, .string vl] 41) = W0 at *
  go_loopw [5] (fun i wr => ∃ k : Nat, i = .int .i64 (k : Int) ∧ k ≤ l.length ∧ Hid (∀ j, j < k → ahead (lth l j) (nm, vl) = true) ∧ Hid (Blk wr w.heap.size 41 #[.string nm, .string vl]) ∧ Hid (Below w.heap.size w wr)) (fun i _ => l.length - (RowKit.intOf i).toNat)
  case atStart => exact ⟨0, rfl, Nat.zero_le _, fun j hj => absurd hj (by omega), X0.out, B0.out⟩
  case round =>
    clear X0 B0
    obtain ⟨k, rfl, hk, HE, XB, HB⟩ := hrel
    have x0 := XB.out.cell 0
    have x1 := XB.out.cell 1
    simp only [List.getElem?_toArray, List.getElem?_cons_zero, List.getElem?_cons_succ] at x0 x1
    have hxw := XB.out.lt
    haveI hAW := After.some wr
    have F0 := After.cell x0 hxw
    by_cases h1 : k < l.length
    · have d1 : decide ((k : Int) < (l.length : Int)) = true := decide_eq_true (by omega)
      obtain ⟨b, off, rfl, hb, hcl⟩ := HS.out.at_ (by omega)
      obtain ⟨c1, c2⟩ := hcl k h1
      have i1 := (HB.out.cell (p := ⟨b, off + k * 2, none⟩) hb).trans c1
      have hbw : b < wr.heap.size := by have := HB.out.size; omega
      have F1 := After.cell i1 hbw
      have hi1 : (0 : Int) ≤ (k : Int) := by omega
      have hi2 : (k : Int) < (l.length : Int) := by omega
      have z1 := HZ.out k
      have HA := Lib.hid (least_ahead (lth l k) (nm, vl))
      clear c1 c2 hcl
      obtain ⟨v, hv⟩ : ∃ v, leastF (tx (lth l k).1) (tx nm) = v := ⟨_, rfl⟩
      have QL : Hid (∀ y : After wr, Calls Tryd.prog 42 #[.string (lth l k).1, .string nm] y.at_ fun e w' => e = .returned (.int .i64 v) ∧ Below y.at_.heap.size y.at_ w') := fun y => least_below z1 HX.out hv y.at_
      rw [hv] at HA
      clear hv
      cases g2 : decide (v < 0) with
      | true =>
        have HE2 : Hid (∀ j, j < k + 1 → ahead (lth l j) (nm, vl) = true) := fun j hj => by
          by_cases e : j = k
          · subst e; rw [← HA.out, g2]
          · exact HE.out j (by omega)
        clear HA HE
        go_wp2_with fail
        refine wp_region_below (by kernel_rfl) (by kernel_rfl) ?_
        repeat (go_big_quiet_step (first | with_reducible exact after_calls (QL.out _)))
        refine wpQuiet_nil ?_
        rintro w9 ⟨y9, hy9⟩
        have hb9 : Below wr.heap.size wr w9 := by rw [hy9]; exact y9.is
        have HB9 := Lib.hid (Below.two HB.out hb9)
        have XB9 := Lib.hid (XB.out.later hb9)
        clear hy9 y9 hb9
        go_wp2_with fail
        go_roundw
        case rel => exact ⟨k + 1, by go_num, by omega, HE2.out, XB9.out, HB9.out⟩
        case measure => simp [RowKit.intOf]; omega
      | false =>
        have HP : Hid (putF l (nm, vl) = l.take k ++ (nm, vl) :: l.drop k) := put_at hk HE.out (.inr (by rw [← HA.out, g2]))
        clear HA HE
        go_wp2_with fail
        refine wp_region_below (by kernel_rfl) (by kernel_rfl) ?_
        repeat (go_big_quiet_step (first | with_reducible exact after_calls (QL.out _)))
        refine wpQuiet_nil ?_
        rintro w9 ⟨y9, hy9⟩
        have hb9 : Below wr.heap.size wr w9 := by rw [hy9]; exact y9.is
        have HB9 := Lib.hid (Below.two HB.out hb9)
        have XB9 := Lib.hid (XB.out.later hb9)
        clear hy9 y9 hb9 XB HB x0 x1 F0 F1 hAW QL i1 hbw
        go_wp2_with fail
        have x0 := XB9.out.cell 0
        have x1 := XB9.out.cell 1
        simp only [List.getElem?_toArray, List.getElem?_cons_zero, List.getElem?_cons_succ] at x0 x1
        have LS := Lib.hid (HS.out.later HB9.out)
        have hxw := XB9.out.lt
        have hww := HB9.out.size
        have kT := lab_to (some ⟨b, off, none⟩) l.length cap (k) (by omega)
        refine wp_region_held_drew (S := fun w' => w'.cell? ⟨w.heap.size, 0, none⟩ = some (.string nm) ∧ w'.cell? ⟨w.heap.size, 1, none⟩ = some (.string vl)) (by kernel_rfl) ⟨x0, x1⟩ (fun hHeld => ?_)
        refine wpAnyH_take (i := 0) (v := (.slice none 0 0)) rfl (by kernel_rfl) (by kernel_rfl) (by kernel_rfl) (fun _ _ _ h => h) (Or.inl ⟨by rfl, ?_⟩) hHeld ?_
        · (intro w hSw; (try dsimp only at hSw); (try obtain ⟨s0, s1⟩ := hSw); go_simp)
        simp only [Act.put, List.setIfInBounds_toArray, List.set_cons_zero, List.set_cons_succ]
        refine wpAnyH_take (i := 1) (v := (.slice (some ⟨b, off, none⟩) l.length cap)) rfl (by kernel_rfl) (by kernel_rfl) (by kernel_rfl) (fun _ _ _ h => h) (Or.inl ⟨by rfl, ?_⟩) hHeld ?_
        · (intro w hSw; (try dsimp only at hSw); (try obtain ⟨s0, s1⟩ := hSw); go_simp)
        simp only [Act.put, List.setIfInBounds_toArray, List.set_cons_zero, List.set_cons_succ]
        refine wpAnyH_take (i := 2) (v := (.int .i64 ((k : Nat) : Int))) rfl (by kernel_rfl) (by kernel_rfl) (by kernel_rfl) (fun _ _ _ h => h) (Or.inl ⟨by rfl, ?_⟩) hHeld ?_
        · (intro w hSw; (try dsimp only at hSw); (try obtain ⟨s0, s1⟩ := hSw); go_simp)
        simp only [Act.put, List.setIfInBounds_toArray, List.set_cons_zero, List.set_cons_succ]
        refine wpAnyH_take (i := 3) (v := (.slice (some ⟨b, off, none⟩) (k) cap)) rfl (by kernel_rfl) (by kernel_rfl) (by kernel_rfl) (fun _ _ _ h => h) (Or.inl ⟨by rfl, ?_⟩) hHeld ?_
        · (intro w hSw; have kW := kT w; clear hSw; go_simp)
        simp only [Act.put, List.setIfInBounds_toArray, List.set_cons_zero, List.set_cons_succ]
        refine wpAnyH_take (i := 5) (v := (.agg #[.string nm, .string vl])) rfl (by kernel_rfl) (by kernel_rfl) (by kernel_rfl) (fun _ _ _ h => h) (Or.inl ⟨by rfl, ?_⟩) hHeld ?_
        · (intro w hSw; (try dsimp only at hSw); (try obtain ⟨s0, s1⟩ := hSw); go_simp)
        simp only [Act.put, List.setIfInBounds_toArray, List.set_cons_zero, List.set_cons_succ]
        refine wpAnyH_ready (rs := [4, 6]) (by kernel_rfl) (by simp) ?_
        refine AllReadyH.cons rfl (fun K0 hK => ?_) (AllReadyH.cons rfl (fun K0 hK => ?_) AllReadyH.nil)
        · refine step_append_rl rfl (.tmp 24) (.tmp 27) 23 rfl (w.heap.size + 1) 41 i0 (.agg #[.string ⟨#[]⟩, .string ⟨#[]⟩]) 2 32 Tryd.underlying23 hi0 hz0 hz1 hz2 rfl (by decide) (.slice none 0 0) 0 [] rfl (World.ownsRow_nil _ _ _ _) w9.heap.size (some ⟨b, off, none⟩) k cap (flatL (l.take (k))) rfl (by rw [rd_len, List.length_take]; omega) (LS.out.take _) flat_one (by unfold maxLen; omega) (by omega) (by simp; omega) ?_
          intro A2 c2 W2 hown2 hg2
          have O2 : Hid (W2.ownsRow (w.heap.size + 1) 41 2 (.slice A2 (k) c2) (k) (flatL (l.take (k)))) := by
            have := hown2
            rw [Nat.zero_add, List.nil_append] at this
            exact this
          have T2 : Hid (Below (w.heap.size + 1) w9 W2) := (Below.drew (Below.refl _ _)).grown hg2 (by show _ ≤ w9.heap.size; omega) (fun q e => by cases e)
          have XB2 := XB9.out.below T2.out (by omega)
          clear hown2 hg2
          refine hK.out _ _ ⟨XB2.cell 0, XB2.cell 1⟩ (fun hHeld => ?_)
          clear hK K0
          try simp only [Act.put, Nat.zero_add, List.getElem_toArray, List.getElem_cons_succ, List.getElem_cons_zero, List.setIfInBounds_toArray, List.set_cons_zero, List.set_cons_succ]
          refine wpAnyH_ready (rs := [6]) (by kernel_rfl) (by simp) ?_
          refine AllReadyH.cons rfl (fun K0 hK => ?_) AllReadyH.nil
          go_simp
          have NB := Blk.new W2 41 #[.string nm, .string vl]
          have T3 : Below (w.heap.size + 1) w9 (W2.alloc (.cells #[.string nm, .string vl] 41)) := T2.out.alloc (by have := T2.out.size; omega) _
          have XB2' := XB9.out.below T3 (by omega)
          refine hK.out _ _ ⟨XB2'.cell 0, XB2'.cell 1⟩ (fun hHeld => ?_)
          clear hK K0
          try simp only [Act.put, Nat.zero_add, List.getElem_toArray, List.getElem_cons_succ, List.getElem_cons_zero, List.setIfInBounds_toArray, List.set_cons_zero, List.set_cons_succ]
          refine wpAnyH_ready (rs := [7]) (by kernel_rfl) (by simp) ?_
          refine AllReadyH.cons rfl (fun K0 hK => ?_) AllReadyH.nil
          refine step_append_rl rfl (.tmp 28) (.tmp 30) 23 rfl (w.heap.size + 1) 41 i0 (.agg #[.string ⟨#[]⟩, .string ⟨#[]⟩]) 2 32 Tryd.underlying23 hi0 hz0 hz1 hz2 rfl (by decide) (.slice A2 (k) c2) (k) _ rfl (O2.out.alloc _) (W2.heap.size + 1) (some ⟨W2.heap.size, 0, none⟩) 1 1 [.string nm, .string vl] rfl (by simp) (rd_lab (cs := [.string nm, .string vl]) NB) (by intro u hu; simp at hu; rcases hu with rfl | rfl <;> rfl) (by unfold maxLen; omega) (by omega) (by have := T3.size; omega) ?_
          intro A3 c3 W3 hown3 hg3
          have O3 : Hid (W3.ownsRow (w.heap.size + 1) 41 2 (.slice A3 (k + 1) c3) (k + 1) (flatL (l.take (k) ++ [(nm, vl)]))) := by
            show World.ownsRow _ _ _ _ _ _ _
            rw [flatL_snoc]; exact hown3
          have T4 : Hid (Below (w.heap.size + 1) w9 W3) := (T3).grown hg3 (by have := T3.size; omega) (fun q e => (own_row O2.out q e).1)
          have XB3 := XB9.out.below T4.out (by omega)
          clear hown3 hg3 O2 T2
          refine hK.out _ _ ⟨XB3.cell 0, XB3.cell 1⟩ (fun hHeld => ?_)
          clear hK K0
          try simp only [Act.put, Nat.zero_add, List.getElem_toArray, List.getElem_cons_succ, List.getElem_cons_zero, List.setIfInBounds_toArray, List.set_cons_zero, List.set_cons_succ]
          refine wpAnyH_ready (rs := [8]) (by kernel_rfl) (by simp) ?_
          refine AllReadyH.cons rfl (fun K0 hK => ?_) AllReadyH.nil
          go_simp
          refine hK.out _ _ ⟨XB3.cell 0, XB3.cell 1⟩ (fun hHeld => ?_)
          clear hK K0
          try simp only [Act.put, Nat.zero_add, List.getElem_toArray, List.getElem_cons_succ, List.getElem_cons_zero, List.setIfInBounds_toArray, List.set_cons_zero, List.set_cons_succ]
          refine wpAnyH_done (by kernel_rfl) ?_ _
          clear hHeld NB T3 XB2 XB2' XB3 x0 x1 kT
          have LS3 := Lib.hid (HS.out.later (w' := W3) (HB9.out.trans (T4.out.mono (by omega))))
          have hz3 := T4.out.size
          have kF := lab_from (some ⟨b, off, none⟩) l.length cap (k) (by omega)
          have hle : (k) ≤ l.length := by omega
          go_wp2_with (at_builtin; refine wpList_append_rd _ rfl (.tmp 32) (.tmp 35) 23 rfl (w.heap.size + 1) 41 i0 (.agg #[.string ⟨#[]⟩, .string ⟨#[]⟩]) 2 32 Tryd.underlying23 hi0 hz0 hz1 hz2 rfl (by decide) (.slice A3 (k + 1) c3) (k + 1) _ rfl O3.out W3.heap.size (fromA (some ⟨b, off, none⟩) (k) cap) (l.length - k) (cap - k) (flatL (l.drop (k))) rfl (by rw [rd_len, List.length_drop]) (lb_from LS3.out hc) flat_one (by unfold maxLen; omega) (by omega) (by omega) ?_; intro v4 W4 hown4 hg4 _)
          obtain ⟨A4, c4, rfl⟩ := own_form2 hown4
          have hn4 : (k) + 1 + (l.length - (k)) = l.length + 1 := by omega
          have T5 : Below w.heap.size w W4 := (HB9.out.trans (T4.out.mono (by omega))).grown hg4 (by omega) (fun q e => by have := (own_row O3.out q e).1; omega)
          have HF : flatL (l.take (k) ++ [(nm, vl)]) ++ flatL (l.drop (k)) = flatL (putF l (nm, vl)) := by
            rw [HP.out, flat_append, List.append_assoc]; rfl
          rw [hn4, HF] at hown4
          go_wp2_with fail
          go_ret
          have hc4 := own_cap hown4
          have hm4 : c4 ≤ 9223372036854775807 := own_max hown4
          rw [hn4]
          exact ⟨⟨A4, c4, rfl, hc4, hm4, own_lb2 hown4⟩, T5⟩
        · go_simp
          have NB := Blk.new w9 41 #[.string nm, .string vl]
          have T1 : Below (w.heap.size + 1) w9 (w9.alloc (.cells #[.string nm, .string vl] 41)) := (Below.refl _ _).alloc (by omega) _
          have XB1 := XB9.out.below T1 (by omega)
          have LS1 := LS.out.later (below_al (below_0 w9) (.cells #[.string nm, .string vl] 41))
          refine hK.out _ _ ⟨XB1.cell 0, XB1.cell 1⟩ (fun hHeld => ?_)
          clear hK K0
          try simp only [Act.put, Nat.zero_add, List.getElem_toArray, List.getElem_cons_succ, List.getElem_cons_zero, List.setIfInBounds_toArray, List.set_cons_zero, List.set_cons_succ]
          refine wpAnyH_ready (rs := [4]) (by kernel_rfl) (by simp) ?_
          refine AllReadyH.cons rfl (fun K0 hK => ?_) AllReadyH.nil
          refine step_append_rl rfl (.tmp 24) (.tmp 27) 23 rfl (w.heap.size + 1) 41 i0 (.agg #[.string ⟨#[]⟩, .string ⟨#[]⟩]) 2 32 Tryd.underlying23 hi0 hz0 hz1 hz2 rfl (by decide) (.slice none 0 0) 0 [] rfl (World.ownsRow_nil _ _ _ _) (w9.alloc (.cells #[.string nm, .string vl] 41)).heap.size (some ⟨b, off, none⟩) k cap (flatL (l.take (k))) rfl (by rw [rd_len, List.length_take]; omega) (LS1.take _) flat_one (by unfold maxLen; omega) (by omega) (by simp; omega) ?_
          intro A2 c2 W2 hown2 hg2
          have O2 : Hid (W2.ownsRow (w.heap.size + 1) 41 2 (.slice A2 (k) c2) (k) (flatL (l.take (k)))) := by
            have := hown2
            rw [Nat.zero_add, List.nil_append] at this
            exact this
          have T2 : Hid (Below (w.heap.size + 1) w9 W2) := (Below.drew T1).grown hg2 (by show _ ≤ (w9.alloc (.cells #[.string nm, .string vl] 41)).heap.size; simp; omega) (fun q e => by cases e)
          have XB2 := XB9.out.below T2.out (by omega)
          have NB2 : Blk W2 w9.heap.size 41 #[.string nm, .string vl] := NB.drew.grown hg2 (fun e => by cases e)
          clear hown2 hg2
          refine hK.out _ _ ⟨XB2.cell 0, XB2.cell 1⟩ (fun hHeld => ?_)
          clear hK K0
          try simp only [Act.put, Nat.zero_add, List.getElem_toArray, List.getElem_cons_succ, List.getElem_cons_zero, List.setIfInBounds_toArray, List.set_cons_zero, List.set_cons_succ]
          refine wpAnyH_ready (rs := [7]) (by kernel_rfl) (by simp) ?_
          refine AllReadyH.cons rfl (fun K0 hK => ?_) AllReadyH.nil
          refine step_append_rl rfl (.tmp 28) (.tmp 30) 23 rfl (w.heap.size + 1) 41 i0 (.agg #[.string ⟨#[]⟩, .string ⟨#[]⟩]) 2 32 Tryd.underlying23 hi0 hz0 hz1 hz2 rfl (by decide) (.slice A2 (k) c2) (k) _ rfl O2.out (w9.heap.size + 1) (some ⟨w9.heap.size, 0, none⟩) 1 1 [.string nm, .string vl] rfl (by simp) (rd_lab (cs := [.string nm, .string vl]) NB2) (by intro u hu; simp at hu; rcases hu with rfl | rfl <;> rfl) (by unfold maxLen; omega) (by omega) (by have := T2.out.size; omega) ?_
          intro A3 c3 W3 hown3 hg3
          have O3 : Hid (W3.ownsRow (w.heap.size + 1) 41 2 (.slice A3 (k + 1) c3) (k + 1) (flatL (l.take (k) ++ [(nm, vl)]))) := by
            show World.ownsRow _ _ _ _ _ _ _
            rw [flatL_snoc]; exact hown3
          have T4 : Hid (Below (w.heap.size + 1) w9 W3) := (T2.out).grown hg3 (by have := T2.out.size; omega) (fun q e => (own_row O2.out q e).1)
          have XB3 := XB9.out.below T4.out (by omega)
          clear hown3 hg3 O2
          refine hK.out _ _ ⟨XB3.cell 0, XB3.cell 1⟩ (fun hHeld => ?_)
          clear hK K0
          try simp only [Act.put, Nat.zero_add, List.getElem_toArray, List.getElem_cons_succ, List.getElem_cons_zero, List.setIfInBounds_toArray, List.set_cons_zero, List.set_cons_succ]
          refine wpAnyH_ready (rs := [8]) (by kernel_rfl) (by simp) ?_
          refine AllReadyH.cons rfl (fun K0 hK => ?_) AllReadyH.nil
          go_simp
          refine hK.out _ _ ⟨XB3.cell 0, XB3.cell 1⟩ (fun hHeld => ?_)
          clear hK K0
          try simp only [Act.put, Nat.zero_add, List.getElem_toArray, List.getElem_cons_succ, List.getElem_cons_zero, List.setIfInBounds_toArray, List.set_cons_zero, List.set_cons_succ]
          refine wpAnyH_done (by kernel_rfl) ?_ _
          clear hHeld NB NB2 T1 T2 XB1 XB2 LS1 XB3 x0 x1 kT
          have LS3 := Lib.hid (HS.out.later (w' := W3) (HB9.out.trans (T4.out.mono (by omega))))
          have hz3 := T4.out.size
          have kF := lab_from (some ⟨b, off, none⟩) l.length cap (k) (by omega)
          have hle : (k) ≤ l.length := by omega
          go_wp2_with (at_builtin; refine wpList_append_rd _ rfl (.tmp 32) (.tmp 35) 23 rfl (w.heap.size + 1) 41 i0 (.agg #[.string ⟨#[]⟩, .string ⟨#[]⟩]) 2 32 Tryd.underlying23 hi0 hz0 hz1 hz2 rfl (by decide) (.slice A3 (k + 1) c3) (k + 1) _ rfl O3.out W3.heap.size (fromA (some ⟨b, off, none⟩) (k) cap) (l.length - k) (cap - k) (flatL (l.drop (k))) rfl (by rw [rd_len, List.length_drop]) (lb_from LS3.out hc) flat_one (by unfold maxLen; omega) (by omega) (by omega) ?_; intro v4 W4 hown4 hg4 _)
          obtain ⟨A4, c4, rfl⟩ := own_form2 hown4
          have hn4 : (k) + 1 + (l.length - (k)) = l.length + 1 := by omega
          have T5 : Below w.heap.size w W4 := (HB9.out.trans (T4.out.mono (by omega))).grown hg4 (by omega) (fun q e => by have := (own_row O3.out q e).1; omega)
          have HF : flatL (l.take (k) ++ [(nm, vl)]) ++ flatL (l.drop (k)) = flatL (putF l (nm, vl)) := by
            rw [HP.out, flat_append, List.append_assoc]; rfl
          rw [hn4, HF] at hown4
          go_wp2_with fail
          go_ret
          have hc4 := own_cap hown4
          have hm4 : c4 ≤ 9223372036854775807 := own_max hown4
          rw [hn4]
          exact ⟨⟨A4, c4, rfl, hc4, hm4, own_lb2 hown4⟩, T5⟩
    · have d1 : decide ((k : Int) < (l.length : Int)) = false := decide_eq_false (by omega)
      have HP : Hid (putF l (nm, vl) = l.take k ++ (nm, vl) :: l.drop k) := put_at hk HE.out (.inl (by omega))
      have d2 : decide (k < l.length) = false := decide_eq_false (by omega)
      have h2 : ¬ k < l.length := by omega
      have h3 : l.length ≤ k := by omega
      clear h1
      clear HE
      go_wp2_with fail
      refine wp_region_below (by kernel_rfl) (by kernel_rfl) ?_
      repeat (go_big_quiet_step (first | fail))
      refine wpQuiet_nil ?_
      rintro w9 ⟨y9, hy9⟩
      have hb9 : Below wr.heap.size wr w9 := by rw [hy9]; exact y9.is
      have HB9 := Lib.hid (Below.two HB.out hb9)
      have XB9 := Lib.hid (XB.out.later hb9)
      clear hy9 y9 hb9 XB HB x0 x1 F0 hAW h2 h3 d1 d2
      go_wp2_with fail
      have x0 := XB9.out.cell 0
      have x1 := XB9.out.cell 1
      simp only [List.getElem?_toArray, List.getElem?_cons_zero, List.getElem?_cons_succ] at x0 x1
      have LS := Lib.hid (HS.out.later HB9.out)
      have hxw := XB9.out.lt
      have hww := HB9.out.size
      have kT := lab_to A l.length cap (k) (by omega)
      refine wp_region_held_drew (S := fun w' => w'.cell? ⟨w.heap.size, 0, none⟩ = some (.string nm) ∧ w'.cell? ⟨w.heap.size, 1, none⟩ = some (.string vl)) (by kernel_rfl) ⟨x0, x1⟩ (fun hHeld => ?_)
      refine wpAnyH_take (i := 0) (v := (.slice none 0 0)) rfl (by kernel_rfl) (by kernel_rfl) (by kernel_rfl) (fun _ _ _ h => h) (Or.inl ⟨by rfl, ?_⟩) hHeld ?_
      · (intro w hSw; (try dsimp only at hSw); (try obtain ⟨s0, s1⟩ := hSw); go_simp)
      simp only [Act.put, List.setIfInBounds_toArray, List.set_cons_zero, List.set_cons_succ]
      refine wpAnyH_take (i := 1) (v := (.slice A l.length cap)) rfl (by kernel_rfl) (by kernel_rfl) (by kernel_rfl) (fun _ _ _ h => h) (Or.inl ⟨by rfl, ?_⟩) hHeld ?_
      · (intro w hSw; (try dsimp only at hSw); (try obtain ⟨s0, s1⟩ := hSw); go_simp)
      simp only [Act.put, List.setIfInBounds_toArray, List.set_cons_zero, List.set_cons_succ]
      refine wpAnyH_take (i := 2) (v := (.int .i64 ((k : Nat) : Int))) rfl (by kernel_rfl) (by kernel_rfl) (by kernel_rfl) (fun _ _ _ h => h) (Or.inl ⟨by rfl, ?_⟩) hHeld ?_
      · (intro w hSw; (try dsimp only at hSw); (try obtain ⟨s0, s1⟩ := hSw); go_simp)
      simp only [Act.put, List.setIfInBounds_toArray, List.set_cons_zero, List.set_cons_succ]
      refine wpAnyH_take (i := 3) (v := (.slice A (k) cap)) rfl (by kernel_rfl) (by kernel_rfl) (by kernel_rfl) (fun _ _ _ h => h) (Or.inl ⟨by rfl, ?_⟩) hHeld ?_
      · (intro w hSw; have kW := kT w; clear hSw; go_simp)
      simp only [Act.put, List.setIfInBounds_toArray, List.set_cons_zero, List.set_cons_succ]
      refine wpAnyH_take (i := 5) (v := (.agg #[.string nm, .string vl])) rfl (by kernel_rfl) (by kernel_rfl) (by kernel_rfl) (fun _ _ _ h => h) (Or.inl ⟨by rfl, ?_⟩) hHeld ?_
      · (intro w hSw; (try dsimp only at hSw); (try obtain ⟨s0, s1⟩ := hSw); go_simp)
      simp only [Act.put, List.setIfInBounds_toArray, List.set_cons_zero, List.set_cons_succ]
      refine wpAnyH_ready (rs := [4, 6]) (by kernel_rfl) (by simp) ?_
      refine AllReadyH.cons rfl (fun K0 hK => ?_) (AllReadyH.cons rfl (fun K0 hK => ?_) AllReadyH.nil)
      · refine step_append_rl rfl (.tmp 24) (.tmp 27) 23 rfl (w.heap.size + 1) 41 i0 (.agg #[.string ⟨#[]⟩, .string ⟨#[]⟩]) 2 32 Tryd.underlying23 hi0 hz0 hz1 hz2 rfl (by decide) (.slice none 0 0) 0 [] rfl (World.ownsRow_nil _ _ _ _) w9.heap.size A k cap (flatL (l.take (k))) rfl (by rw [rd_len, List.length_take]; omega) (LS.out.take _) flat_one (by unfold maxLen; omega) (by omega) (by simp; omega) ?_
        intro A2 c2 W2 hown2 hg2
        have O2 : Hid (W2.ownsRow (w.heap.size + 1) 41 2 (.slice A2 (k) c2) (k) (flatL (l.take (k)))) := by
          have := hown2
          rw [Nat.zero_add, List.nil_append] at this
          exact this
        have T2 : Hid (Below (w.heap.size + 1) w9 W2) := (Below.drew (Below.refl _ _)).grown hg2 (by show _ ≤ w9.heap.size; omega) (fun q e => by cases e)
        have XB2 := XB9.out.below T2.out (by omega)
        clear hown2 hg2
        refine hK.out _ _ ⟨XB2.cell 0, XB2.cell 1⟩ (fun hHeld => ?_)
        clear hK K0
        try simp only [Act.put, Nat.zero_add, List.getElem_toArray, List.getElem_cons_succ, List.getElem_cons_zero, List.setIfInBounds_toArray, List.set_cons_zero, List.set_cons_succ]
        refine wpAnyH_ready (rs := [6]) (by kernel_rfl) (by simp) ?_
        refine AllReadyH.cons rfl (fun K0 hK => ?_) AllReadyH.nil
        go_simp
        have NB := Blk.new W2 41 #[.string nm, .string vl]
        have T3 : Below (w.heap.size + 1) w9 (W2.alloc (.cells #[.string nm, .string vl] 41)) := T2.out.alloc (by have := T2.out.size; omega) _
        have XB2' := XB9.out.below T3 (by omega)
        refine hK.out _ _ ⟨XB2'.cell 0, XB2'.cell 1⟩ (fun hHeld => ?_)
        clear hK K0
        try simp only [Act.put, Nat.zero_add, List.getElem_toArray, List.getElem_cons_succ, List.getElem_cons_zero, List.setIfInBounds_toArray, List.set_cons_zero, List.set_cons_succ]
        refine wpAnyH_ready (rs := [7]) (by kernel_rfl) (by simp) ?_
        refine AllReadyH.cons rfl (fun K0 hK => ?_) AllReadyH.nil
        refine step_append_rl rfl (.tmp 28) (.tmp 30) 23 rfl (w.heap.size + 1) 41 i0 (.agg #[.string ⟨#[]⟩, .string ⟨#[]⟩]) 2 32 Tryd.underlying23 hi0 hz0 hz1 hz2 rfl (by decide) (.slice A2 (k) c2) (k) _ rfl (O2.out.alloc _) (W2.heap.size + 1) (some ⟨W2.heap.size, 0, none⟩) 1 1 [.string nm, .string vl] rfl (by simp) (rd_lab (cs := [.string nm, .string vl]) NB) (by intro u hu; simp at hu; rcases hu with rfl | rfl <;> rfl) (by unfold maxLen; omega) (by omega) (by have := T3.size; omega) ?_
        intro A3 c3 W3 hown3 hg3
        have O3 : Hid (W3.ownsRow (w.heap.size + 1) 41 2 (.slice A3 (k + 1) c3) (k + 1) (flatL (l.take (k) ++ [(nm, vl)]))) := by
          show World.ownsRow _ _ _ _ _ _ _
          rw [flatL_snoc]; exact hown3
        have T4 : Hid (Below (w.heap.size + 1) w9 W3) := (T3).grown hg3 (by have := T3.size; omega) (fun q e => (own_row O2.out q e).1)
        have XB3 := XB9.out.below T4.out (by omega)
        clear hown3 hg3 O2 T2
        refine hK.out _ _ ⟨XB3.cell 0, XB3.cell 1⟩ (fun hHeld => ?_)
        clear hK K0
        try simp only [Act.put, Nat.zero_add, List.getElem_toArray, List.getElem_cons_succ, List.getElem_cons_zero, List.setIfInBounds_toArray, List.set_cons_zero, List.set_cons_succ]
        refine wpAnyH_ready (rs := [8]) (by kernel_rfl) (by simp) ?_
        refine AllReadyH.cons rfl (fun K0 hK => ?_) AllReadyH.nil
        go_simp
        refine hK.out _ _ ⟨XB3.cell 0, XB3.cell 1⟩ (fun hHeld => ?_)
        clear hK K0
        try simp only [Act.put, Nat.zero_add, List.getElem_toArray, List.getElem_cons_succ, List.getElem_cons_zero, List.setIfInBounds_toArray, List.set_cons_zero, List.set_cons_succ]
        refine wpAnyH_done (by kernel_rfl) ?_ _
        clear hHeld NB T3 XB2 XB2' XB3 x0 x1 kT
        have LS3 := Lib.hid (HS.out.later (w' := W3) (HB9.out.trans (T4.out.mono (by omega))))
        have hz3 := T4.out.size
        have kF := lab_from A l.length cap (k) (by omega)
        have hle : (k) ≤ l.length := by omega
        go_wp2_with (at_builtin; refine wpList_append_rd _ rfl (.tmp 32) (.tmp 35) 23 rfl (w.heap.size + 1) 41 i0 (.agg #[.string ⟨#[]⟩, .string ⟨#[]⟩]) 2 32 Tryd.underlying23 hi0 hz0 hz1 hz2 rfl (by decide) (.slice A3 (k + 1) c3) (k + 1) _ rfl O3.out W3.heap.size (fromA A (k) cap) (l.length - k) (cap - k) (flatL (l.drop (k))) rfl (by rw [rd_len, List.length_drop]) (lb_from LS3.out hc) flat_one (by unfold maxLen; omega) (by omega) (by omega) ?_; intro v4 W4 hown4 hg4 _)
        obtain ⟨A4, c4, rfl⟩ := own_form2 hown4
        have hn4 : (k) + 1 + (l.length - (k)) = l.length + 1 := by omega
        have T5 : Below w.heap.size w W4 := (HB9.out.trans (T4.out.mono (by omega))).grown hg4 (by omega) (fun q e => by have := (own_row O3.out q e).1; omega)
        have HF : flatL (l.take (k) ++ [(nm, vl)]) ++ flatL (l.drop (k)) = flatL (putF l (nm, vl)) := by
          rw [HP.out, flat_append, List.append_assoc]; rfl
        rw [hn4, HF] at hown4
        go_wp2_with fail
        go_ret
        have hc4 := own_cap hown4
        have hm4 : c4 ≤ 9223372036854775807 := own_max hown4
        rw [hn4]
        exact ⟨⟨A4, c4, rfl, hc4, hm4, own_lb2 hown4⟩, T5⟩
      · go_simp
        have NB := Blk.new w9 41 #[.string nm, .string vl]
        have T1 : Below (w.heap.size + 1) w9 (w9.alloc (.cells #[.string nm, .string vl] 41)) := (Below.refl _ _).alloc (by omega) _
        have XB1 := XB9.out.below T1 (by omega)
        have LS1 := LS.out.later (below_al (below_0 w9) (.cells #[.string nm, .string vl] 41))
        refine hK.out _ _ ⟨XB1.cell 0, XB1.cell 1⟩ (fun hHeld => ?_)
        clear hK K0
        try simp only [Act.put, Nat.zero_add, List.getElem_toArray, List.getElem_cons_succ, List.getElem_cons_zero, List.setIfInBounds_toArray, List.set_cons_zero, List.set_cons_succ]
        refine wpAnyH_ready (rs := [4]) (by kernel_rfl) (by simp) ?_
        refine AllReadyH.cons rfl (fun K0 hK => ?_) AllReadyH.nil
        refine step_append_rl rfl (.tmp 24) (.tmp 27) 23 rfl (w.heap.size + 1) 41 i0 (.agg #[.string ⟨#[]⟩, .string ⟨#[]⟩]) 2 32 Tryd.underlying23 hi0 hz0 hz1 hz2 rfl (by decide) (.slice none 0 0) 0 [] rfl (World.ownsRow_nil _ _ _ _) (w9.alloc (.cells #[.string nm, .string vl] 41)).heap.size A k cap (flatL (l.take (k))) rfl (by rw [rd_len, List.length_take]; omega) (LS1.take _) flat_one (by unfold maxLen; omega) (by omega) (by simp; omega) ?_
        intro A2 c2 W2 hown2 hg2
        have O2 : Hid (W2.ownsRow (w.heap.size + 1) 41 2 (.slice A2 (k) c2) (k) (flatL (l.take (k)))) := by
          have := hown2
          rw [Nat.zero_add, List.nil_append] at this
          exact this
        have T2 : Hid (Below (w.heap.size + 1) w9 W2) := (Below.drew T1).grown hg2 (by show _ ≤ (w9.alloc (.cells #[.string nm, .string vl] 41)).heap.size; simp; omega) (fun q e => by cases e)
        have XB2 := XB9.out.below T2.out (by omega)
        have NB2 : Blk W2 w9.heap.size 41 #[.string nm, .string vl] := NB.drew.grown hg2 (fun e => by cases e)
        clear hown2 hg2
        refine hK.out _ _ ⟨XB2.cell 0, XB2.cell 1⟩ (fun hHeld => ?_)
        clear hK K0
        try simp only [Act.put, Nat.zero_add, List.getElem_toArray, List.getElem_cons_succ, List.getElem_cons_zero, List.setIfInBounds_toArray, List.set_cons_zero, List.set_cons_succ]
        refine wpAnyH_ready (rs := [7]) (by kernel_rfl) (by simp) ?_
        refine AllReadyH.cons rfl (fun K0 hK => ?_) AllReadyH.nil
        refine step_append_rl rfl (.tmp 28) (.tmp 30) 23 rfl (w.heap.size + 1) 41 i0 (.agg #[.string ⟨#[]⟩, .string ⟨#[]⟩]) 2 32 Tryd.underlying23 hi0 hz0 hz1 hz2 rfl (by decide) (.slice A2 (k) c2) (k) _ rfl O2.out (w9.heap.size + 1) (some ⟨w9.heap.size, 0, none⟩) 1 1 [.string nm, .string vl] rfl (by simp) (rd_lab (cs := [.string nm, .string vl]) NB2) (by intro u hu; simp at hu; rcases hu with rfl | rfl <;> rfl) (by unfold maxLen; omega) (by omega) (by have := T2.out.size; omega) ?_
        intro A3 c3 W3 hown3 hg3
        have O3 : Hid (W3.ownsRow (w.heap.size + 1) 41 2 (.slice A3 (k + 1) c3) (k + 1) (flatL (l.take (k) ++ [(nm, vl)]))) := by
          show World.ownsRow _ _ _ _ _ _ _
          rw [flatL_snoc]; exact hown3
        have T4 : Hid (Below (w.heap.size + 1) w9 W3) := (T2.out).grown hg3 (by have := T2.out.size; omega) (fun q e => (own_row O2.out q e).1)
        have XB3 := XB9.out.below T4.out (by omega)
        clear hown3 hg3 O2
        refine hK.out _ _ ⟨XB3.cell 0, XB3.cell 1⟩ (fun hHeld => ?_)
        clear hK K0
        try simp only [Act.put, Nat.zero_add, List.getElem_toArray, List.getElem_cons_succ, List.getElem_cons_zero, List.setIfInBounds_toArray, List.set_cons_zero, List.set_cons_succ]
        refine wpAnyH_ready (rs := [8]) (by kernel_rfl) (by simp) ?_
        refine AllReadyH.cons rfl (fun K0 hK => ?_) AllReadyH.nil
        go_simp
        refine hK.out _ _ ⟨XB3.cell 0, XB3.cell 1⟩ (fun hHeld => ?_)
        clear hK K0
        try simp only [Act.put, Nat.zero_add, List.getElem_toArray, List.getElem_cons_succ, List.getElem_cons_zero, List.setIfInBounds_toArray, List.set_cons_zero, List.set_cons_succ]
        refine wpAnyH_done (by kernel_rfl) ?_ _
        clear hHeld NB NB2 T1 T2 XB1 XB2 LS1 XB3 x0 x1 kT
        have LS3 := Lib.hid (HS.out.later (w' := W3) (HB9.out.trans (T4.out.mono (by omega))))
        have hz3 := T4.out.size
        have kF := lab_from A l.length cap (k) (by omega)
        have hle : (k) ≤ l.length := by omega
        go_wp2_with (at_builtin; refine wpList_append_rd _ rfl (.tmp 32) (.tmp 35) 23 rfl (w.heap.size + 1) 41 i0 (.agg #[.string ⟨#[]⟩, .string ⟨#[]⟩]) 2 32 Tryd.underlying23 hi0 hz0 hz1 hz2 rfl (by decide) (.slice A3 (k + 1) c3) (k + 1) _ rfl O3.out W3.heap.size (fromA A (k) cap) (l.length - k) (cap - k) (flatL (l.drop (k))) rfl (by rw [rd_len, List.length_drop]) (lb_from LS3.out hc) flat_one (by unfold maxLen; omega) (by omega) (by omega) ?_; intro v4 W4 hown4 hg4 _)
        obtain ⟨A4, c4, rfl⟩ := own_form2 hown4
        have hn4 : (k) + 1 + (l.length - (k)) = l.length + 1 := by omega
        have T5 : Below w.heap.size w W4 := (HB9.out.trans (T4.out.mono (by omega))).grown hg4 (by omega) (fun q e => by have := (own_row O3.out q e).1; omega)
        have HF : flatL (l.take (k) ++ [(nm, vl)]) ++ flatL (l.drop (k)) = flatL (putF l (nm, vl)) := by
          rw [HP.out, flat_append, List.append_assoc]; rfl
        rw [hn4, HF] at hown4
        go_wp2_with fail
        go_ret
        have hc4 := own_cap hown4
        have hm4 : c4 ≤ 9223372036854775807 := own_max hown4
        rw [hn4]
        exact ⟨⟨A4, c4, rfl, hc4, hm4, own_lb2 hown4⟩, T5⟩
end Go.Proofs.YtlcpigkgbihebaaDoor

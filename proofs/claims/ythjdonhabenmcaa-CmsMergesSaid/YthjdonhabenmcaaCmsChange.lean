/-
  The walk of (cms.work).change, whatever iterator and whatever function it is given.
-/
import Derived.Test.YthjdonhabenmcaaCmsIter
import Derived.Test.YthjdonhabenmcaaRound
namespace Go.Proofs.Ythjdonhabenmcaa
open Go.RowKit Go.Shelf
set_option linter.unusedVariables false
set_option linter.unusedSimpArgs false
attribute [local go_sem] Oper.semAt_some
theorem keeps_of_below {W W' : World} (h : Below W.heap.size W W') : KeepsOthers W W' :=
  ⟨h.size, fun k o hk _ => (h.block k (heap_lt hk)).trans hk⟩
theorem row_set (l : List Int) (p : Nat) (v : Int) : (l.map (Value.int .u64)).toArray.setIfInBounds p (.int .u64 v) = ((l.set p v).map (Value.int .u64)).toArray := by simp [List.map_set]
/-- Between two rounds of change. -/
def ChI (w : World) (N g bw bt : Nat) (l : List Int) (f : Nat → Int → Int) (r c : Int) (cap : Nat) (to : Value) (pre : List (At N)) (W : World) : Prop :=
  Blk W g 25 ((chgAll f l (pre.map (·.1))).map (Value.int .u64)).toArray ∧ Blk W bw 48 #[.int .i64 r, .int .i64 c, .slice (some ⟨g, 0, none⟩) N cap] ∧ Blk W bt 61 #[to] ∧ w.grownBy W (some g)
theorem ChI_own {w : World} {N g bw bt : Nat} {l : List Int} {f : Nat → Int → Int} {r c : Int} {cap : Nat} {to : Value} {B : Nat} (hB : w.heap.size ≤ B) : OwnFrom B (ChI w N g bw bt l f r c cap to) := by
  rintro s W W' row ⟨h1, h2, h3, h4⟩ hg hr
  have hr' : ∀ r, row = some r → ∃ o : Obj, W.heap[r]? = some o ∧ o.isCells = false := fun r e => (hr r e).2
  exact ⟨h1.kept hg hr', h2.kept hg hr', h3.kept hg hr', ⟨hg.os.trans h4.os, hg.tape.trans h4.tape, hg.output.trans h4.output, Nat.le_trans h4.size hg.size, fun i hi hne => (hg.block i (Nat.lt_of_lt_of_le hi h4.size) (fun e => by have := (hr i e.symm).1; omega)).trans (h4.block i hi hne)⟩⟩
set_option maxRecDepth 100000 in
set_option maxHeartbeats 2000000 in
theorem change_any (w : World) (N g cap R : Nat) (r c : Int) (l : List Int) (hl : l.length = N) (hUl : Us l) (hN : N ≤ 65536) (G : Blk w g 25 (l.map (Value.int .u64)).toArray) (zs : List (At N))
    (gf : Nat) (lb : Array Value) (eg : ∀ args w, (callFunc gf args).run Try.prog w = .ok (.enter gf args) w) {Sp : List (At N) → Prop}
    (hseq : SeqStopsK Fence.wide 5 Try.prog gf lb (fun x : At N => #[Value.int .i64 (x.1 : Int)]) (KeepBut w.heap.size g) (fun ys => ys = zs) Sp R w)
    (tf : Nat) (tb : Array Value) (et : ∀ args w, (callFunc tf args).run Try.prog w = .ok (.enter tf args) w) (f : Nat → Int → Int) (hf : ∀ p o, U o → U (f p o))
    (hto : ∀ (x : At N) (o : Int) (W : World), U o → KeepBut w.heap.size g w W → Calls Try.prog tf (#[.int .i64 (x.1 : Int), .int .u64 o] ++ tb) W fun e W' => e = .returned (.int .u64 (f x.1 o)) ∧ Below W.heap.size W W') :
    CallsIn Fence.wide 6 Try.prog 34 #[.agg #[.int .i64 r, .int .i64 c, .slice (some ⟨g, 0, none⟩) N cap], .func (.func gf) #[] lb, .func (.func tf) #[] tb] w fun e w' => (∃ v, e = .returned v) ∧
      Blk w' g 25 ((chgAll f l (zs.map (·.1))).map (Value.int .u64)).toArray ∧ w.grownBy w' (some g) := by
  have hgl := G.lt
  have HLEN := Lib.hid hl
  clear hl
  refine callsIn_of_wp_marks Try.func34 rfl trivial ?_ rfl
  simp only [Try.ntmps34, List.size_toArray, List.length_cons, List.length_nil, Nat.reduceAdd, Nat.reduceSub, Array.replicate_succ, Array.replicate_zero, List.push_toArray, List.append_toArray, List.nil_append, List.cons_append]
  refine wpIn_wide.2 ?_
  go_wp2_with fail
  have hst : ChI w N g w.heap.size (w.heap.size + 1) l f r c cap (.func (.func tf) #[] tb) [] ((w.alloc (.cells #[.int .i64 r, .int .i64 c, .slice (some ⟨g, 0, none⟩) N cap] 48)).alloc (.cells #[.func (.func tf) #[] tb] 61)) := by
    refine ⟨(G.alloc _).alloc _, (Blk.new w _ _).alloc _, ?_, grow_of_below (below_al (below_al (below_0 _) _) _) _⟩
    have := Blk.new (w.alloc (.cells #[.int .i64 r, .int .i64 c, .slice (some ⟨g, 0, none⟩) N cap] 48)) 61 #[.func (.func tf) #[] tb]
    rwa [World.size_alloc] at this
  have hb0 : Below w.heap.size w ((w.alloc (.cells #[.int .i64 r, .int .i64 c, .slice (some ⟨g, 0, none⟩) N cap] 48)).alloc (.cells #[.func (.func tf) #[] tb] 61)) := below_al (below_al (below_0 _) _) _
  have hsz : ((w.alloc (.cells #[.int .i64 r, .int .i64 c, .slice (some ⟨g, 0, none⟩) N cap] 48)).alloc (.cells #[.func (.func tf) #[] tb] 61)).heap.size = w.heap.size + 2 := by simp
  generalize ((w.alloc (.cells #[.int .i64 r, .int .i64 c, .slice (some ⟨g, 0, none⟩) N cap] 48)).alloc (.cells #[.func (.func tf) #[] tb] 61)) = W0 at *
  refine (wpIn_wide (n := 6)).1 ?_
  refine wpIn_rangeFunc_ownF rfl (by omega) (gf := gf) (lb := lb) rfl trivial eg hseq (fun h k => keepBut_t h k) (keepBut_b (by omega)) hb0 (fun _ => rfl)
    (ChI w N g w.heap.size (w.heap.size + 1) l f r c cap (.func (.func tf) #[] tb)) (fun _ _ _ => False) (ChI_own (by omega)) (fun _ _ _ _ _ h _ _ => h) hst
    (fun x => { tmps := #[.agg #[.int .i64 r, .int .i64 c, .slice (some ⟨g, 0, none⟩) N cap], .func (.func gf) #[] lb, .func (.func tf) #[] tb, .pointer (some ⟨w.heap.size, 0, none⟩), undef, .pointer (some ⟨w.heap.size + 1, 0, none⟩), .int .i64 (x.1 : Int), .func (.func gf) #[] lb, .int .i64 (x.1 : Int), undef, undef, undef, undef, undef, undef, undef, undef, undef, undef, undef, undef, undef, undef], defers := [] }) ?assign ?body ?done ?stop
  case assign =>
    intro l x W K hK
    gi_wp2
    exact hK
  case body =>
    rintro l' pre ⟨p, hp⟩ W ⟨hG, hw, ht, hgr⟩ hlt
    obtain ⟨L, hL⟩ : ∃ L, chgAll f l (pre.map (·.1)) = L := ⟨_, rfl⟩
    have HL : Hid (chgAll f l ((pre ++ [(⟨p, hp⟩ : At N)]).map (·.1)) = chg f L p) := by
      show _ = _
      rw [List.map_append, ← hL]
      exact chgAll_snoc f l _ p
    have hlen : L.length = N := by rw [← hL]; exact (length_chgAll _ _ _).trans HLEN.out
    have hUL : Us L := by rw [← hL]; exact Us.chgAll hf hUl
    rw [hL] at hG
    clear hL
    obtain ⟨o, ho⟩ : ∃ o, nth L p = o := ⟨_, rfl⟩
    have hUo : U o := by rw [← ho]; exact nth_U hUL p
    have cg : W.cell? ⟨g, p, none⟩ = some (.int .u64 o) := by
      rw [hG.cell, ← ho]
      have hx : p < L.length := by rw [hlen]; exact hp
      simp [nth, hx]
    have HO : Hid (chg f L p = L.set p (f p o)) := by show chg f L p = _; rw [chg, ho]
    have HG := Lib.hid hG
    have HW := Lib.hid hw
    have HTO := Lib.hid ht
    have HLN := Lib.hid hlen
    have fg := hG.frozen p
    have c2 := hw.c2
    have d0 := ht.one
    have z1 := hw.lt
    have z2 := ht.lt
    have z3 := hG.lt
    have hx1 : (0 : Int) ≤ (p : Int) := by omega
    have hx2 : ((p : Nat) : Int) < (N : Int) := by omega
    have HKP : Hid (KeepBut w.heap.size g w W.drew) := ⟨hgr.size, (keepBut_grow (Nat.le_refl _) hgr).2⟩
    clear hlen ho hG hw ht hUL
    gi_wp2_with fail
    refine wpIn_region_round (S := fun w' => w'.cell? ⟨w.heap.size, 2, none⟩ = some (.slice (some ⟨g, 0, none⟩) N cap) ∧ w'.cell? ⟨w.heap.size + 1, 0, none⟩ = some (.func (.func tf) #[] tb)) (by kernel_rfl) (by kernel_rfl) (by rintro ⟨_, _, h⟩; exact h) ⟨c2, d0⟩ (fun hHeld => ?_)
    refine wpAnyH_take (i := 0) (v := (.pointer (some ⟨w.heap.size, 0, none⟩))) rfl (by kernel_rfl) (by kernel_rfl) (by kernel_rfl) (fun _ _ _ h => h) (Or.inl ⟨by rfl, ?_⟩) hHeld ?_
    · (intro w hSw; (try dsimp only at hSw); (try obtain ⟨s0, s1⟩ := hSw); go_simp)
    simp only [Act.put, List.setIfInBounds_toArray, List.set_cons_zero, List.set_cons_succ]
    refine wpAnyH_take (i := 1) (v := (.pointer (some ⟨w.heap.size, 2, none⟩))) rfl (by kernel_rfl) (by kernel_rfl) (by kernel_rfl) (fun _ _ _ h => h) (Or.inl ⟨by rfl, ?_⟩) hHeld ?_
    · (intro w hSw; (try dsimp only at hSw); (try obtain ⟨s0, s1⟩ := hSw); go_simp)
    simp only [Act.put, List.setIfInBounds_toArray, List.set_cons_zero, List.set_cons_succ]
    refine wpAnyH_take (i := 2) (v := (.slice (some ⟨g, 0, none⟩) N cap)) rfl (by kernel_rfl) (by kernel_rfl) (by kernel_rfl) (fun _ _ _ h => h) (Or.inl ⟨by rfl, ?_⟩) hHeld ?_
    · (intro w hSw; (try dsimp only at hSw); (try obtain ⟨s0, s1⟩ := hSw); go_simp)
    simp only [Act.put, List.setIfInBounds_toArray, List.set_cons_zero, List.set_cons_succ]
    refine wpAnyH_take (i := 3) (v := (.int .i64 (p : Int))) rfl (by kernel_rfl) (by kernel_rfl) (by kernel_rfl) (fun _ _ _ h => h) (Or.inl ⟨by rfl, ?_⟩) hHeld ?_
    · (intro w hSw; (try dsimp only at hSw); (try obtain ⟨s0, s1⟩ := hSw); go_simp)
    simp only [Act.put, List.setIfInBounds_toArray, List.set_cons_zero, List.set_cons_succ]
    refine wpAnyH_take (i := 4) (v := (.func (.func tf) #[] tb)) rfl (by kernel_rfl) (by kernel_rfl) (by kernel_rfl) (fun _ _ _ h => h) (Or.inl ⟨by rfl, ?_⟩) hHeld ?_
    · (intro w hSw; (try dsimp only at hSw); (try obtain ⟨s0, s1⟩ := hSw); go_simp)
    simp only [Act.put, List.setIfInBounds_toArray, List.set_cons_zero, List.set_cons_succ]
    refine wpAnyH_take (i := 5) (v := (.int .i64 (p : Int))) rfl (by kernel_rfl) (by kernel_rfl) (by kernel_rfl) (fun _ _ _ h => h) (Or.inl ⟨by rfl, ?_⟩) hHeld ?_
    · (intro w hSw; (try dsimp only at hSw); (try obtain ⟨s0, s1⟩ := hSw); go_simp)
    simp only [Act.put, List.setIfInBounds_toArray, List.set_cons_zero, List.set_cons_succ]
    refine wpAnyH_take (i := 6) (v := (.pointer (some ⟨w.heap.size, 0, none⟩))) rfl (by kernel_rfl) (by kernel_rfl) (by kernel_rfl) (fun _ _ _ h => h) (Or.inl ⟨by rfl, ?_⟩) hHeld ?_
    · (intro w hSw; (try dsimp only at hSw); (try obtain ⟨s0, s1⟩ := hSw); go_simp)
    simp only [Act.put, List.setIfInBounds_toArray, List.set_cons_zero, List.set_cons_succ]
    refine wpAnyH_take (i := 7) (v := (.pointer (some ⟨w.heap.size, 2, none⟩))) rfl (by kernel_rfl) (by kernel_rfl) (by kernel_rfl) (fun _ _ _ h => h) (Or.inl ⟨by rfl, ?_⟩) hHeld ?_
    · (intro w hSw; (try dsimp only at hSw); (try obtain ⟨s0, s1⟩ := hSw); go_simp)
    simp only [Act.put, List.setIfInBounds_toArray, List.set_cons_zero, List.set_cons_succ]
    refine wpAnyH_take (i := 8) (v := (.slice (some ⟨g, 0, none⟩) N cap)) rfl (by kernel_rfl) (by kernel_rfl) (by kernel_rfl) (fun _ _ _ h => h) (Or.inl ⟨by rfl, ?_⟩) hHeld ?_
    · (intro w hSw; (try dsimp only at hSw); (try obtain ⟨s0, s1⟩ := hSw); go_simp)
    simp only [Act.put, List.setIfInBounds_toArray, List.set_cons_zero, List.set_cons_succ]
    refine wpAnyH_take (i := 9) (v := (.int .i64 (p : Int))) rfl (by kernel_rfl) (by kernel_rfl) (by kernel_rfl) (fun _ _ _ h => h) (Or.inl ⟨by rfl, ?_⟩) hHeld ?_
    · (intro w hSw; (try dsimp only at hSw); (try obtain ⟨s0, s1⟩ := hSw); go_simp)
    simp only [Act.put, List.setIfInBounds_toArray, List.set_cons_zero, List.set_cons_succ]
    refine wpAnyH_take (i := 10) (v := (.pointer (some ⟨g, p, none⟩))) rfl (by kernel_rfl) (by kernel_rfl) (by kernel_rfl) (fun _ _ _ h => h) (Or.inl ⟨by rfl, ?_⟩) hHeld ?_
    · (intro w hSw; (try dsimp only at hSw); (try obtain ⟨s0, s1⟩ := hSw); go_simp)
    simp only [Act.put, List.setIfInBounds_toArray, List.set_cons_zero, List.set_cons_succ]
    refine wpAnyH_ready (rs := [11]) (by kernel_rfl) (by simp) ?_
    refine AllReadyH.cons rfl (fun K hK => ?_) AllReadyH.nil
    go_simp
    refine hK.out _ _ ⟨c2, d0⟩ (fun hHeld => ?_)
    clear hK K
    try simp only [Act.put, List.setIfInBounds_toArray, List.set_cons_zero, List.set_cons_succ]
    refine wpAnyH_ready (rs := [12]) (by kernel_rfl) (by simp) ?_
    refine AllReadyH.cons rfl (fun K hK => ?_) AllReadyH.nil
    go_simp
    refine (hto ⟨p, hp⟩ o W.drew hUo HKP.out).mono ?_
    rintro e W2 ⟨rfl, hb2⟩
    have hb3 : Below W.heap.size W W2 := Below.two (below_0 W).drew hb2
    have c2' := (HW.out.later hb3).c2
    have d0' := (HTO.out.later hb3).one
    have cg' := (hb3.cell (p := ⟨g, p, none⟩) z3).trans cg
    have fg' := (HG.out.later hb3).frozen p
    refine hK.out _ _ ⟨c2', d0'⟩ (fun hHeld => ?_)
    clear hK K
    try simp only [Act.put, List.setIfInBounds_toArray, List.set_cons_zero, List.set_cons_succ]
    refine wpAnyH_take (i := 13) (v := (.pointer (some ⟨g, p, none⟩))) rfl (by kernel_rfl) (by kernel_rfl) (by kernel_rfl) (fun _ _ _ h => h) (Or.inl ⟨by rfl, ?_⟩) hHeld ?_
    · (intro w hSw; (try dsimp only at hSw); (try obtain ⟨s0, s1⟩ := hSw); go_simp)
    simp only [Act.put, List.setIfInBounds_toArray, List.set_cons_zero, List.set_cons_succ]
    refine wpAnyH_ready (rs := [14]) (by kernel_rfl) (by simp) ?_
    refine AllReadyH.cons rfl (fun K hK => ?_) AllReadyH.nil
    go_simp
    refine hK.out _ _ ⟨((HW.out.later hb3).far (p := ⟨g, p, none⟩) (by show w.heap.size ≠ g; omega) _).c2, ((HTO.out.later hb3).far (p := ⟨g, p, none⟩) (by show w.heap.size + 1 ≠ g; omega) _).one⟩ (fun hHeld => ?_)
    clear hK K
    try simp only [Act.put, List.setIfInBounds_toArray, List.set_cons_zero, List.set_cons_succ]
    refine wpAnyH_done (by kernel_rfl) ?_ _
    refine ⟨(keeps_of_below hb3).trans (KeepsOthers.setCell _ _ _), keepBut_t (keepBut_below hgr.size hb3) (keepBut_grow (Nat.le_trans hgr.size hb3.size) (grow_set1 W2 g p _)), ?_, (HW.out.later hb3).far (by show w.heap.size ≠ g; omega) _, (HTO.out.later hb3).far (by show w.heap.size + 1 ≠ g; omega) _, grow_trans (grow_trans hgr (grow_of_below hb3 _)) (grow_set1 W2 g p _)⟩
    rw [HL.out, HO.out]
    have := (HG.out.later hb3).set_ p (.int .u64 (f p o))
    rwa [row_set] at this
  case done =>
    rintro D ys W hD rfl ⟨hG, hw, ht, hgr⟩ hK
    gi_wp2
    refine ⟨by simp, .inl ⟨_, _, rfl, run_takeDeferred hK, ?_⟩⟩
    have hr' : ∀ r, some D = some r → ∃ o : Obj, W.heap[r]? = some o ∧ o.isCells = false := fun r e => by cases e; exact ⟨_, hK, rfl⟩
    exact ⟨.tuple #[], results_none rfl _ _ _, ⟨_, rfl⟩, hG.kept (grownBy_putObj' _ D (.deferred none)) hr', (ChI_own (B := W0.heap.size) (by omega) ys W _ (some D) ⟨hG, hw, ht, hgr⟩ (grownBy_putObj' _ D (.deferred none)) (fun r e => by cases e; exact ⟨hD, _, hK, rfl⟩)).2.2.2⟩
  case stop =>
    rintro D c pre W _ _ h _
    exact h.elim
end Go.Proofs.Ythjdonhabenmcaa

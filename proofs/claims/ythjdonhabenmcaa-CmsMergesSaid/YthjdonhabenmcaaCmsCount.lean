/-
  The walk of cms.Count.
-/
import Derived.Test.YthjdonhabenmcaaCmsChange
namespace Go.Proofs.Ythjdonhabenmcaa
open Go.RowKit Go.Shelf
set_option linter.unusedVariables false
set_option linter.unusedSimpArgs false
attribute [local go_sem] Oper.semAt_some
/-- The least counter at places. -/
def least (l : List Int) (ps : List Nat) : Int := ps.foldl (fun a p => min a (nth l p)) 18446744073709551615
def countC (x : Cm) (h : Int) : Int := if rightC x.r x.c x.l.length = true then least x.l (places x.r.toNat x.c.toNat h) else 0
theorem least_snoc (l : List Int) (ps : List Nat) (p : Nat) : least l (ps ++ [p]) = min (least l ps) (nth l p) := by simp [least]
theorem least_U {l : List Int} (hU : Us l) (ps : List Nat) : U (least l ps) := by
  have : ∀ (ps : List Nat) (a : Int), U a → U (ps.foldl (fun a p => min a (nth l p)) a) := by
    intro ps
    induction ps with
    | nil => exact fun a h => h
    | cons p ps ih =>
      intro a ha
      refine ih _ ?_
      have := nth_U hU p
      obtain ⟨h1, h2⟩ := ha
      show 0 ≤ min a (nth l p) ∧ min a (nth l p) ≤ 18446744073709551615
      omega
  exact this ps _ (by unfold U; omega)
theorem least_zero {l : List Int} (hU : Us l) {ps qs : List Nat} (h : least l ps = 0) (hp : ps <+: qs) : least l qs = 0 := by
  obtain ⟨t, rfl⟩ := hp
  have : ∀ (t : List Nat), t.foldl (fun a p => min a (nth l p)) 0 = 0 := by
    intro t
    induction t with
    | nil => rfl
    | cons p t ih =>
      have := (nth_U hU p).1
      rw [List.foldl_cons, show min 0 (nth l p) = 0 by omega]
      exact ih
  rw [least, List.foldl_append]
  rw [least] at h
  rw [h]
  exact this t
/-- Between two rounds of Count. -/
def CtI (w : World) (N bx b5 : Nat) (r c : Int) (A : Option Addr) (cap : Nat) (l : List Int) (pre : List (At N)) (W : World) : Prop :=
  Blk W b5 25 #[.int .u64 (least l (pre.map (·.1)))] ∧ Blk W bx 24 #[.int .i64 r, .int .i64 c, .slice A l.length cap] ∧ Sl W w.heap.size A l ∧ Below w.heap.size w W
/-- A round has left: nothing is less than 0. -/
def CtX (w : World) (N b5 : Nat) (l : List Int) (c : Code) (pre : List (At N)) (W : World) : Prop :=
  c = .exit 0 ∧ Blk W b5 25 #[.int .u64 0] ∧ least l (pre.map (·.1)) = 0 ∧ Below w.heap.size w W
theorem CtI_own {w : World} {N bx b5 : Nat} {r c : Int} {A : Option Addr} {cap : Nat} {l : List Int} {B : Nat} (hB : w.heap.size ≤ B) : OwnFrom B (CtI w N bx b5 r c A cap l) := by
  rintro s W W' row ⟨h1, h2, h3, h4⟩ hg hr
  have hr' : ∀ r, row = some r → ∃ o : Obj, W.heap[r]? = some o ∧ o.isCells = false := fun r e => (hr r e).2
  have hb : Below w.heap.size w W' := h4.grown hg h4.size (fun k e => Nat.le_trans hB (hr k e).1)
  exact ⟨h1.kept hg hr', h2.kept hg hr', h3.keep (fun b o hb' => (hb.cell (p := ⟨b, o, none⟩) hb').trans (h4.cell (p := ⟨b, o, none⟩) hb').symm), hb⟩
theorem CtX_own {w : World} {N b5 : Nat} {l : List Int} {c : Code} {B : Nat} (hB : w.heap.size ≤ B) : OwnFrom B (CtX w N b5 l c) := by
  rintro s W W' row ⟨h1, h2, h3, h4⟩ hg hr
  have hr' : ∀ r, row = some r → ∃ o : Obj, W.heap[r]? = some o ∧ o.isCells = false := fun r e => (hr r e).2
  exact ⟨h1, h2.kept hg hr', h3, h4.grown hg h4.size (fun k e => Nat.le_trans hB (hr k e).1)⟩
theorem count_bad (r c : Int) (A : Option Addr) (l : List Int) (cap : Nat) (h : Int) (w : World) (hr : rightC r c l.length = false) :
    Calls Try.prog 21 #[.agg #[.int .i64 r, .int .i64 c, .slice A l.length cap], .int .u64 h] w fun e w' => e = .returned (.int .u64 (countC ⟨r, c, l⟩ h)) ∧ Below w.heap.size w w' := by
  have HR : Hid (countC ⟨r, c, l⟩ h = 0) := by show countC _ _ = _; rw [countC, if_neg (by simp [hr])]
  have H := Lib.hid hr
  clear hr
  go_enter Try.func21, Try.ntmps21
  go_wp2_with fail
  go_step3
  go_wp2_with fail
  refine (right_any r c A l.length cap _).mono ?_
  rintro e w' ⟨rfl, rfl⟩
  rw [H.out]
  go_wp2_with fail
  rw [Exit.noGoto_ret]
  go_ret
  exact ⟨ret_int HR.out.symm, below_al (below_al (below_0 _) _) _⟩
set_option maxRecDepth 100000 in
set_option maxHeartbeats 2000000 in
theorem count_good (R C : Nat) (A : Option Addr) (l : List Int) (cap : Nat) (h : Int) (hh : U h) (hU : Us l) (w : World) (hS : Sl w w.heap.size A l) (hr : rightC R C l.length = true) :
    CallsIn Fence.wide 6 Try.prog 21 #[.agg #[.int .i64 R, .int .i64 C, .slice A l.length cap], .int .u64 h] w fun e w' => e = .returned (.int .u64 (countC ⟨R, C, l⟩ h)) ∧ Below w.heap.size w w' := by
  have HR : Hid (countC ⟨R, C, l⟩ h = least l (places R C h)) := by show countC _ _ = _; rw [countC, if_pos hr]; simp
  have H := Lib.hid hr
  obtain ⟨q1, q2, q3⟩ := shape_of (right_of hr).1
  have hl : l.length = R * C := by have := (right_of hr).2; rw [← Int.natCast_mul] at this; omega
  have hR4 : R ≤ 4 := by omega
  have hC1 : 1 ≤ C := by omega
  have hC2 : C ≤ 32 := by omega
  obtain ⟨zs, hzs⟩ := exists_at (N := l.length) (places R C h) (by rw [hl]; exact places_lt hC1 h)
  have HZ := Lib.hid hzs
  have hlb : l.length ≤ 128 := by rw [hl]; exact Nat.le_trans (Nat.mul_le_mul hR4 hC2) (by omega)
  clear hr q1 q2 q3 hl hzs
  refine callsIn_of_wp_marks Try.func21 rfl trivial ?_ rfl
  simp only [Try.ntmps21, List.size_toArray, List.length_cons, List.length_nil, Nat.reduceAdd, Nat.reduceSub, Array.replicate_succ, Array.replicate_zero, List.push_toArray, List.append_toArray, List.nil_append, List.cons_append]
  refine wpIn_wide.2 ?_
  go_wp2_with fail
  go_step3
  go_wp2_with fail
  refine (right_any _ _ A l.length cap _).mono ?_
  rintro e w' ⟨rfl, rfl⟩
  rw [H.out]
  go_wp2_with fail
  try go_step3
  go_wp2_with fail
  refine (told_any _ _ _ _ _ _ _).mono ?_
  rintro e w' ⟨rfl, rfl⟩
  go_wp2_with fail
  have hb0 : Below w.heap.size w (((((w.alloc (.cells #[.int .i64 R, .int .i64 C, .slice A l.length cap] 24)).alloc (.cells #[.int .i64 R, .int .i64 C, .slice A l.length cap] 24)).alloc (.cells #[.int .u64 18446744073709551615] 25)).alloc (.cells #[.int .i64 R, .int .i64 C, .slice A l.length cap] 48)).alloc (.cells #[.int .u64 h] 25)) := below_al (below_al (below_al (below_al (below_al (below_0 _) _) _) _) _) _
  have hX : Blk (((((w.alloc (.cells #[.int .i64 R, .int .i64 C, .slice A l.length cap] 24)).alloc (.cells #[.int .i64 R, .int .i64 C, .slice A l.length cap] 24)).alloc (.cells #[.int .u64 18446744073709551615] 25)).alloc (.cells #[.int .i64 R, .int .i64 C, .slice A l.length cap] 48)).alloc (.cells #[.int .u64 h] 25)) w.heap.size 24 #[.int .i64 R, .int .i64 C, .slice A l.length cap] := ((((Blk.new w _ _).alloc _).alloc _).alloc _).alloc _
  have hL : Blk (((((w.alloc (.cells #[.int .i64 R, .int .i64 C, .slice A l.length cap] 24)).alloc (.cells #[.int .i64 R, .int .i64 C, .slice A l.length cap] 24)).alloc (.cells #[.int .u64 18446744073709551615] 25)).alloc (.cells #[.int .i64 R, .int .i64 C, .slice A l.length cap] 48)).alloc (.cells #[.int .u64 h] 25)) (w.heap.size + 1 + 1) 25 #[.int .u64 18446744073709551615] := by
    have := ((Blk.new ((w.alloc (.cells #[.int .i64 R, .int .i64 C, .slice A l.length cap] 24)).alloc (.cells #[.int .i64 R, .int .i64 C, .slice A l.length cap] 24)) 25 #[.int .u64 18446744073709551615]).alloc (.cells #[.int .i64 R, .int .i64 C, .slice A l.length cap] 48)).alloc (.cells #[.int .u64 h] 25)
    rwa [World.size_alloc, World.size_alloc] at this
  have hK1 : Blk (((((w.alloc (.cells #[.int .i64 R, .int .i64 C, .slice A l.length cap] 24)).alloc (.cells #[.int .i64 R, .int .i64 C, .slice A l.length cap] 24)).alloc (.cells #[.int .u64 18446744073709551615] 25)).alloc (.cells #[.int .i64 R, .int .i64 C, .slice A l.length cap] 48)).alloc (.cells #[.int .u64 h] 25)) (w.heap.size + 1 + 1 + 1) 48 #[.int .i64 R, .int .i64 C, .slice A l.length cap] := by
    have := (Blk.new (((w.alloc (.cells #[.int .i64 R, .int .i64 C, .slice A l.length cap] 24)).alloc (.cells #[.int .i64 R, .int .i64 C, .slice A l.length cap] 24)).alloc (.cells #[.int .u64 18446744073709551615] 25)) 48 #[.int .i64 R, .int .i64 C, .slice A l.length cap]).alloc (.cells #[.int .u64 h] 25)
    rwa [World.size_alloc, World.size_alloc, World.size_alloc] at this
  have hK2 : Blk (((((w.alloc (.cells #[.int .i64 R, .int .i64 C, .slice A l.length cap] 24)).alloc (.cells #[.int .i64 R, .int .i64 C, .slice A l.length cap] 24)).alloc (.cells #[.int .u64 18446744073709551615] 25)).alloc (.cells #[.int .i64 R, .int .i64 C, .slice A l.length cap] 48)).alloc (.cells #[.int .u64 h] 25)) (w.heap.size + 1 + 1 + 1 + 1) 25 #[.int .u64 h] := by
    have := Blk.new ((((w.alloc (.cells #[.int .i64 R, .int .i64 C, .slice A l.length cap] 24)).alloc (.cells #[.int .i64 R, .int .i64 C, .slice A l.length cap] 24)).alloc (.cells #[.int .u64 18446744073709551615] 25)).alloc (.cells #[.int .i64 R, .int .i64 C, .slice A l.length cap] 48)) 25 #[.int .u64 h]
    rwa [World.size_alloc, World.size_alloc, World.size_alloc, World.size_alloc] at this
  have hsz : (((((w.alloc (.cells #[.int .i64 R, .int .i64 C, .slice A l.length cap] 24)).alloc (.cells #[.int .i64 R, .int .i64 C, .slice A l.length cap] 24)).alloc (.cells #[.int .u64 18446744073709551615] 25)).alloc (.cells #[.int .i64 R, .int .i64 C, .slice A l.length cap] 48)).alloc (.cells #[.int .u64 h] 25)).heap.size = w.heap.size + 5 := by simp
  generalize ((((w.alloc (.cells #[.int .i64 R, .int .i64 C, .slice A l.length cap] 24)).alloc (.cells #[.int .i64 R, .int .i64 C, .slice A l.length cap] 24)).alloc (.cells #[.int .u64 18446744073709551615] 25)).alloc (.cells #[.int .i64 R, .int .i64 C, .slice A l.length cap] 48)).alloc (.cells #[.int .u64 h] 25) = V at *
  have hst : CtI w l.length w.heap.size (w.heap.size + 1 + 1) R C A cap l [] V := ⟨hL, hX, hS.below hb0, hb0⟩
  refine (wpIn_wide (n := 6)).1 ?_
  refine wpIn_rangeFunc_ownF rfl (by omega) (gf := 45) (lb := #[.pointer (some ⟨w.heap.size + 1 + 1 + 1, 0, none⟩), .pointer (some ⟨w.heap.size + 1 + 1 + 1 + 1, 0, none⟩)]) rfl trivial (enters_of Try.func45 (by kernel_rfl) rfl)
    (told_stops 5 (by omega) (w.heap.size + 1 + 1 + 1) (w.heap.size + 1 + 1 + 1 + 1) V.heap.size (w.heap.size + 1 + 1) R C l.length cap l.length A h hh hR4 hC1 hC2 zs HZ.out (by omega) (by omega) (by omega) (by omega) V (Nat.le_refl _) hK1 hK2)
    (fun h k => keepBut_t h k) (keepBut_b (by omega)) (Below.refl _ _) (fun _ => rfl)
    (CtI w l.length w.heap.size (w.heap.size + 1 + 1) R C A cap l) (CtX w l.length (w.heap.size + 1 + 1) l) (CtI_own (by omega)) (fun c => CtX_own (by omega)) hst
    (fun x => { tmps := #[.agg #[.int .i64 R, .int .i64 C, .slice A l.length cap], .int .u64 h, .pointer (some ⟨w.heap.size, 0, none⟩), undef, .int .u64 0, .pointer (some ⟨w.heap.size + 1 + 1, 0, none⟩), .int .i64 (x.1 : Int), .agg #[.int .i64 R, .int .i64 C, .slice A l.length cap], .bool true, .bool false, .agg #[.int .i64 R, .int .i64 C, .slice A l.length cap], .agg #[.int .i64 R, .int .i64 C, .slice A l.length cap], .int .u64 h, .func (.func 45) #[] #[.pointer (some ⟨w.heap.size + 1 + 1 + 1, 0, none⟩), .pointer (some ⟨w.heap.size + 1 + 1 + 1 + 1, 0, none⟩)], .int .i64 (x.1 : Int), undef, undef, undef, undef, undef, undef, undef, undef, undef, undef], defers := [] }) ?assign ?body ?done ?stop
  case assign =>
    intro l x W K hK
    gi_wp2
    exact hK
  case body =>
    rintro l' pre ⟨p, hp⟩ W ⟨hG, hx, hSl, hb⟩ hlt
    obtain ⟨a, ha⟩ : ∃ a, least l (pre.map (·.1)) = a := ⟨_, rfl⟩
    have hUa : U a := by rw [← ha]; exact least_U hU _
    have HA : Hid (least l ((pre ++ [(⟨p, hp⟩ : At l.length)]).map (·.1)) = min a (nth l p)) := by
      show _ = _
      rw [List.map_append, ← ha]
      exact least_snoc l _ p
    rw [ha] at hG
    clear ha
    obtain ⟨bl, off, rfl, hbl, hcs⟩ := hSl.at_ (by omega)
    have cx := hcs p hp
    have hUx := nth_U hU p
    obtain ⟨v, hv⟩ : ∃ v, nth l p = v := ⟨_, rfl⟩
    rw [hv] at cx hUx HA
    clear hcs hv
    have HG := Lib.hid hG
    have HX := Lib.hid hx
    have HSL := Lib.hid hSl
    have cg := hG.one
    have fg := hG.frozen 0
    have c2 := hx.c2
    have z1 := hx.lt
    have z3 := hG.lt
    have hx1 : (0 : Int) ≤ (p : Int) := by omega
    have hx2 : ((p : Nat) : Int) < (l.length : Int) := by omega
    have hn1 : bl ≠ w.heap.size + 1 + 1 := by omega
    obtain ⟨mn, hmn⟩ : ∃ mn, min a v = mn := ⟨_, rfl⟩
    rw [hmn] at HA
    have hmin : (if v < a then v else a) = mn := by rw [← hmn]; split <;> omega
    clear hG hx hSl hmn
    gi_wp2_with fail
    refine wpIn_region_round (S := fun w' => w'.cell? ⟨w.heap.size, 2, none⟩ = some (.slice (some ⟨bl, off, none⟩) l.length cap) ∧ w'.cell? ⟨bl, off + p, none⟩ = some (.int .u64 v)) (by kernel_rfl) (by kernel_rfl) (by rintro ⟨_, _, h⟩; exact h) ⟨c2, cx⟩ (fun hHeld => ?_)
    refine wpAnyH_take (i := 1) (v := (.pointer (some ⟨w.heap.size, 2, none⟩))) rfl (by kernel_rfl) (by kernel_rfl) (by kernel_rfl) (fun _ _ _ h => h) (Or.inl ⟨by rfl, ?_⟩) hHeld ?_
    · (intro w hSw; (try dsimp only at hSw); (try obtain ⟨s0, s1⟩ := hSw); go_simp)
    simp only [Act.put, List.setIfInBounds_toArray, List.set_cons_zero, List.set_cons_succ]
    refine wpAnyH_take (i := 2) (v := (.slice (some ⟨bl, off, none⟩) l.length cap)) rfl (by kernel_rfl) (by kernel_rfl) (by kernel_rfl) (fun _ _ _ h => h) (Or.inl ⟨by rfl, ?_⟩) hHeld ?_
    · (intro w hSw; (try dsimp only at hSw); (try obtain ⟨s0, s1⟩ := hSw); go_simp)
    simp only [Act.put, List.setIfInBounds_toArray, List.set_cons_zero, List.set_cons_succ]
    refine wpAnyH_take (i := 3) (v := (.int .i64 (p : Int))) rfl (by kernel_rfl) (by kernel_rfl) (by kernel_rfl) (fun _ _ _ h => h) (Or.inl ⟨by rfl, ?_⟩) hHeld ?_
    · (intro w hSw; (try dsimp only at hSw); (try obtain ⟨s0, s1⟩ := hSw); go_simp)
    simp only [Act.put, List.setIfInBounds_toArray, List.set_cons_zero, List.set_cons_succ]
    refine wpAnyH_take (i := 4) (v := (.pointer (some ⟨bl, off + p, none⟩))) rfl (by kernel_rfl) (by kernel_rfl) (by kernel_rfl) (fun _ _ _ h => h) (Or.inl ⟨by rfl, ?_⟩) hHeld ?_
    · (intro w hSw; (try dsimp only at hSw); (try obtain ⟨s0, s1⟩ := hSw); go_simp)
    simp only [Act.put, List.setIfInBounds_toArray, List.set_cons_zero, List.set_cons_succ]
    refine wpAnyH_take (i := 5) (v := (.int .u64 v)) rfl (by kernel_rfl) (by kernel_rfl) (by kernel_rfl) (fun _ _ _ h => h) (Or.inl ⟨by rfl, ?_⟩) hHeld ?_
    · (intro w hSw; (try dsimp only at hSw); (try obtain ⟨s0, s1⟩ := hSw); go_simp)
    simp only [Act.put, List.setIfInBounds_toArray, List.set_cons_zero, List.set_cons_succ]
    refine wpAnyH_ready (rs := [0]) (by kernel_rfl) (by simp) ?_
    refine AllReadyH.cons rfl (fun K hK => ?_) AllReadyH.nil
    go_simp
    refine hK.out _ _ ⟨c2, cx⟩ (fun hHeld => ?_)
    clear hK K
    try simp only [Act.put, List.setIfInBounds_toArray, List.set_cons_zero, List.set_cons_succ]
    refine wpAnyH_ready (rs := [6]) (by kernel_rfl) (by simp) ?_
    refine AllReadyH.cons rfl (fun K hK => ?_) AllReadyH.nil
    go_simp
    refine hK.out _ _ ⟨c2, cx⟩ (fun hHeld => ?_)
    clear hK K
    try simp only [Act.put, List.setIfInBounds_toArray, List.set_cons_zero, List.set_cons_succ]
    refine wpAnyH_ready (rs := [7]) (by kernel_rfl) (by simp) ?_
    refine AllReadyH.cons rfl (fun K hK => ?_) AllReadyH.nil
    go_simp
    refine hK.out _ _ ⟨(HX.out.far (p := ⟨w.heap.size + 1 + 1, 0, none⟩) (by show w.heap.size ≠ w.heap.size + 1 + 1; omega) _).c2, by show (W.setCell _ _).cell? _ = _; rw [World.cell?_setCell_other _ _ _ _ (fun e => hn1 (by injection e with e1 _; exact e1.symm))]; exact cx⟩ (fun hHeld => ?_)
    clear hK K
    try simp only [Act.put, List.setIfInBounds_toArray, List.set_cons_zero, List.set_cons_succ]
    refine wpAnyH_done (by kernel_rfl) ?_ _
    have HG2 : Blk (W.setCell ⟨w.heap.size + 1 + 1, 0, none⟩ (.int .u64 mn)).drew (w.heap.size + 1 + 1) 25 #[.int .u64 mn] := HG.out.set_ 0 _
    have cg2 := HG2.one
    have hbS : Below w.heap.size w (W.setCell ⟨w.heap.size + 1 + 1, 0, none⟩ (.int .u64 mn)).drew := (hb.setCell (by show w.heap.size ≤ w.heap.size + 1 + 1; omega) _).drew
    have hKO : KeepsOthers W (W.setCell ⟨w.heap.size + 1 + 1, 0, none⟩ (.int .u64 mn)).drew := (KeepsOthers.setCell _ _ _).trans (KeepsOthers.drew _)
    by_cases h0 : mn = 0
    · subst h0
      gi_wp2
      exact ⟨hKO, rfl, HG2, HA.out, hbS⟩
    · have d0 : (mn == 0) = false := by simpa using h0
      gi_wp2
      refine ⟨hKO, ⟨hKO.size, fun i _ hne => Below.heap_setCell W ⟨w.heap.size + 1 + 1, 0, none⟩ _ i hne⟩, ?_, HX.out.far (p := ⟨w.heap.size + 1 + 1, 0, none⟩) (by show w.heap.size ≠ w.heap.size + 1 + 1; omega) _, HSL.out.keep (fun b o hb' => World.cell?_setCell_other _ _ _ _ (fun e => by injection e with e1 _; omega)), hbS⟩
      rw [HA.out]
      exact HG2
  case done =>
    rintro D ys W hD rfl ⟨hG, hx, hSl, hb⟩ hK
    rw [HZ.out] at hG
    have HG := Lib.hid hG
    have cg := hG.one
    clear hG hx hSl
    go_wp2_with fail
    try rw [Exit.noGoto_ret]
    refine ⟨by simp, .inl ⟨_, _, rfl, run_takeDeferred hK, ?_⟩⟩
    exact ⟨.int .u64 (least l (places R C h)), by simp [results, Try.results21, go_sem], ret_int HR.out.symm, hb.trans (belowK_b (w := w) (Nat.le_refl _) _ D _ _ (by omega) hK rfl rfl)⟩
  case stop =>
    rintro D c' pre W hD hpre ⟨rfl, hG, hz, hb⟩ hK
    have hz' := least_zero hU hz (hpre.map (·.1))
    rw [HZ.out] at hz'
    have HZ0 := Lib.hid hz'
    have cg := hG.one
    clear hz hz' hG
    refine wpIn_wide.2 ?_
    go_wp2_with fail
    try rw [Exit.noGoto_ret]
    refine ⟨by simp, .inl ⟨_, _, rfl, run_takeDeferred hK, ?_⟩⟩
    exact ⟨.int .u64 0, by simp [results, Try.results21, go_sem], ret_int (by rw [HR.out, HZ0.out]), hb.trans (belowK_b (w := w) (Nat.le_refl _) _ D _ _ (by omega) hK rfl rfl)⟩
theorem count_any (r c : Int) (A : Option Addr) (l : List Int) (cap : Nat) (h : Int) (hh : U h) (hU : Us l) (w : World) (hS : Sl w w.heap.size A l) :
    Calls Try.prog 21 #[.agg #[.int .i64 r, .int .i64 c, .slice A l.length cap], .int .u64 h] w fun e w' => e = .returned (.int .u64 (countC ⟨r, c, l⟩ h)) ∧ Below w.heap.size w w' := by
  cases hr : rightC r c l.length with
  | false => exact count_bad r c A l cap h w hr
  | true =>
    obtain ⟨R, C, rfl, rfl, _⟩ := shape_nat (right_of hr).1
    exact callsIn_wide.1 (count_good R C A l cap h hh hU w hS hr)
end Go.Proofs.Ythjdonhabenmcaa

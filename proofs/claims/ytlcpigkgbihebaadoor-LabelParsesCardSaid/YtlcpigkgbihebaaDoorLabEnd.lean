/-
  The reader's steps: end, comma, step.
-/
import Derived.Test.YtlcpigkgbihebaaDoorLabStep
import Derived.Test.YtlcpigkgbihebaaDoorHeldU
import Derived.Deep.RegionHeld3
namespace Go.Proofs.YtlcpigkgbihebaaDoor
open Go.RowKit
set_option linter.unusedVariables false
set_option linter.unusedSimpArgs false
theorem step_append_rl {P : Program} {w : World} {ops : Array Oper} {o : Oper} {a : Act} {K : Act → World → Prop} {Q : Exit → Act → World → Prop} {E : Prop} (hgd : o.guard = none) (s x : Operand) (t : TypeId)
    (ho : o.op = .call { callee := .builtin .append, args := #[s, x], argTypes := #[t, t] })
    (base : Nat) (e : TypeId) (i : TypeInfo) (z : Value) (size bytes : Nat) (ht : P.underlying t = some (.slice e)) (hi : P.info? e = some i) (hz : i.zero = some z)
    (hsize : i.size = size) (hby : i.bytes = bytes) (hzs : z.cells.size = size) (hsz : 0 < size)
    (v : Value) (n : Nat) (xs : List Value) (hs : a.eval s = v) (hown : w.ownsRow base e size v n xs)
    (B : Nat) (A : Option Addr) (m c : Nat) (news : List Value) (hx : a.eval x = .slice A m c) (hm : news.length = m * size) (hr : Rd w B A news) (h1 : ∀ u ∈ news, u.oneCell' = true)
    (h63 : n + m ≤ maxLen) (hbytes : (n + m) * bytes ≤ 140737488355328) (hbase : base ≤ w.heap.size)
    (h : ∀ A' c' w', w'.ownsRow base e size (.slice A' (n + m) c') (n + m) (xs ++ news) → w.grownBy w' v.ownBlock → K (a.put o.dst (.slice A' (n + m) c')) w') :
    if Region.wanted o (yielded ops a.tmps) = true then Oper.wp P o a w K Q else E := by
  have hw : Region.wanted o (yielded ops a.tmps) = true := by simp [Region.wanted, hgd]
  rw [if_pos hw]
  obtain ⟨v', w', hrun, h2, h3, h4⟩ := run_append_rd (P := P) w base t o.type e i z size bytes ht hi hz hsize hby hzs hsz v n xs hown B A m c news hm hr h1 h63 hbytes hbase
  obtain ⟨A', c', rfl, _⟩ := owns_form h2
  unfold Oper.wp execOp
  simp only [ho, resolve, invoke, builtin, Sem.run_bind, Sem.run_pure, Result.andThen_ok, List.map_toArray, List.map_cons, List.map_nil, hs, hx, hrun]
  exact h A' c' w' h2 h3
theorem Tryd.infoLab : (Tryd.prog.info? 41).map (fun i => (i.zero, i.size, i.bytes)) = some (some (.agg #[.string ⟨#[]⟩, .string ⟨#[]⟩]), 2, 32) := by kernel_rfl
def endF (s : RS) : Option RS := if s.place = 1 then (if s.l.length < 6 then some ⟨⟨#[]⟩, ⟨#[]⟩, 0, 0, s.l ++ [(s.nm, s.vl)]⟩ else none) else none
theorem flatL_snoc (l : List Lab) (x : Lab) : flatL (l ++ [x]) = flatL l ++ [.string x.1, .string x.2] := by simp [flatL]
theorem rd_lab {w : World} {g : Nat} {t : TypeId} {cs : List Value} (h : Blk w g t cs.toArray) : Rd w (g + 1) (some ⟨g, 0, none⟩) cs := fun _ =>
  ⟨g, 0, rfl, Nat.lt_succ_self _, fun j u hj => by rw [Nat.zero_add, h.cell]; simpa using hj⟩
theorem own_form2 {w : World} {B n : Nat} {v : Value} {xs : List Value} (h : w.ownsRow B 41 2 v n xs) : ∃ A c, v = .slice A n c := by
  obtain ⟨_, ⟨h, e⟩ | ⟨g, cap, cur, hv, _⟩⟩ := h
  · subst e; exact ⟨none, 0, h⟩
  · exact ⟨_, _, hv⟩
theorem own_row {w : World} {B n : Nat} {v : Value} {xs : List Value} (h : w.ownsRow B 41 2 v n xs) : ∀ g, v.ownBlock = some g → B ≤ g ∧ ∃ c fz, w.heap[g]? = some (.cells c 41 fz) := by
  intro g hg
  obtain ⟨_, ⟨h, e⟩ | ⟨r, cap, cur, hv, hb, hh, _⟩⟩ := h
  · subst h; cases hg
  · subst hv; cases hg; exact ⟨hb, _, _, hh⟩
set_option maxRecDepth 100000 in
set_option maxHeartbeats 1000000 in
theorem end_1 (B g m : Nat) (s : RS) (w : World) (h : RdAt B g m s w) (hk : s.Ok) (hp : ¬ s.place = 1) :
    Calls Tryd.prog 45 #[.pointer (some ⟨g, 0, none⟩)] w (RPost B g m w none) := by
  obtain ⟨nm, vl, place, runes, l⟩ := s
  obtain ⟨k1, k2, k3, k4, k5⟩ := hk
  simp only at k1 k2 k3 k4 k5 hp
  have hr := h
  obtain ⟨hB, hBm, hm, lv, hb, ho⟩ := h
  simp only at hb ho
  have c0 := hb.cell 0
  have c1 := hb.cell 1
  have c2 := hb.cell 2
  have c3 := hb.cell 3
  simp only [List.getElem?_toArray, List.getElem?_cons_zero, List.getElem?_cons_succ] at c0 c1 c2 c3
  have f0 := hb.frozen 0
  have f1 := hb.frozen 1
  have f2 := hb.frozen 2
  have f3 := hb.frozen 3
  have HR := Lib.hid hr
  clear hm ho hb hr
  have hp1 : (place != 1) = true := by simp [hp]
  have hp2 : (place == 1) = false := by rw [beq_eq_false_iff_ne]; exact hp
  go_enter Tryd.func45, Tryd.ntmps45
  go_wp2_with fail
  go_ret
  exact RPost.err (Below.refl _ _) (Lib.OthersKept.refl _ _ _) HR.out
set_option maxRecDepth 100000 in
set_option maxHeartbeats 1000000 in
theorem end_2 (B g m : Nat) (s : RS) (w : World) (h : RdAt B g m s w) (hk : s.Ok) (hp : s.place = 1) (hl : ¬ s.l.length < 6) :
    Calls Tryd.prog 45 #[.pointer (some ⟨g, 0, none⟩)] w (RPost B g m w none) := by
  obtain ⟨nm, vl, place, runes, l⟩ := s
  obtain ⟨k1, k2, k3, k4, k5⟩ := hk
  simp only at k1 k2 k3 k4 k5 hp hl
  have hr := h
  obtain ⟨hB, hBm, hm, lv, hb, ho⟩ := h
  simp only at hb ho
  have c0 := hb.cell 0
  have c1 := hb.cell 1
  have c2 := hb.cell 2
  have c3 := hb.cell 3
  simp only [List.getElem?_toArray, List.getElem?_cons_zero, List.getElem?_cons_succ] at c0 c1 c2 c3
  have f0 := hb.frozen 0
  have f1 := hb.frozen 1
  have f2 := hb.frozen 2
  have f3 := hb.frozen 3
  have HR := Lib.hid hr
  obtain ⟨A, cA, rfl⟩ := own_form2 ho
  have c4 : w.cell? ⟨g, 4, none⟩ = some (.slice A l.length cA) := hb.cell 4
  have f4 := hb.frozen 4
  have HO := Lib.hid ho
  have HBK := Lib.hid hb
  have HM := Lib.hid hm
  clear hm ho hb hr
  subst hp
  have hl1 : ((l.length : Int) == 6) = true := by rw [beq_iff_eq]; omega
  have hl2 : (l.length == 6) = true := by rw [beq_iff_eq]; omega
  go_enter Tryd.func45, Tryd.ntmps45
  go_wp2_with fail
  go_ret
  exact RPost.err (Below.refl _ _) (Lib.OthersKept.refl _ _ _) HR.out
set_option maxRecDepth 100000 in
set_option maxHeartbeats 1000000 in
theorem end_3 (B g m : Nat) (s : RS) (w : World) (h : RdAt B g m s w) (hk : s.Ok) (hp : s.place = 1) (hl : s.l.length < 6) :
    Calls Tryd.prog 45 #[.pointer (some ⟨g, 0, none⟩)] w (RPost B g m w (some ⟨⟨#[]⟩, ⟨#[]⟩, 0, 0, s.l ++ [(s.nm, s.vl)]⟩)) := by
  obtain ⟨nm, vl, place, runes, l⟩ := s
  obtain ⟨k1, k2, k3, k4, k5⟩ := hk
  simp only at k1 k2 k3 k4 k5 hp hl
  have hr := h
  obtain ⟨hB, hBm, hm, lv, hb, ho⟩ := h
  simp only at hb ho
  have c0 := hb.cell 0
  have c1 := hb.cell 1
  have c2 := hb.cell 2
  have c3 := hb.cell 3
  simp only [List.getElem?_toArray, List.getElem?_cons_zero, List.getElem?_cons_succ] at c0 c1 c2 c3
  have f0 := hb.frozen 0
  have f1 := hb.frozen 1
  have f2 := hb.frozen 2
  have f3 := hb.frozen 3
  have HR := Lib.hid hr
  obtain ⟨A, cA, rfl⟩ := own_form2 ho
  have c4 : w.cell? ⟨g, 4, none⟩ = some (.slice A l.length cA) := hb.cell 4
  have f4 := hb.frozen 4
  have HO := Lib.hid ho
  have HBK := Lib.hid hb
  have HM := Lib.hid hm
  clear hm ho hb hr
  subst hp
  have hl1 : ((l.length : Int) == 6) = false := by rw [beq_eq_false_iff_ne]; omega
  have hl2 : (l.length == 6) = false := by rw [beq_eq_false_iff_ne]; omega
  obtain ⟨i0, hi0, hz0, hz1, hz2⟩ := info_parts Tryd.infoLab
  go_enter Tryd.func45, Tryd.ntmps45
  go_wp2_with fail
  refine wp_region_U (S := fun w' => w'.cell? ⟨g, 4, none⟩ = some (.slice A l.length cA) ∧ w'.cell? ⟨g, 0, none⟩ = some (.string nm) ∧ w'.cell? ⟨g, 1, none⟩ = some (.string vl)) (s := 13) (by kernel_rfl) ?_
  refine wpAnyU_take (i := 0) (v := (.pointer (some ⟨g, 0, none⟩))) rfl (by kernel_rfl) (by kernel_rfl) (by kernel_rfl) (by kernel_rfl) (by decide) (by kernel_rfl) (fun _ _ _ h => h) (Or.inl ⟨by rfl, ?_⟩) ⟨c4, c0, c1⟩ ?_
  · (intro w hSw; (try dsimp only at hSw); obtain ⟨s0, s1, s2⟩ := hSw; go_simp)
  simp only [Act.put, List.setIfInBounds_toArray, List.set_cons_zero, List.set_cons_succ]
  refine wpAnyU_take (i := 1) (v := (.pointer (some ⟨g, 0, none⟩))) rfl (by kernel_rfl) (by kernel_rfl) (by kernel_rfl) (by kernel_rfl) (by decide) (by kernel_rfl) (fun _ _ _ h => h) (Or.inl ⟨by rfl, ?_⟩) ⟨c4, c0, c1⟩ ?_
  · (intro w hSw; (try dsimp only at hSw); obtain ⟨s0, s1, s2⟩ := hSw; go_simp)
  simp only [Act.put, List.setIfInBounds_toArray, List.set_cons_zero, List.set_cons_succ]
  refine wpAnyU_take (i := 2) (v := (.pointer (some ⟨g, 0, none⟩))) rfl (by kernel_rfl) (by kernel_rfl) (by kernel_rfl) (by kernel_rfl) (by decide) (by kernel_rfl) (fun _ _ _ h => h) (Or.inl ⟨by rfl, ?_⟩) ⟨c4, c0, c1⟩ ?_
  · (intro w hSw; (try dsimp only at hSw); obtain ⟨s0, s1, s2⟩ := hSw; go_simp)
  simp only [Act.put, List.setIfInBounds_toArray, List.set_cons_zero, List.set_cons_succ]
  refine wpAnyU_take (i := 3) (v := (.pointer (some ⟨g, 4, none⟩))) rfl (by kernel_rfl) (by kernel_rfl) (by kernel_rfl) (by kernel_rfl) (by decide) (by kernel_rfl) (fun _ _ _ h => h) (Or.inl ⟨by rfl, ?_⟩) ⟨c4, c0, c1⟩ ?_
  · (intro w hSw; (try dsimp only at hSw); obtain ⟨s0, s1, s2⟩ := hSw; go_simp)
  simp only [Act.put, List.setIfInBounds_toArray, List.set_cons_zero, List.set_cons_succ]
  refine wpAnyU_take (i := 4) (v := (.slice A l.length cA)) rfl (by kernel_rfl) (by kernel_rfl) (by kernel_rfl) (by kernel_rfl) (by decide) (by kernel_rfl) (fun _ _ _ h => h) (Or.inl ⟨by rfl, ?_⟩) ⟨c4, c0, c1⟩ ?_
  · (intro w hSw; (try dsimp only at hSw); obtain ⟨s0, s1, s2⟩ := hSw; go_simp)
  simp only [Act.put, List.setIfInBounds_toArray, List.set_cons_zero, List.set_cons_succ]
  refine wpAnyU_take (i := 5) (v := (.pointer (some ⟨g, 0, none⟩))) rfl (by kernel_rfl) (by kernel_rfl) (by kernel_rfl) (by kernel_rfl) (by decide) (by kernel_rfl) (fun _ _ _ h => h) (Or.inl ⟨by rfl, ?_⟩) ⟨c4, c0, c1⟩ ?_
  · (intro w hSw; (try dsimp only at hSw); obtain ⟨s0, s1, s2⟩ := hSw; go_simp)
  simp only [Act.put, List.setIfInBounds_toArray, List.set_cons_zero, List.set_cons_succ]
  refine wpAnyU_take (i := 6) (v := (.pointer (some ⟨g, 0, none⟩))) rfl (by kernel_rfl) (by kernel_rfl) (by kernel_rfl) (by kernel_rfl) (by decide) (by kernel_rfl) (fun _ _ _ h => h) (Or.inl ⟨by rfl, ?_⟩) ⟨c4, c0, c1⟩ ?_
  · (intro w hSw; (try dsimp only at hSw); obtain ⟨s0, s1, s2⟩ := hSw; go_simp)
  simp only [Act.put, List.setIfInBounds_toArray, List.set_cons_zero, List.set_cons_succ]
  refine wpAnyU_take (i := 7) (v := (.pointer (some ⟨g, 0, none⟩))) rfl (by kernel_rfl) (by kernel_rfl) (by kernel_rfl) (by kernel_rfl) (by decide) (by kernel_rfl) (fun _ _ _ h => h) (Or.inl ⟨by rfl, ?_⟩) ⟨c4, c0, c1⟩ ?_
  · (intro w hSw; (try dsimp only at hSw); obtain ⟨s0, s1, s2⟩ := hSw; go_simp)
  simp only [Act.put, List.setIfInBounds_toArray, List.set_cons_zero, List.set_cons_succ]
  refine wpAnyU_take (i := 8) (v := (.agg #[.string nm, .string vl])) rfl (by kernel_rfl) (by kernel_rfl) (by kernel_rfl) (by kernel_rfl) (by decide) (by kernel_rfl) (fun _ _ _ h => h) (Or.inl ⟨by rfl, ?_⟩) ⟨c4, c0, c1⟩ ?_
  · (intro w hSw; (try dsimp only at hSw); obtain ⟨s0, s1, s2⟩ := hSw; go_simp)
  simp only [Act.put, List.setIfInBounds_toArray, List.set_cons_zero, List.set_cons_succ]
  refine wpAnyU_one (i := 9) (by kernel_rfl) rfl (fun K hK => ?_)
  go_simp
  have hba : Below w.heap.size w ((w.alloc (.cells #[.string nm, .string vl] 41)).drew) := below_drewN (below_al (below_0 w) (.cells #[.string nm, .string vl] 41)) 1
  have NB : Hid (Blk ((w.alloc (.cells #[.string nm, .string vl] 41)).drew) w.heap.size 41 #[.string nm, .string vl]) := (Blk.new w 41 #[.string nm, .string vl]).drew
  have HO1 : Hid (((w.alloc (.cells #[.string nm, .string vl] 41)).drew).ownsRow B 41 2 (.slice A l.length cA) l.length (flatL l)) := (World.ownsRow.alloc HO.out _)
  have KO1 : Hid (Lib.OthersKept 41 (some g) w ((w.alloc (.cells #[.string nm, .string vl] 41)).drew)) := ((Lib.OthersKept.refl _ _ w).alloc _).drew
  have BL1 : Hid (Below B w ((w.alloc (.cells #[.string nm, .string vl] 41)).drew)) := hba.mono (by have := HBK.out.lt; omega)
  have HM1 : Hid (((w.alloc (.cells #[.string nm, .string vl] 41)).drew).heap[m]? = some (.map (doesO g) 3)) := (hba.block m (Array.getElem?_eq_some_iff.1 HM.out).1).trans HM.out
  have HBK1 := Lib.hid (HBK.out.later hba)
  clear hba HBK HM HO HR c0 c1 c2 c3 c4 f0 f1 f2 f3 f4
  generalize (w.alloc (.cells #[.string nm, .string vl] 41)).drew = W2 at *
  have d0 := HBK1.out.cell 0
  have d1 := HBK1.out.cell 1
  have d4 := HBK1.out.cell 4
  simp only [List.getElem?_toArray, List.getElem?_cons_zero, List.getElem?_cons_succ] at d0 d1 d4
  refine hK.out _ _ (fun _ => ⟨d4, d0, d1⟩) ?_
  clear hK K
  try simp only [Act.put, List.getElem_toArray, List.getElem_cons_succ, List.getElem_cons_zero, List.setIfInBounds_toArray, List.set_cons_zero, List.set_cons_succ]
  refine wpAnyU_one (i := 10) (by kernel_rfl) rfl (fun K hK => ?_)
  refine step_append_rl rfl (.tmp 22) (.tmp 27) 23 rfl B 41 i0 (.agg #[.string ⟨#[]⟩, .string ⟨#[]⟩]) 2 32 Tryd.underlying23 hi0 hz0 hz1 hz2 rfl (by decide) (.slice A l.length cA) l.length _ rfl HO1.out (w.heap.size + 1) (some ⟨w.heap.size, 0, none⟩) 1 1 [.string nm, .string vl] rfl (by simp) (rd_lab (cs := [.string nm, .string vl]) NB.out) (by intro u hu; simp at hu; rcases hu with rfl | rfl <;> rfl) (by unfold maxLen; omega) (by omega) (by have := HBK1.out.lt; omega) ?_
  intro A3 c3 W3 hown3 hg3
  have hrow := own_row HO1.out
  have hne : ∀ r, (Value.slice A l.length cA).ownBlock = some r → r ≠ g := fun r hr e => by
    obtain ⟨_, c, fz, hc⟩ := hrow r hr
    subst e
    rw [show W2.heap[r]? = _ from HBK1.out] at hc
    injection hc with hc
    injection hc with _ hc
    exact absurd hc (by decide)
  have hnm : ∀ r, (Value.slice A l.length cA).ownBlock = some r → r ≠ m := fun r hr e => by
    obtain ⟨_, c, fz, hc⟩ := hrow r hr
    subst e
    rw [HM1.out] at hc
    cases hc
  have HBK3 : Hid (Blk W3 g 71 #[.string nm, .string vl, .int .i64 1, .int .i64 runes, .slice A l.length cA, .map (some m)]) := HBK1.out.grown hg3 (fun e => hne _ e.symm rfl)
  have HM3 : Hid (W3.heap[m]? = some (.map (doesO g) 3)) := (hg3.block m (Array.getElem?_eq_some_iff.1 HM1.out).1 (fun e => hnm _ e.symm rfl)).trans HM1.out
  have KO3 : Hid (Lib.OthersKept 41 (some g) w W3) := KO1.out.grown hg3 (fun r hr => (hrow r hr).2)
  have BL3 : Hid (Below B w W3) := BL1.out.grown hg3 (by have := HBK1.out.lt; omega) (fun r hr => (hrow r hr).1)
  have HO3 : Hid (W3.ownsRow B 41 2 (.slice A3 (l.length + 1) c3) (l.length + 1) (flatL (l ++ [(nm, vl)]))) := by show World.ownsRow _ _ _ _ _ _ _; rw [flatL_snoc]; exact hown3
  clear hown3 hg3 hrow hne hnm HBK1 HM1 KO1 BL1 HO1 NB d0 d1 d4
  have d0 := HBK3.out.cell 0
  have d1 := HBK3.out.cell 1
  have d4 := HBK3.out.cell 4
  simp only [List.getElem?_toArray, List.getElem?_cons_zero, List.getElem?_cons_succ] at d0 d1 d4
  refine hK.out _ _ (fun _ => ⟨d4, d0, d1⟩) ?_
  clear hK K
  try simp only [Act.put, List.getElem_toArray, List.getElem_cons_succ, List.getElem_cons_zero, List.setIfInBounds_toArray, List.set_cons_zero, List.set_cons_succ]
  refine wpAnyU_one (i := 11) (by kernel_rfl) rfl (fun K hK => ?_)
  go_simp
  refine hK.out _ _ (fun _ => ⟨d4, d0, d1⟩) ?_
  clear hK K
  try simp only [Act.put, List.getElem_toArray, List.getElem_cons_succ, List.getElem_cons_zero, List.setIfInBounds_toArray, List.set_cons_zero, List.set_cons_succ]
  refine wpAnyU_take (i := 12) (v := (.pointer (some ⟨g, 4, none⟩))) rfl (by kernel_rfl) (by kernel_rfl) (by kernel_rfl) (by kernel_rfl) (by decide) (by kernel_rfl) (fun _ _ _ h => h) (Or.inl ⟨by rfl, ?_⟩) ⟨d4, d0, d1⟩ ?_
  · (intro w hSw; (try dsimp only at hSw); obtain ⟨s0, s1, s2⟩ := hSw; go_simp)
  simp only [Act.put, List.getElem_toArray, List.getElem_cons_succ, List.getElem_cons_zero, List.setIfInBounds_toArray, List.set_cons_zero, List.set_cons_succ]
  have f0 := HBK3.out.frozen 0
  have f1 := HBK3.out.frozen 1
  have f2 := HBK3.out.frozen 2
  have f3 := HBK3.out.frozen 3
  have f4 := HBK3.out.frozen 4
  refine wpAnyU_one (i := 13) (by kernel_rfl) rfl (fun K hK => ?_)
  go_simp
  refine hK.out _ _ (fun h => by cases h) ?_
  clear hK K
  try simp only [Act.put, List.getElem_toArray, List.getElem_cons_succ, List.getElem_cons_zero, List.setIfInBounds_toArray, List.set_cons_zero, List.set_cons_succ]
  refine wpAnyU_done (by kernel_rfl) ?_ _
  have d2 := HBK3.out.cell 2
  have d3 := HBK3.out.cell 3
  simp only [List.getElem?_toArray, List.getElem?_cons_zero, List.getElem?_cons_succ] at d2 d3
  go_wp2_with fail
  go_ret
  have hs4 : RdAt B g m ⟨nm, vl, 1, runes, l ++ [(nm, vl)]⟩ (W3.setCell ⟨g, 4, none⟩ (.slice A3 (l.length + 1) c3)) := by
    refine ⟨hB, hBm, (Below.heap_setCell W3 ⟨g, 4, none⟩ _ m (map_ne HM3.out HBK3.out)).trans HM3.out, .slice A3 (l.length + 1) c3, HBK3.out.set_ 4 _, ?_⟩
    have := own_set (o := 4) (u := .slice A3 (l.length + 1) c3) HO3.out HBK3.out
    simpa using this
  have b4 : Below B w (W3.setCell ⟨g, 4, none⟩ (.slice A3 (l.length + 1) c3)) := BL3.out.setCell hB _
  have k4' : Lib.OthersKept 41 (some g) w (W3.setCell ⟨g, 4, none⟩ (.slice A3 (l.length + 1) c3)) := KO3.out.setCell _ rfl _
  have r0 : RdAt B g m ⟨⟨#[]⟩, vl, 1, runes, l ++ [(nm, vl)]⟩ _ := hs4.set (i := 0) (u := .string ⟨#[]⟩) rfl (fun lv => rfl)
  have q0 := hs4.fr b4 k4' 0 (.string ⟨#[]⟩)
  have r1 : RdAt B g m ⟨⟨#[]⟩, ⟨#[]⟩, 1, runes, l ++ [(nm, vl)]⟩ _ := r0.set (i := 1) (u := .string ⟨#[]⟩) rfl (fun lv => rfl)
  have q1 := r0.fr q0.1 q0.2 1 (.string ⟨#[]⟩)
  have r2 : RdAt B g m ⟨⟨#[]⟩, ⟨#[]⟩, 0, runes, l ++ [(nm, vl)]⟩ _ := r1.set (i := 2) (u := .int .i64 0) rfl (fun lv => rfl)
  have q2 := r1.fr q1.1 q1.2 2 (.int .i64 0)
  have r3 : RdAt B g m ⟨⟨#[]⟩, ⟨#[]⟩, 0, 0, l ++ [(nm, vl)]⟩ _ := r2.set (i := 3) (u := .int .i64 0) rfl (fun lv => rfl)
  have q3 := r2.fr q2.1 q2.2 3 (.int .i64 0)
  exact RPost.ok q3.1 q3.2 r3
theorem end_any (B g m : Nat) (s : RS) (w : World) (h : RdAt B g m s w) (hk : s.Ok) :
    Calls Tryd.prog 45 #[.pointer (some ⟨g, 0, none⟩)] w (RPost B g m w (endF s)) := by
  unfold endF
  by_cases hp : s.place = 1
  · rw [if_pos hp]
    by_cases hl : s.l.length < 6
    · rw [if_pos hl]; exact end_3 B g m s w h hk hp hl
    · rw [if_neg hl]; exact end_2 B g m s w h hk hp hl
  · rw [if_neg hp]; exact end_1 B g m s w h hk hp
theorem RPost.form {B g m : Nat} {w w' : World} {r : Option RS} {e : Ending} (h1 : RPost B g m w r e w') : ∃ v, e = .returned v := by
  obtain ⟨_, _, h3⟩ := h1
  split at h3
  · exact ⟨_, h3.1⟩
  · obtain ⟨⟨t, ht⟩, _⟩ := h3; exact ⟨_, ht⟩
theorem comma_any (B g m : Nat) (s : RS) (c : Int) (w : World) (h : RdAt B g m s w) (hk : s.Ok) :
    Calls Tryd.prog 60 #[.pointer (some ⟨g, 0, none⟩), .int .i32 c] w (RPost B g m w (endF s)) := by
  have Q := Lib.hid (end_any B g m s w h hk)
  clear h
  go_enter Tryd.func60, Tryd.ntmps60
  go_wp2_with fail
  refine Q.out.mono ?_
  rintro e w1 h1
  obtain ⟨v, rfl⟩ := h1.form
  go_wp2_with fail
  go_ret
  exact h1
def stepF (s : RS) (d : Nat × Nat) : Option RS :=
  if s.place = 2 then plainF { s with place := 1 } d
  else if d.1 = 61 then equalsF s d else if d.1 = 44 then endF s else if d.1 = 92 then quoteF s else plainF s d
theorem find_other {g : Nat} {d : Nat × Nat} (hc : ¬ d.1 = 61 ∧ ¬ d.1 = 44 ∧ ¬ d.1 = 92) : Instr.findNow (.int .i32) (.int .i32 (d.1 : Int)) (doesO g).toList 0 = some none := by
  have e1 : ((d.1 : Int) == 61) = false := by rw [beq_eq_false_iff_ne]; omega
  have e2 : ((d.1 : Int) == 44) = false := by rw [beq_eq_false_iff_ne]; omega
  have e3 : ((d.1 : Int) == 92) = false := by rw [beq_eq_false_iff_ne]; omega
  simp only [doesO, Instr.findNow, Instr.sameNow, if_true, e1, e2, e3]
set_option maxRecDepth 100000 in
set_option maxHeartbeats 1000000 in
theorem step_1 (B g m : Nat) (s : RS) (d : Nat × Nat) (hd : d.1 ≤ 1114111) (w : World) (h : RdAt B g m s w) (hk : s.Ok) (hp : s.place = 2) :
    Calls Tryd.prog 44 #[.pointer (some ⟨g, 0, none⟩), .int .i32 d.1] w (RPost B g m w (plainF { s with place := 1 } d)) := by
  obtain ⟨nm, vl, place, runes, l⟩ := s
  obtain ⟨k1, k2, k3, k4, k5⟩ := hk
  simp only at k1 k2 k3 k4 k5 hp
  have hr := h
  obtain ⟨hB, hBm, hm, lv, hb, ho⟩ := h
  simp only at hb ho
  have c0 := hb.cell 0
  have c1 := hb.cell 1
  have c2 := hb.cell 2
  have c3 := hb.cell 3
  simp only [List.getElem?_toArray, List.getElem?_cons_zero, List.getElem?_cons_succ] at c0 c1 c2 c3
  have f0 := hb.frozen 0
  have f1 := hb.frozen 1
  have f2 := hb.frozen 2
  have f3 := hb.frozen 3
  have HR := Lib.hid hr
  have c5 : w.cell? ⟨g, 5, none⟩ = some (.map (some m)) := hb.cell 5
  have HM := Lib.hid hm
  clear hm ho hb hr
  subst hp
  have hr2 : RdAt B g m ⟨nm, vl, 1, runes, l⟩ (w.setCell ⟨g, 2, none⟩ (.int .i64 1)) := HR.out.set (i := 2) (u := .int .i64 1) rfl (fun lv => rfl)
  have hf := Lib.hid (HR.out.fr (Below.refl _ _) (Lib.OthersKept.refl _ _ _) 2 (.int .i64 1))
  have Q := Lib.hid (plain_any B g m ⟨nm, vl, 1, runes, l⟩ d hd _ hr2 ⟨k1, k2, k3, k4, k5⟩)
  clear hr2
  go_enter Tryd.func44, Tryd.ntmps44
  go_wp2_with fail
  refine Q.out.mono ?_
  rintro e w1 h1
  obtain ⟨v, rfl⟩ := h1.form
  go_wp2_with fail
  go_ret
  exact h1.chain hf.out.1 hf.out.2
set_option maxRecDepth 100000 in
set_option maxHeartbeats 1000000 in
theorem step_c61 (B g m : Nat) (s : RS) (d : Nat × Nat) (hd : d.1 ≤ 1114111) (w : World) (h : RdAt B g m s w) (hk : s.Ok) (hp : ¬ s.place = 2) (hc : d.1 = 61) :
    Calls Tryd.prog 44 #[.pointer (some ⟨g, 0, none⟩), .int .i32 d.1] w (RPost B g m w (equalsF s d)) := by
  obtain ⟨nm, vl, place, runes, l⟩ := s
  obtain ⟨k1, k2, k3, k4, k5⟩ := hk
  simp only at k1 k2 k3 k4 k5 hp
  have hr := h
  obtain ⟨hB, hBm, hm, lv, hb, ho⟩ := h
  simp only at hb ho
  have c0 := hb.cell 0
  have c1 := hb.cell 1
  have c2 := hb.cell 2
  have c3 := hb.cell 3
  simp only [List.getElem?_toArray, List.getElem?_cons_zero, List.getElem?_cons_succ] at c0 c1 c2 c3
  have f0 := hb.frozen 0
  have f1 := hb.frozen 1
  have f2 := hb.frozen 2
  have f3 := hb.frozen 3
  have HR := Lib.hid hr
  have c5 : w.cell? ⟨g, 5, none⟩ = some (.map (some m)) := hb.cell 5
  have HM := Lib.hid hm
  clear hm ho hb hr
  have hp1 : (place == 2) = false := by rw [beq_eq_false_iff_ne]; exact hp
  have hlk : (Instr.lookup 69 (.map (some m)) (.int .i32 (d.1 : Int)) true).run Tryd.prog w = .ok (.tuple #[.func (.func 59) #[.pointer (some ⟨g, 0, none⟩)] #[], .bool true]) w := run_look (es := doesO g) HM.out Tryd.underlying69 Tryd.underlying21 (i := 0) (by rw [hc]; rfl)
  have Q := Lib.hid (equals_any B g m ⟨nm, vl, place, runes, l⟩ d hd w HR.out ⟨k1, k2, k3, k4, k5⟩)
  clear hc
  go_enter Tryd.func44, Tryd.ntmps44
  go_wp2_with fail
  refine Q.out.mono ?_
  rintro e w1 h1
  obtain ⟨v, rfl⟩ := h1.form
  go_wp2_with fail
  go_ret
  exact h1
set_option maxRecDepth 100000 in
set_option maxHeartbeats 1000000 in
theorem step_c44 (B g m : Nat) (s : RS) (d : Nat × Nat) (hd : d.1 ≤ 1114111) (w : World) (h : RdAt B g m s w) (hk : s.Ok) (hp : ¬ s.place = 2) (hc : d.1 = 44) :
    Calls Tryd.prog 44 #[.pointer (some ⟨g, 0, none⟩), .int .i32 d.1] w (RPost B g m w (endF s)) := by
  obtain ⟨nm, vl, place, runes, l⟩ := s
  obtain ⟨k1, k2, k3, k4, k5⟩ := hk
  simp only at k1 k2 k3 k4 k5 hp
  have hr := h
  obtain ⟨hB, hBm, hm, lv, hb, ho⟩ := h
  simp only at hb ho
  have c0 := hb.cell 0
  have c1 := hb.cell 1
  have c2 := hb.cell 2
  have c3 := hb.cell 3
  simp only [List.getElem?_toArray, List.getElem?_cons_zero, List.getElem?_cons_succ] at c0 c1 c2 c3
  have f0 := hb.frozen 0
  have f1 := hb.frozen 1
  have f2 := hb.frozen 2
  have f3 := hb.frozen 3
  have HR := Lib.hid hr
  have c5 : w.cell? ⟨g, 5, none⟩ = some (.map (some m)) := hb.cell 5
  have HM := Lib.hid hm
  clear hm ho hb hr
  have hp1 : (place == 2) = false := by rw [beq_eq_false_iff_ne]; exact hp
  have hlk : (Instr.lookup 69 (.map (some m)) (.int .i32 (d.1 : Int)) true).run Tryd.prog w = .ok (.tuple #[.func (.func 60) #[.pointer (some ⟨g, 0, none⟩)] #[], .bool true]) w := run_look (es := doesO g) HM.out Tryd.underlying69 Tryd.underlying21 (i := 1) (by rw [hc]; rfl)
  have Q := Lib.hid (comma_any B g m ⟨nm, vl, place, runes, l⟩ (d.1 : Int) w HR.out ⟨k1, k2, k3, k4, k5⟩)
  clear hc
  go_enter Tryd.func44, Tryd.ntmps44
  go_wp2_with fail
  refine Q.out.mono ?_
  rintro e w1 h1
  obtain ⟨v, rfl⟩ := h1.form
  go_wp2_with fail
  go_ret
  exact h1
set_option maxRecDepth 100000 in
set_option maxHeartbeats 1000000 in
theorem step_c92 (B g m : Nat) (s : RS) (d : Nat × Nat) (hd : d.1 ≤ 1114111) (w : World) (h : RdAt B g m s w) (hk : s.Ok) (hp : ¬ s.place = 2) (hc : d.1 = 92) :
    Calls Tryd.prog 44 #[.pointer (some ⟨g, 0, none⟩), .int .i32 d.1] w (RPost B g m w (quoteF s)) := by
  obtain ⟨nm, vl, place, runes, l⟩ := s
  obtain ⟨k1, k2, k3, k4, k5⟩ := hk
  simp only at k1 k2 k3 k4 k5 hp
  have hr := h
  obtain ⟨hB, hBm, hm, lv, hb, ho⟩ := h
  simp only at hb ho
  have c0 := hb.cell 0
  have c1 := hb.cell 1
  have c2 := hb.cell 2
  have c3 := hb.cell 3
  simp only [List.getElem?_toArray, List.getElem?_cons_zero, List.getElem?_cons_succ] at c0 c1 c2 c3
  have f0 := hb.frozen 0
  have f1 := hb.frozen 1
  have f2 := hb.frozen 2
  have f3 := hb.frozen 3
  have HR := Lib.hid hr
  have c5 : w.cell? ⟨g, 5, none⟩ = some (.map (some m)) := hb.cell 5
  have HM := Lib.hid hm
  clear hm ho hb hr
  have hp1 : (place == 2) = false := by rw [beq_eq_false_iff_ne]; exact hp
  have hlk : (Instr.lookup 69 (.map (some m)) (.int .i32 (d.1 : Int)) true).run Tryd.prog w = .ok (.tuple #[.func (.func 61) #[.pointer (some ⟨g, 0, none⟩)] #[], .bool true]) w := run_look (es := doesO g) HM.out Tryd.underlying69 Tryd.underlying21 (i := 2) (by rw [hc]; rfl)
  have Q := Lib.hid (quote_any B g m ⟨nm, vl, place, runes, l⟩ (d.1 : Int) w HR.out ⟨k1, k2, k3, k4, k5⟩)
  clear hc
  go_enter Tryd.func44, Tryd.ntmps44
  go_wp2_with fail
  refine Q.out.mono ?_
  rintro e w1 h1
  obtain ⟨v, rfl⟩ := h1.form
  go_wp2_with fail
  go_ret
  exact h1
set_option maxRecDepth 100000 in
set_option maxHeartbeats 1000000 in
theorem step_o (B g m : Nat) (s : RS) (d : Nat × Nat) (hd : d.1 ≤ 1114111) (w : World) (h : RdAt B g m s w) (hk : s.Ok) (hp : ¬ s.place = 2) (hc : ¬ d.1 = 61 ∧ ¬ d.1 = 44 ∧ ¬ d.1 = 92) :
    Calls Tryd.prog 44 #[.pointer (some ⟨g, 0, none⟩), .int .i32 d.1] w (RPost B g m w (plainF s d)) := by
  obtain ⟨nm, vl, place, runes, l⟩ := s
  obtain ⟨k1, k2, k3, k4, k5⟩ := hk
  simp only at k1 k2 k3 k4 k5 hp
  have hr := h
  obtain ⟨hB, hBm, hm, lv, hb, ho⟩ := h
  simp only at hb ho
  have c0 := hb.cell 0
  have c1 := hb.cell 1
  have c2 := hb.cell 2
  have c3 := hb.cell 3
  simp only [List.getElem?_toArray, List.getElem?_cons_zero, List.getElem?_cons_succ] at c0 c1 c2 c3
  have f0 := hb.frozen 0
  have f1 := hb.frozen 1
  have f2 := hb.frozen 2
  have f3 := hb.frozen 3
  have HR := Lib.hid hr
  have c5 : w.cell? ⟨g, 5, none⟩ = some (.map (some m)) := hb.cell 5
  have HM := Lib.hid hm
  clear hm ho hb hr
  have hp1 : (place == 2) = false := by rw [beq_eq_false_iff_ne]; exact hp
  have hlk : (Instr.lookup 69 (.map (some m)) (.int .i32 (d.1 : Int)) true).run Tryd.prog w = .ok (.tuple #[.nilFunc, .bool false]) w := run_look_none (es := doesO g) HM.out Tryd.underlying69 Tryd.underlying21 (find_other hc) (by rfl)
  have Q := Lib.hid (plain_any B g m ⟨nm, vl, place, runes, l⟩ d hd w HR.out ⟨k1, k2, k3, k4, k5⟩)
  clear hc
  go_enter Tryd.func44, Tryd.ntmps44
  go_wp2_with fail
  refine Q.out.mono ?_
  rintro e w1 h1
  obtain ⟨v, rfl⟩ := h1.form
  go_wp2_with fail
  go_ret
  exact h1
theorem step_any (B g m : Nat) (s : RS) (d : Nat × Nat) (hd : d.1 ≤ 1114111) (w : World) (h : RdAt B g m s w) (hk : s.Ok) :
    Calls Tryd.prog 44 #[.pointer (some ⟨g, 0, none⟩), .int .i32 d.1] w (RPost B g m w (stepF s d)) := by
  unfold stepF
  by_cases hp : s.place = 2
  · rw [if_pos hp]; exact step_1 B g m s d hd w h hk hp
  · rw [if_neg hp]
    by_cases c1 : d.1 = 61
    · rw [if_pos c1]; exact step_c61 B g m s d hd w h hk hp c1
    · rw [if_neg c1]
      by_cases c2 : d.1 = 44
      · rw [if_pos c2]; exact step_c44 B g m s d hd w h hk hp c2
      · rw [if_neg c2]
        by_cases c3 : d.1 = 92
        · rw [if_pos c3]; exact step_c92 B g m s d hd w h hk hp c3
        · rw [if_neg c3]; exact step_o B g m s d hd w h hk hp ⟨c1, c2, c3⟩
end Go.Proofs.YtlcpigkgbihebaaDoor

/-
  Walks of the reference of chapter 6: Merge.
-/
import Derived.Test.YtdobgfadnenhaaaExactRef5
import Derived.Deep.RegionHeld3
namespace Go.Proofs.Ytdobgfadnenhaaa
open Go.RowKit
set_option linter.unusedVariables false
theorem step_append_rd {P : Program} {w : World} {ops : Array Oper} {o : Oper} {a : Act} {K : Act → World → Prop} {Q : Exit → Act → World → Prop} {E : Prop} (hgd : o.guard = none) (s x : Operand) (t : TypeId)
    (ho : o.op = .call { callee := .builtin .append, args := #[s, x], argTypes := #[t, t] })
    (base : Nat) (e : TypeId) (i : TypeInfo) (z : Value) (size bytes : Nat) (ht : P.underlying t = some (.slice e)) (hi : P.info? e = some i) (hz : i.zero = some z)
    (hsize : i.size = size) (hby : i.bytes = bytes) (hzs : z.cells.size = size) (hsz : 0 < size)
    (v : Value) (n : Nat) (xs : List Value) (hs : a.eval s = v) (hown : w.ownsRow base e size v n xs)
    (B : Nat) (A : Option Addr) (m c : Nat) (news : List Value) (hx : a.eval x = .slice A m c) (hm : news.length = m * size) (hr : Rd w B A news) (h1 : ∀ u ∈ news, u.oneCell' = true)
    (h63 : n + m ≤ maxLen) (hbytes : (n + m) * bytes ≤ 140737488355328) (hbase : base ≤ w.heap.size)
    (h : ∀ A' c' w', w'.ownsRow base e size (.slice A' (n + m) c') (n + m) (xs ++ news) → w.grownBy w' v.ownBlock → K (a.put o.dst (.slice A' (n + m) c')) w') :
    if Region.wanted o (yielded ops a.tmps) = true then Oper.wp P o a w K Q else E := by
  have hw : Region.wanted o (yielded ops a.tmps) = true := by simp [Region.wanted, hgd]
  rw [if_pos hw]
  obtain ⟨v', w', hrun, h2, h3, h4⟩ := run_append_rd (P := P) w base t o.type e i z size bytes ht hi hz hsize hby hzs hsz v n xs hown B A m c news hm hr h1 h63 hbytes hbase
  obtain ⟨A', c', rfl, _⟩ := owns_form h2
  unfold Oper.wp execOp
  simp only [ho, resolve, invoke, builtin, Sem.run_bind, Sem.run_pure, Result.andThen_ok, List.map_toArray, List.map_cons, List.map_nil, hs, hx, hrun]
  exact h A' c' w' h2 h3
set_option maxHeartbeats 1000000 in
theorem rmerge_bad1 (w : World) (c c2 : Nat) (A A2 : Option Addr) (l m : List Int) (hS : Sl w w.heap.size A l) (hS2 : Sl w w.heap.size A2 m) (hl : l.length ≤ 32768) (hm : m.length ≤ 32768) (hr : rightB l = false) :
    Calls Try.prog 15 #[.agg #[.slice A l.length c], .agg #[.slice A2 m.length c2]] w (RfRes w (mergeF l m)) := by
  obtain ⟨i0, hi0, hz0, hz1, hz2⟩ := info_parts Try.infoU64
  have B0 := Lib.hid (Boxed.new w 24 (.slice A l.length c))
  have B1 := Lib.hid (Boxed.new (w.alloc (.cells #[.slice A l.length c] 24)) 24 (.slice A2 m.length c2))
  have B2 := Lib.hid (Boxed.new ((w.alloc (.cells #[.slice A l.length c] 24)).alloc (.cells #[.slice A2 m.length c2] 24)) 24 (.slice none 0 0))
  replace B0 := Lib.hid (boxed_below B0.out (below_al (below_al (below_0 _) (.cells #[.slice A2 m.length c2] 24)) (.cells #[.slice none 0 0] 24)))
  replace B1 := Lib.hid (boxed_below B1.out (below_al (below_0 _) (.cells #[.slice none 0 0] 24)))
  have DA : Below w.heap.size w (((w.alloc (.cells #[.slice A l.length c] 24)).alloc (.cells #[.slice A2 m.length c2] 24)).alloc (.cells #[.slice none 0 0] 24)) := below_al (below_al (below_al (below_0 _) _) _) _
  have HS := Lib.hid (hS.later DA)
  have HS2 := Lib.hid (hS2.later DA)
  simp only [World.size_alloc] at B0 B1 B2
  clear hS hS2
  have HF : Hid (mergeF l m = ([], 60)) := by show mergeF l m = _; rw [mergeF, if_neg (by simp [hr])]
  have HR := Lib.hid hr
  clear hr
  go_enter Try.func15, Try.ntmps15
  go_wp2_with fail
  refine (rright_b _ c A l HS.out (by omega)).mono ?_
  rintro e W ⟨rfl, hb⟩
  rw [HR.out]
  replace HS := Lib.hid (HS.out.later hb)
  replace HS2 := Lib.hid (HS2.out.later hb)
  replace B0 := Lib.hid (boxed_below B0.out hb)
  replace B1 := Lib.hid (boxed_below B1.out hb)
  replace B2 := Lib.hid (boxed_below B2.out hb)
  replace DA := Below.two DA hb
  clear hb
  have k0 := B0.out.cell
  have k1 := B1.out.cell
  have k2 := B2.out.cell
  have f2 := B2.out.frozen
  have hcs := (B2.out.set (.slice none 0 0)).cell
  go_wp2_with fail
  refine bodyPost_ret (v := .tuple #[.agg #[.slice none 0 0], .int .i64 60]) (by simp [results, Try.results15, go_sem, hcs]) rfl ⟨DA.setCell (by simp; omega) _, none, 0, by rw [HF.out]; rfl, by rw [HF.out]; exact Sl.nil⟩
set_option maxHeartbeats 1000000 in
theorem rmerge_bad2 (w : World) (c c2 : Nat) (A A2 : Option Addr) (l m : List Int) (hS : Sl w w.heap.size A l) (hS2 : Sl w w.heap.size A2 m) (hl : l.length ≤ 32768) (hm : m.length ≤ 32768) (hr : rightB l = true) (hr2 : rightB m = false) :
    Calls Try.prog 15 #[.agg #[.slice A l.length c], .agg #[.slice A2 m.length c2]] w (RfRes w (mergeF l m)) := by
  obtain ⟨i0, hi0, hz0, hz1, hz2⟩ := info_parts Try.infoU64
  have B0 := Lib.hid (Boxed.new w 24 (.slice A l.length c))
  have B1 := Lib.hid (Boxed.new (w.alloc (.cells #[.slice A l.length c] 24)) 24 (.slice A2 m.length c2))
  have B2 := Lib.hid (Boxed.new ((w.alloc (.cells #[.slice A l.length c] 24)).alloc (.cells #[.slice A2 m.length c2] 24)) 24 (.slice none 0 0))
  replace B0 := Lib.hid (boxed_below B0.out (below_al (below_al (below_0 _) (.cells #[.slice A2 m.length c2] 24)) (.cells #[.slice none 0 0] 24)))
  replace B1 := Lib.hid (boxed_below B1.out (below_al (below_0 _) (.cells #[.slice none 0 0] 24)))
  have DA : Below w.heap.size w (((w.alloc (.cells #[.slice A l.length c] 24)).alloc (.cells #[.slice A2 m.length c2] 24)).alloc (.cells #[.slice none 0 0] 24)) := below_al (below_al (below_al (below_0 _) _) _) _
  have HS := Lib.hid (hS.later DA)
  have HS2 := Lib.hid (hS2.later DA)
  simp only [World.size_alloc] at B0 B1 B2
  clear hS hS2
  have HF : Hid (mergeF l m = ([], 60)) := by show mergeF l m = _; rw [mergeF, if_neg (by simp [hr2])]
  have HR := Lib.hid hr
  have HR2 := Lib.hid hr2
  clear hr hr2
  go_enter Try.func15, Try.ntmps15
  go_wp2_with fail
  refine (rright_b _ c A l HS.out (by omega)).mono ?_
  rintro e W0 ⟨rfl, hb⟩
  rw [HR.out]
  replace HS := Lib.hid (HS.out.later hb)
  replace HS2 := Lib.hid (HS2.out.later hb)
  replace B0 := Lib.hid (boxed_below B0.out hb)
  replace B1 := Lib.hid (boxed_below B1.out hb)
  replace B2 := Lib.hid (boxed_below B2.out hb)
  replace DA := Below.two DA hb
  clear hb
  have k0 := B0.out.cell
  have k1 := B1.out.cell
  have k2 := B2.out.cell
  go_wp2_with fail
  clear k0 k1 k2
  refine (rright_b _ c2 A2 m HS2.out (by omega)).mono ?_
  rintro e W ⟨rfl, hb⟩
  rw [HR2.out]
  replace HS := Lib.hid (HS.out.later hb)
  replace HS2 := Lib.hid (HS2.out.later hb)
  replace B0 := Lib.hid (boxed_below B0.out hb)
  replace B1 := Lib.hid (boxed_below B1.out hb)
  replace B2 := Lib.hid (boxed_below B2.out hb)
  replace DA := Below.two DA hb
  clear hb
  have k0 := B0.out.cell
  have k1 := B1.out.cell
  have k2 := B2.out.cell
  have f2 := B2.out.frozen
  have hcs := (B2.out.set (.slice none 0 0)).cell
  go_wp2_with fail
  refine bodyPost_ret (v := .tuple #[.agg #[.slice none 0 0], .int .i64 60]) (by simp [results, Try.results15, go_sem, hcs]) rfl ⟨DA.setCell (by simp; omega) _, none, 0, by rw [HF.out]; rfl, by rw [HF.out]; exact Sl.nil⟩
theorem rof_sum (w : World) (c base : Nat) (A : Option Addr) (l m : List Int) (hl : l.length ≤ 32768) (hm : m.length ≤ 32768) (ho : w.ownsRow base 25 1 (.slice A (l.length + m.length) c) (l.length + m.length) (l.map (Value.int .u64) ++ m.map (Value.int .u64))) :
    Calls Try.prog 21 #[.slice A (l.length + m.length) c] w (RfRes w (ofF (l ++ m))) := by
  have h := rof_any w c A (l ++ m) (by have := Rd.own ho; unfold Sl; rw [List.map_append]; exact this) (by simp; omega)
  rw [List.length_append] at h
  exact h
set_option maxHeartbeats 1000000 in
theorem rmerge_good (w : World) (c c2 : Nat) (A A2 : Option Addr) (l m : List Int) (hS : Sl w w.heap.size A l) (hS2 : Sl w w.heap.size A2 m) (hl : l.length ≤ 32768) (hm : m.length ≤ 32768) (hr : rightB l = true) (hr2 : rightB m = true) :
    Calls Try.prog 15 #[.agg #[.slice A l.length c], .agg #[.slice A2 m.length c2]] w (RfRes w (mergeF l m)) := by
  obtain ⟨i0, hi0, hz0, hz1, hz2⟩ := info_parts Try.infoU64
  have B0 := Lib.hid (Boxed.new w 24 (.slice A l.length c))
  have B1 := Lib.hid (Boxed.new (w.alloc (.cells #[.slice A l.length c] 24)) 24 (.slice A2 m.length c2))
  have B2 := Lib.hid (Boxed.new ((w.alloc (.cells #[.slice A l.length c] 24)).alloc (.cells #[.slice A2 m.length c2] 24)) 24 (.slice none 0 0))
  replace B0 := Lib.hid (boxed_below B0.out (below_al (below_al (below_0 _) (.cells #[.slice A2 m.length c2] 24)) (.cells #[.slice none 0 0] 24)))
  replace B1 := Lib.hid (boxed_below B1.out (below_al (below_0 _) (.cells #[.slice none 0 0] 24)))
  have DA : Below w.heap.size w (((w.alloc (.cells #[.slice A l.length c] 24)).alloc (.cells #[.slice A2 m.length c2] 24)).alloc (.cells #[.slice none 0 0] 24)) := below_al (below_al (below_al (below_0 _) _) _) _
  have HS := Lib.hid (hS.later DA)
  have HS2 := Lib.hid (hS2.later DA)
  simp only [World.size_alloc] at B0 B1 B2
  clear hS hS2
  have HF : Hid (mergeF l m = ofF (l ++ m)) := by show mergeF l m = _; rw [mergeF, if_pos ⟨hr, hr2⟩, ofF_app hr]
  have HR := Lib.hid hr
  have HR2 := Lib.hid hr2
  clear hr hr2
  go_enter Try.func15, Try.ntmps15
  go_wp2_with fail
  refine (rright_b _ c A l HS.out (by omega)).mono ?_
  rintro e W0 ⟨rfl, hb⟩
  rw [HR.out]
  replace HS := Lib.hid (HS.out.later hb)
  replace HS2 := Lib.hid (HS2.out.later hb)
  replace B0 := Lib.hid (boxed_below B0.out hb)
  replace B1 := Lib.hid (boxed_below B1.out hb)
  replace B2 := Lib.hid (boxed_below B2.out hb)
  replace DA := Below.two DA hb
  clear hb
  have k0 := B0.out.cell
  have k1 := B1.out.cell
  have k2 := B2.out.cell
  go_wp2_with fail
  clear k0 k1 k2
  refine (rright_b _ c2 A2 m HS2.out (by omega)).mono ?_
  rintro e W ⟨rfl, hb⟩
  rw [HR2.out]
  replace HS := Lib.hid (HS.out.later hb)
  replace HS2 := Lib.hid (HS2.out.later hb)
  replace B0 := Lib.hid (boxed_below B0.out hb)
  replace B1 := Lib.hid (boxed_below B1.out hb)
  replace B2 := Lib.hid (boxed_below B2.out hb)
  replace DA := Below.two DA hb
  clear hb
  have k0 := B0.out.cell
  have k1 := B1.out.cell
  have k2 := B2.out.cell
  go_wp2_with fail
  have tok0 : True := trivial
  go_region_held3 (fun w' => w'.cell? ⟨w.heap.size, 0, none⟩ = some (.slice A l.length c) ∧ w'.cell? ⟨w.heap.size + 1, 0, none⟩ = some (.slice A2 m.length c2))
    (first | exact ⟨k0, k1⟩ | exact ⟨j0, j1⟩ | exact ⟨i0', i1'⟩ | exact ⟨o0, o1⟩ | exact ⟨(boxed_far (boxed_below (boxed_below B0.out hb2) hb3) (by omega) _).cell, (boxed_far (boxed_below (boxed_below B1.out hb2) hb3) (by omega) _).cell⟩ | go_keep)
    (first
      | (go_at_call 21; have _t2 := tok2; refine (rof_sum _ c3 _ A3 l m (by omega) (by omega) hown2).mono ?_; rintro e w3 ⟨hb3, A4, c4, rfl, hS4⟩; clear tok2; have tok3 : True := trivial; have o0 := (boxed_below (boxed_below B0.out hb2) hb3).cell; have o1 := (boxed_below (boxed_below B1.out hb2) hb3).cell; have o2 := (boxed_below (boxed_below B2.out hb2) hb3).cell; have q2 := (boxed_below (boxed_below B2.out hb2) hb3).frozen)
      | (have _t1 := tok1; refine step_append_rd rfl (.tmp 19) (.tmp 21) 22 rfl W.heap.size 25 i0 (.int .u64 0) 1 8 Try.underlying22 hi0 hz0 hz1 hz2 rfl (by decide) (.slice A1 l.length c1) l.length _ rfl hown1 w1.heap.size A2 m.length c2 (m.map (Value.int .u64)) rfl (by simp) HM.out one_u64 (by unfold maxLen; omega) (by omega) hb1.size ?_; intro A3 c3 w2 hown2 hg2; have hb2 : Below W.heap.size W w2 := hb1.grown hg2 hb1.size (fun j e => own_base' hown1 j e); have i0' := (boxed_below B0.out hb2).cell; have i1' := (boxed_below B1.out hb2).cell; clear tok1; have tok2 : True := trivial)
      | (have _t0 := tok0; refine step_append_rd rfl (.tmp 16) (.tmp 18) 22 rfl W.heap.size 25 i0 (.int .u64 0) 1 8 Try.underlying22 hi0 hz0 hz1 hz2 rfl (by decide) (.slice none 0 0) 0 [] rfl (World.ownsRow_nil _ _ _ _) W.heap.size A l.length c (l.map (Value.int .u64)) rfl (by simp) HS.out one_u64 (by unfold maxLen; omega) (by omega) (Nat.le_refl _) ?_; intro A1 c1 w1 hown1 hg1; simp only [Nat.zero_add, List.nil_append] at hown1 ⊢; have hb1 : Below W.heap.size W w1 := (below_drewN (below_0 W) 1).grown hg1 (Nat.le_refl _) (fun k e => by cases e); have HM := Lib.hid (HS2.out.later hb1); have j0 := (boxed_below B0.out hb1).cell; have j1 := (boxed_below B1.out hb1).cell; clear tok0; have tok1 : True := trivial))
  have B2' : Boxed w3 (w.heap.size + 1 + 1) 24 (.slice none 0 0) := boxed_below (boxed_below B2.out hb2) hb3
  have hcs := (B2'.set (.slice A4 (ofF (l ++ m)).1.length c4)).cell
  have T3 : Below w.heap.size w w3 := Below.two (Below.two DA hb2) hb3
  have HS4 := Lib.hid hS4
  clear hS4 k0 k1 k2 j0 j1 i0' i1' o0 o1 o2 q2 hown1 hown2 hg1 hg2 HM HS HS2
  go_wp2_with fail
  refine bodyPost_ret (v := .tuple #[.agg #[.slice A4 (ofF (l ++ m)).1.length c4], .int .i64 (ofF (l ++ m)).2]) (by simp [results, Try.results15, go_sem, hcs]) rfl ⟨T3.setCell (by simp; omega) _, A4, c4, by rw [HF.out], ?_⟩
  rw [HF.out]
  exact sl_set HS4.out B2' (fun n e => by cases e) _
theorem rmerge_any (w : World) (c c2 : Nat) (A A2 : Option Addr) (l m : List Int) (hS : Sl w w.heap.size A l) (hS2 : Sl w w.heap.size A2 m) (hl : l.length ≤ 32768) (hm : m.length ≤ 32768) :
    Calls Try.prog 15 #[.agg #[.slice A l.length c], .agg #[.slice A2 m.length c2]] w (RfRes w (mergeF l m)) := by
  cases hr : rightB l with
  | false => exact rmerge_bad1 w c c2 A A2 l m hS hS2 hl hm hr
  | true =>
    cases hr2 : rightB m with
    | false => exact rmerge_bad2 w c c2 A A2 l m hS hS2 hl hm hr hr2
    | true => exact rmerge_good w c c2 A A2 l m hS hS2 hl hm hr hr2
end Go.Proofs.Ytdobgfadnenhaaa

/-
  The walk of the reference's Merge.
-/
import Derived.Test.YthjdonhabenmcaaCmsRAdd
import Derived.Test.YthjdonhabenmcaaCmsMerge
import Derived.Test.YthjdonhabenmcaaStep
namespace Go.Proofs.Ythjdonhabenmcaa
open Go.RowKit
set_option linter.unusedVariables false
/-- Both together, the first k. -/
def zipS (x y : List Int) (k : Nat) : List Int := (List.range k).map fun i => sat (nth x i) (nth y i)
theorem zipS_succ (x y : List Int) (k : Nat) : zipS x y (k + 1) = zipS x y k ++ [sat (nth x k) (nth y k)] := by simp [zipS, List.range_succ]
theorem length_zipS (x y : List Int) (k : Nat) : (zipS x y k).length = k := by simp [zipS]
theorem zipS_all (x y : List Int) : zipS x y x.length = chgAll (fun p o => sat o (nth y p)) x (List.range x.length) :=
  list_ext (by rw [length_zipS, length_chgAll]) (fun i hi => by
    rw [length_zipS] at hi
    rw [nth_chgAll _ _ _ _ (fun p hp => List.mem_range.1 hp) List.nodup_range, if_pos (List.mem_range.2 hi)]
    simp [nth, zipS, hi])
theorem rmerge_bad1 (r c ry cy : Int) (A B : Option Addr) (l m : List Int) (cap capy : Nat) (w : World) (hr : rightC r c l.length = false) :
    Calls Try.prog 28 #[.agg #[.int .i64 r, .int .i64 c, .slice A l.length cap], .agg #[.int .i64 ry, .int .i64 cy, .slice B m.length capy]] w (CRes w (mergeC ⟨r, c, l⟩ ⟨ry, cy, m⟩)) := by
  have HR : Hid (mergeC ⟨r, c, l⟩ ⟨ry, cy, m⟩ = (Cm.none, 80)) := by show mergeC _ _ = _; rw [mergeC, if_neg (by simp [hr])]
  have H := Lib.hid hr
  clear hr
  go_enter Try.func28, Try.ntmps28
  go_wp2_with fail
  refine (rright_any r c A l.length cap _).mono ?_
  rintro e w' ⟨rfl, rfl⟩
  rw [H.out]
  go_wp2_with fail
  refine bodyPost_ret (v := .tuple #[.agg #[.int .i64 0, .int .i64 0, .slice none 0 0], .int .i64 80]) (by simp [results, Try.results28, go_sem]) rfl
    ⟨below_al (below_al (below_al (below_al (below_0 _) _) _) _) _, .slice none 0 0, by rw [HR.out]; rfl, ?_⟩
  rw [HR.out]
  exact held_nil _ _
theorem rmerge_bad2 (r c ry cy : Int) (A B : Option Addr) (l m : List Int) (cap capy : Nat) (w : World) (hr : rightC r c l.length = true) (hb : ¬ (rightC ry cy m.length = true ∧ ry = r ∧ cy = c)) :
    Calls Try.prog 28 #[.agg #[.int .i64 r, .int .i64 c, .slice A l.length cap], .agg #[.int .i64 ry, .int .i64 cy, .slice B m.length capy]] w (CRes w (mergeC ⟨r, c, l⟩ ⟨ry, cy, m⟩)) := by
  have HR : Hid (mergeC ⟨r, c, l⟩ ⟨ry, cy, m⟩ = (Cm.none, 80)) := by show mergeC _ _ = _; rw [mergeC, if_neg (fun h => hb h.2)]
  have H := Lib.hid hr
  clear hr
  cases hy : rightC ry cy m.length with
  | false =>
    have HY := Lib.hid hy
    clear hy hb
    go_enter Try.func28, Try.ntmps28
    go_wp2_with fail
    refine (rright_any r c A l.length cap _).mono ?_
    rintro e w' ⟨rfl, rfl⟩
    rw [H.out]
    go_wp2_with fail
    refine (rright_any ry cy B m.length capy _).mono ?_
    rintro e w' ⟨rfl, rfl⟩
    rw [HY.out]
    go_wp2_with fail
    refine bodyPost_ret (v := .tuple #[.agg #[.int .i64 0, .int .i64 0, .slice none 0 0], .int .i64 80]) (by simp [results, Try.results28, go_sem]) rfl
      ⟨below_al (below_al (below_al (below_al (below_al (below_0 _) _) _) _) _) _, .slice none 0 0, by rw [HR.out]; rfl, ?_⟩
    rw [HR.out]
    exact held_nil _ _
  | true =>
    have HY := Lib.hid hy
    by_cases e1 : r = ry
    · have e2 : ¬ c = cy := fun e2 => hb ⟨hy, e1.symm, e2.symm⟩
      clear hy hb
      subst e1
      go_enter Try.func28, Try.ntmps28
      go_wp2_with fail
      refine (rright_any _ c A l.length cap _).mono ?_
      rintro e w' ⟨rfl, rfl⟩
      rw [H.out]
      go_wp2_with fail
      refine (rright_any _ cy B m.length capy _).mono ?_
      rintro e w' ⟨rfl, rfl⟩
      rw [HY.out]
      go_wp2_with fail
      refine bodyPost_ret (v := .tuple #[.agg #[.int .i64 0, .int .i64 0, .slice none 0 0], .int .i64 80]) (by simp [results, Try.results28, go_sem]) rfl
        ⟨below_al (below_al (below_al (below_al (below_al (below_0 _) _) _) _) _) _, .slice none 0 0, by rw [HR.out]; rfl, ?_⟩
      rw [HR.out]
      exact held_nil _ _
    · clear hy hb
      go_enter Try.func28, Try.ntmps28
      go_wp2_with fail
      refine (rright_any r c A l.length cap _).mono ?_
      rintro e w' ⟨rfl, rfl⟩
      rw [H.out]
      go_wp2_with fail
      refine (rright_any ry cy B m.length capy _).mono ?_
      rintro e w' ⟨rfl, rfl⟩
      rw [HY.out]
      go_wp2_with fail
      refine bodyPost_ret (v := .tuple #[.agg #[.int .i64 0, .int .i64 0, .slice none 0 0], .int .i64 80]) (by simp [results, Try.results28, go_sem]) rfl
        ⟨below_al (below_al (below_al (below_al (below_al (below_0 _) _) _) _) _) _, .slice none 0 0, by rw [HR.out]; rfl, ?_⟩
      rw [HR.out]
      exact held_nil _ _
set_option maxHeartbeats 2000000 in
theorem rmerge_good (r c : Int) (A B : Option Addr) (l m : List Int) (cap capy : Nat) (w : World) (hS : Sl w w.heap.size A l) (hSB : Sl w w.heap.size B m) (hU : Us l) (hUm : Us m) (hr : rightC r c l.length = true) (hy : rightC r c m.length = true) :
    Calls Try.prog 28 #[.agg #[.int .i64 r, .int .i64 c, .slice A l.length cap], .agg #[.int .i64 r, .int .i64 c, .slice B m.length capy]] w (CRes w (mergeC ⟨r, c, l⟩ ⟨r, c, m⟩)) := by
  have HR : Hid (mergeC ⟨r, c, l⟩ ⟨r, c, m⟩ = (⟨r, c, zipS l m l.length⟩, 0)) := by show mergeC _ _ = _; rw [mergeC, if_pos ⟨hr, hy, rfl, rfl⟩, zipS_all]
  have hlm : m.length = l.length := by have h1 := (right_of hr).2; have h2 := (right_of hy).2; omega
  obtain ⟨R', C', e1, e2, q1, q2, q3⟩ := shape_nat (right_of hr).1
  have hl : l.length = R' * C' := by have h1 := (right_of hr).2; rw [e1, e2, ← Int.natCast_mul] at h1; omega
  have hlb : l.length ≤ 128 := by rw [hl]; exact shape_mul q2 q3
  have hl0 : 0 < l.length := by rw [hl]; exact Nat.mul_pos (by omega) (by omega)
  have H := Lib.hid hr
  have HY := Lib.hid hy
  have DA : Below w.heap.size w ((mergeW r c r c A B l m cap capy w).alloc (.cells #[.int .i64 r, .int .i64 c, .slice A l.length cap] 24)) := below_al (mergeW_below r c r c A B l m cap capy w) _
  replace DA := below_al DA (.cells #[.int .i64 r, .int .i64 c, .slice B m.length capy] 24)
  have X := Lib.hid (((mergeW_x r c r c A B l m cap capy w).alloc (.cells #[.int .i64 r, .int .i64 c, .slice A l.length cap] 24)).alloc (.cells #[.int .i64 r, .int .i64 c, .slice B m.length capy] 24))
  have Y := Lib.hid (((mergeW_y r c r c A B l m cap capy w).alloc (.cells #[.int .i64 r, .int .i64 c, .slice A l.length cap] 24)).alloc (.cells #[.int .i64 r, .int .i64 c, .slice B m.length capy] 24))
  have Z := Lib.hid (((mergeW_r r c r c A B l m cap capy w).alloc (.cells #[.int .i64 r, .int .i64 c, .slice A l.length cap] 24)).alloc (.cells #[.int .i64 r, .int .i64 c, .slice B m.length capy] 24))
  obtain ⟨bx, ox, rfl, hbx, hcx⟩ := hS.at_ hl0
  obtain ⟨by_, oy, rfl, hby, hcy⟩ := hSB.at_ (by omega)
  have HCX := Lib.hid hcx
  have HCY := Lib.hid hcy
  have HLM := Lib.hid hlm
  obtain ⟨i0, hi0, hz0, hz1, hz2⟩ := info_parts Try.infoU64
  clear hr hy e1 e2 hl hlm hcx hcy hS hSB q1 q2 q3
  go_enter Try.func28, Try.ntmps28
  go_wp2_with fail
  refine (rright_any r c _ l.length cap _).mono ?_
  rintro e w' ⟨rfl, rfl⟩
  rw [H.out]
  go_wp2_with fail
  refine (rright_any r c _ m.length capy _).mono ?_
  rintro e w' ⟨rfl, rfl⟩
  rw [HY.out]
  go_wp2_with fail
  generalize ((mergeW r c r c (some ⟨bx, ox, none⟩) (some ⟨by_, oy, none⟩) l m cap capy w).alloc (.cells #[.int .i64 r, .int .i64 c, .slice (some ⟨bx, ox, none⟩) l.length cap] 24)).alloc (.cells #[.int .i64 r, .int .i64 c, .slice (some ⟨by_, oy, none⟩) m.length capy] 24) = V at *
  go_loopw [6, 7] (fun v i wr => ∃ k : Nat, k ≤ l.length ∧ i = .int .i64 k ∧ wr.ownsRow V.heap.size 25 1 v k ((zipS l m k).map (Value.int .u64)) ∧ Below V.heap.size V wr) (fun _ i _ => l.length - (intOf i).toNat)
  case atStart => exact ⟨0, Nat.zero_le _, rfl, World.ownsRow_nil _ _ _ _, below_0 _⟩
  case round =>
    obtain ⟨k, hk, rfl, hown, hb⟩ := hrel
    have HX := Lib.hid (X.out.later hb)
    have HYY := Lib.hid (Y.out.later hb)
    have HZ := Lib.hid (Z.out.later hb)
    have DB := Below.two DA hb
    have x2 := HX.out.c2
    have zx := HX.out.lt
    by_cases hlt : k < l.length
    · obtain ⟨Av, cv, rfl, _, _, _⟩ := owns_form hown
      have CX0 := Lib.hid (HCX.out k hlt)
      have CY0 := Lib.hid (HCY.out k (by rw [HLM.out]; exact hlt))
      have cx := (DB.cell (p := ⟨bx, ox + k, none⟩) hbx).trans (HCX.out k hlt)
      have cy := (DB.cell (p := ⟨by_, oy + k, none⟩) hby).trans (HCY.out k (by rw [HLM.out]; exact hlt))
      have u1 := nth_U hU k
      have u2 := nth_U hUm k
      have HZS := Lib.hid (zipS_succ l m k)
      generalize nth l k = a at *
      generalize nth m k = b at *
      have y2 := HYY.out.c2
      have zy := HYY.out.lt
      have zbx : bx < wr.heap.size := by have := DB.size; omega
      have zby : by_ < wr.heap.size := by have := DB.size; omega
      have i1 : (0 : Int) ≤ (k : Int) := by omega
      have i2 : (k : Int) < (l.length : Int) := by omega
      have i3 : k < m.length := by rw [HLM.out]; exact hlt
      have i4 : (k : Int) < (m.length : Int) := by omega
      have HO := Lib.hid hown
      have vz := hb.size
      clear hown
      go_wp2_with fail
      go_region_held3 (fun w' => w'.cell? ⟨w.heap.size, 2, none⟩ = some (.slice (some ⟨bx, ox, none⟩) l.length cap) ∧ w'.cell? ⟨w.heap.size + 1, 2, none⟩ = some (.slice (some ⟨by_, oy, none⟩) m.length capy) ∧ w'.cell? ⟨bx, ox + k, none⟩ = some (.int .u64 a) ∧ w'.cell? ⟨by_, oy + k, none⟩ = some (.int .u64 b)) (first | go_keep | exact ⟨j1, j2, j3, j4⟩)
        (first
          | (go_at_call 25; refine (plus_any a b u1 u2 _).mono ?_; rintro e w' ⟨rfl, rfl⟩)
          | (refine step_append_rd rfl (.tmp 38) (.tmp 50) 22 rfl V.heap.size 25 i0 (.int .u64 0) 1 8 Try.underlying22 hi0 hz0 hz1 hz2 rfl (by decide) (.slice Av k cv) k _ rfl (HO.out.alloc (.cells #[.int .u64 (sat a b)] 25)).drew (wr.heap.size + 1) (some ⟨wr.heap.size, 0, none⟩) 1 1 [.int .u64 (sat a b)] rfl (by simp) (fun _ => ⟨wr.heap.size, 0, rfl, by omega, fun i u hu => by rw [Nat.zero_add]; exact ((Blk.new wr 25 #[.int .u64 (sat a b)]).drew.cell i).trans (by simpa using hu)⟩) (by intro u hu; simp at hu; subst hu; rfl) (by unfold maxLen; omega) (by omega) (by simp; omega) ?_; intro A2 c2 w2 hown2 hg2; have hb2 : Below V.heap.size V w2 := (below_al hb (.cells #[.int .u64 (sat a b)] 25)).drew.grown hg2 (by simp; omega) (fun q e => own_base2 HO.out q e); have DC := Below.two DA hb2; have j1 := (X.out.later hb2).c2; have j2 := (Y.out.later hb2).c2; have j3 := (DC.cell (p := ⟨bx, ox + k, none⟩) hbx).trans CX0.out; have j4 := (DC.cell (p := ⟨by_, oy + k, none⟩) hby).trans CY0.out))
      have HN : Hid (w2.ownsRow V.heap.size 25 1 (.slice A2 (k + 1) c2) (k + 1) ((zipS l m (k + 1)).map (Value.int .u64))) := by
        show World.ownsRow _ _ _ _ _ _ _
        rw [HZS.out, List.map_append]
        exact hown2
      clear hown2 hg2 cx cy x2 y2 j1 j2 j3 j4
      go_wp2_with fail
      go_roundw
      case rel => exact ⟨k + 1, by omega, by go_num, HN.out, hb2⟩
      case measure => simp [intOf]; omega
    · obtain rfl : k = l.length := by omega
      obtain ⟨Av, cv, rfl, _, _, _⟩ := owns_form hown
      have x0 := HX.out.c0
      have x1 := HX.out.c1
      have f0 := HZ.out.frozen 0
      have f1 := HZ.out.frozen 1
      have f2 := HZ.out.frozen 2
      have u0 := HZ.out.c0
      have u1 := HZ.out.c1
      have u2 := HZ.out.c2
      have HH : Hid (Held wr w.heap.size (.slice Av l.length cv) (zipS l m l.length)) := held_owned hown (length_zipS _ _ _) DA.size
      clear hown
      go_wp2_with fail
      have K := HZ.out.set3 (x := .int .i64 r) (y := .int .i64 c) (z := .slice Av l.length cv)
      have k0 := K.c0
      have k1 := K.c1
      have k2 := K.c2
      refine bodyPost_ret (v := .tuple #[.agg #[.int .i64 r, .int .i64 c, .slice Av l.length cv], .int .i64 0]) (by simp [results, Try.results28, go_sem, k0, k1, k2]) rfl
        ⟨below_set3 DB (by omega) _ _ _, .slice Av l.length cv, by rw [HR.out], ?_⟩
      rw [HR.out]
      exact res_stored HZ.out HH.out
theorem rmerge_any (r c ry cy : Int) (A B : Option Addr) (l m : List Int) (cap capy : Nat) (w : World) (hS : Sl w w.heap.size A l) (hSB : Sl w w.heap.size B m) (hU : Us l) (hUm : Us m) :
    Calls Try.prog 28 #[.agg #[.int .i64 r, .int .i64 c, .slice A l.length cap], .agg #[.int .i64 ry, .int .i64 cy, .slice B m.length capy]] w (CRes w (mergeC ⟨r, c, l⟩ ⟨ry, cy, m⟩)) := by
  cases hr : rightC r c l.length with
  | false => exact rmerge_bad1 r c ry cy A B l m cap capy w hr
  | true =>
    by_cases hb : rightC ry cy m.length = true ∧ ry = r ∧ cy = c
    · obtain ⟨hy, rfl, rfl⟩ := hb
      exact rmerge_good _ _ A B l m cap capy w hS hSB hU hUm hr hy
    · exact rmerge_bad2 r c ry cy A B l m cap capy w hr hb
end Go.Proofs.Ythjdonhabenmcaa

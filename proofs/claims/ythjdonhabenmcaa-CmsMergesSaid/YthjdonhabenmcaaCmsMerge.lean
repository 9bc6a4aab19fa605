/-
  The walk of cms.Merge.
-/
import Derived.Test.YthjdonhabenmcaaCmsChange
import Derived.Test.YthjdonhabenmcaaCmsFuncs
namespace Go.Proofs.Ythjdonhabenmcaa
open Go.RowKit
set_option linter.unusedVariables false
theorem sl_but {X W : World} {n₀ g : Nat} {A : Option Addr} {m : List Int} (h : Sl X X.heap.size A m) (hk : KeepBut X.heap.size g X W) (hne : ∀ ad, A = some ad → ad.block ≠ g) : Sl W W.heap.size A m := fun hl => by
  obtain ⟨b, off, e, hb, hc⟩ := h hl
  exact ⟨b, off, e, Nat.lt_of_lt_of_le hb hk.1, fun j u hj => (World.cell?_of_block (hk.2 b hb (hne _ e))).trans (hc j u hj)⟩
theorem change_all_merge (X : World) (g Bw by_ cap capy : Nat) (r c ry cy : Int) (l m : List Int) (A : Option Addr) (hl : l.length ≤ 65536) (hm : m.length = l.length) (hU : Us l) (hUm : Us m) (G : Blk X g 25 (l.map (Value.int .u64)).toArray)
    (hBw : Blk X Bw 48 #[.int .i64 r, .int .i64 c, .slice (some ⟨g, 0, none⟩) l.length cap]) (hby : Blk X by_ 24 #[.int .i64 ry, .int .i64 cy, .slice A m.length capy]) (hS : Sl X X.heap.size A m) (hne : ∀ ad, A = some ad → ad.block ≠ g) (n1 : Bw ≠ g) (n3 : by_ ≠ g) :
    Calls Try.prog 34 #[.agg #[.int .i64 r, .int .i64 c, .slice (some ⟨g, 0, none⟩) l.length cap], .func (.func 46) #[] #[.pointer (some ⟨Bw, 0, none⟩)], .func (.func 42) #[] #[.pointer (some ⟨by_, 0, none⟩)]] X fun e w' => (∃ v, e = .returned v) ∧
      Blk w' g 25 ((chgAll (fun p o => sat o (nth m p)) l (List.range l.length)).map (Value.int .u64)).toArray ∧ X.grownBy w' (some g) := by
  obtain ⟨zs, hzs⟩ := exists_at (N := l.length) (List.range l.length) (fun p hp => List.mem_range.1 hp)
  have := change_any X l.length g cap l.length r c l rfl hU hl G zs 46 #[.pointer (some ⟨Bw, 0, none⟩)] (enters_of Try.func46 (by kernel_rfl) rfl)
    (all_stops 5 (by omega) Bw X.heap.size g l.length cap r c (some ⟨g, 0, none⟩) zs hzs hl hBw.lt n1 X hBw)
    42 #[.pointer (some ⟨by_, 0, none⟩)] (enters_of Try.func42 (by kernel_rfl) rfl) (fun p o => sat o (nth m p)) (fun p o ho => sat_U ho.1 (nth_U hUm p).1)
    (fun x o W ho hk => merge1_any x.1 o ho by_ ry cy A m capy hUm (by rw [hm]; exact x.2) (by omega) W (hby.but hk hby.lt n3) (sl_but (n₀ := 0) hS hk hne))
  rw [hzs] at this
  exact callsIn_wide.1 this
def mergeC (x y : Cm) : Cm × Int := if rightC x.r x.c x.l.length = true ∧ rightC y.r y.c y.l.length = true ∧ y.r = x.r ∧ y.c = x.c then (⟨x.r, x.c, chgAll (fun p o => sat o (nth y.l p)) x.l (List.range x.l.length)⟩, 0) else (Cm.none, 80)
section
variable (r c ry cy : Int) (A B : Option Addr) (l m : List Int) (cap capy : Nat) (hU : Us l) (hUm : Us m) (w : World)
/-- The world when begin is called. -/
abbrev mergeW : World := ((w.alloc (.cells #[.int .i64 r, .int .i64 c, .slice A l.length cap] 24)).alloc (.cells #[.int .i64 ry, .int .i64 cy, .slice B m.length capy] 24)).alloc (.cells #[.int .i64 0, .int .i64 0, .slice none 0 0] 24)
theorem mergeW_below : Below w.heap.size w (mergeW r c ry cy A B l m cap capy w) := below_al (below_al (below_al (below_0 _) _) _) _
theorem mergeW_x : Blk (mergeW r c ry cy A B l m cap capy w) w.heap.size 24 #[.int .i64 r, .int .i64 c, .slice A l.length cap] := ((Blk.new w _ _).alloc _).alloc _
theorem mergeW_y : Blk (mergeW r c ry cy A B l m cap capy w) (w.heap.size + 1) 24 #[.int .i64 ry, .int .i64 cy, .slice B m.length capy] := by
  have h := (Blk.new (w.alloc (.cells #[.int .i64 r, .int .i64 c, .slice A l.length cap] 24)) 24 #[.int .i64 ry, .int .i64 cy, .slice B m.length capy]).alloc (.cells #[.int .i64 0, .int .i64 0, .slice none 0 0] 24)
  rwa [World.size_alloc] at h
theorem mergeW_r : Blk (mergeW r c ry cy A B l m cap capy w) (w.heap.size + 1 + 1) 24 #[.int .i64 0, .int .i64 0, .slice none 0 0] := by
  have h := Blk.new ((w.alloc (.cells #[.int .i64 r, .int .i64 c, .slice A l.length cap] 24)).alloc (.cells #[.int .i64 ry, .int .i64 cy, .slice B m.length capy] 24)) 24 #[.int .i64 0, .int .i64 0, .slice none 0 0]
  rwa [World.size_alloc, World.size_alloc] at h
end
set_option maxHeartbeats 2000000 in
theorem merge_bad1 (r c ry cy : Int) (A B : Option Addr) (l m : List Int) (cap capy : Nat) (w : World) (hS : Sl w w.heap.size A l) (hr : rightC r c l.length = false) :
    Calls Try.prog 24 #[.agg #[.int .i64 r, .int .i64 c, .slice A l.length cap], .agg #[.int .i64 ry, .int .i64 cy, .slice B m.length capy]] w (CRes w (mergeC ⟨r, c, l⟩ ⟨ry, cy, m⟩)) := by
  have HR : Hid (mergeC ⟨r, c, l⟩ ⟨ry, cy, m⟩ = (Cm.none, 80)) := by show mergeC _ _ = _; rw [mergeC, if_neg (by simp [hr])]
  have DA := mergeW_below r c ry cy A B l m cap capy w
  have Y := Lib.hid (mergeW_r r c ry cy A B l m cap capy w)
  have HS := Lib.hid (hS.later DA)
  have H := Lib.hid hr
  clear hr hS
  go_enter Try.func24, Try.ntmps24
  go_wp2_with fail
  refine (begin_any r c A l cap _ HS.out).mono ?_
  rintro e w1 ⟨hb1, ⟨hr, _⟩ | ⟨hf, s, rfl⟩⟩
  · rw [H.out] at hr; cases hr
  · replace Y := Lib.hid (Y.out.later hb1)
    have T1 := Below.two DA hb1
    have z1 := Y.out.lt
    clear hf hb1
    go_wp2_with fail
    refine (errno_err s _).mono ?_
    rintro e w' ⟨rfl, rfl⟩
    replace Y := Lib.hid ((Y.out.alloc (.cells #[.int .i64 0, .int .i64 0, .slice none 0 0] 48)).alloc (.cells #[.string s] 65))
    replace T1 := below_al (below_al T1 (.cells #[.int .i64 0, .int .i64 0, .slice none 0 0] 48)) (.cells #[.string s] 65)
    generalize (w1.alloc (.cells #[.int .i64 0, .int .i64 0, .slice none 0 0] 48)).alloc (.cells #[.string s] 65) = W at *
    have f0 := Y.out.frozen 0
    have f1 := Y.out.frozen 1
    have f2 := Y.out.frozen 2
    have u0 := Y.out.c0
    have u1 := Y.out.c1
    have u2 := Y.out.c2
    go_wp2_with fail
    have K := Y.out.set3 (x := .int .i64 0) (y := .int .i64 0) (z := .slice none 0 0)
    have k0 := K.c0
    have k1 := K.c1
    have k2 := K.c2
    refine bodyPost_ret (v := .tuple #[.agg #[.int .i64 0, .int .i64 0, .slice none 0 0], .int .i64 80]) (by simp [results, Try.results24, go_sem, k0, k1, k2]) rfl
      ⟨below_set3 T1 (by omega) _ _ _, .slice none 0 0, by rw [HR.out]; rfl, ?_⟩
    rw [HR.out]
    exact res_stored Y.out (held_nil _ _)
set_option maxHeartbeats 2000000 in
theorem merge_bad2 (r c ry cy : Int) (A B : Option Addr) (l m : List Int) (cap capy : Nat) (w : World) (hS : Sl w w.heap.size A l) (hSB : Sl w w.heap.size B m) (hr : rightC r c l.length = true) (hy : rightC ry cy m.length = false) :
    Calls Try.prog 24 #[.agg #[.int .i64 r, .int .i64 c, .slice A l.length cap], .agg #[.int .i64 ry, .int .i64 cy, .slice B m.length capy]] w (CRes w (mergeC ⟨r, c, l⟩ ⟨ry, cy, m⟩)) := by
  have HR : Hid (mergeC ⟨r, c, l⟩ ⟨ry, cy, m⟩ = (Cm.none, 80)) := by show mergeC _ _ = _; rw [mergeC, if_neg (by simp [hy])]
  have HY := Lib.hid hy
  clear hy
  have DA := mergeW_below r c ry cy A B l m cap capy w
  have X := Lib.hid (mergeW_x r c ry cy A B l m cap capy w)
  have Y := Lib.hid (mergeW_y r c ry cy A B l m cap capy w)
  have R := Lib.hid (mergeW_r r c ry cy A B l m cap capy w)
  have HS := Lib.hid (hS.later DA)
  have HSB := Lib.hid (hSB.later DA)
  have H := Lib.hid hr
  clear hr hS hSB
  go_enter Try.func24, Try.ntmps24
  go_wp2_with fail
  refine (begin_any r c A l cap _ HS.out).mono ?_
  rintro e w1 ⟨hb1, ⟨_, g, hg, rfl, hblk⟩ | ⟨hf, _⟩⟩
  rotate_left
  · rw [H.out] at hf; cases hf
  have YY := Y.out.later hb1
  have y0 := YY.c0
  have y1 := YY.c1
  have y2 := YY.c2
  have z0 := YY.lt
  clear YY
  replace X := Lib.hid ((X.out.later hb1).alloc (.cells #[.int .i64 r, .int .i64 c, .slice (some ⟨g, 0, none⟩) l.length l.length] 48))
  replace Y := Lib.hid ((Y.out.later hb1).alloc (.cells #[.int .i64 r, .int .i64 c, .slice (some ⟨g, 0, none⟩) l.length l.length] 48))
  replace R := Lib.hid ((R.out.later hb1).alloc (.cells #[.int .i64 r, .int .i64 c, .slice (some ⟨g, 0, none⟩) l.length l.length] 48))
  have G := Lib.hid (Blk.alloc hblk (.cells #[.int .i64 r, .int .i64 c, .slice (some ⟨g, 0, none⟩) l.length l.length] 48))
  have Z := Lib.hid (Blk.new w1 48 #[.int .i64 r, .int .i64 c, .slice (some ⟨g, 0, none⟩) l.length l.length])
  replace HSB := Lib.hid ((HSB.out.later hb1).later (below_al (below_0 _) (.cells #[.int .i64 r, .int .i64 c, .slice (some ⟨g, 0, none⟩) l.length l.length] 48)))
  have T1 := below_al (Below.two DA hb1) (.cells #[.int .i64 r, .int .i64 c, .slice (some ⟨g, 0, none⟩) l.length l.length] 48)
  have hg' : w.heap.size + 3 ≤ g := by simpa using hg
  have hgw : g < w1.heap.size := heap_lt hblk
  clear hblk hb1 hg
  go_wp2_with fail
  clear y0 y1 y2 z0
  generalize w1.alloc (.cells #[.int .i64 r, .int .i64 c, .slice (some ⟨g, 0, none⟩) l.length l.length] 48) = W at *
  refine (right_any ry cy B m.length capy _).mono ?_
  rintro e w' ⟨rfl, rfl⟩
  rw [HY.out]
  replace R := Lib.hid (R.out.alloc (.cells #[.int .i64 ry, .int .i64 cy, .slice B m.length capy] 24))
  replace X := Lib.hid (X.out.alloc (.cells #[.int .i64 ry, .int .i64 cy, .slice B m.length capy] 24))
  replace Y := Lib.hid (Y.out.alloc (.cells #[.int .i64 ry, .int .i64 cy, .slice B m.length capy] 24))
  replace Z := Lib.hid (Z.out.alloc (.cells #[.int .i64 ry, .int .i64 cy, .slice B m.length capy] 24))
  replace G := Lib.hid (G.out.alloc (.cells #[.int .i64 ry, .int .i64 cy, .slice B m.length capy] 24))
  replace HSB := Lib.hid (HSB.out.later (below_al (below_0 _) (.cells #[.int .i64 ry, .int .i64 cy, .slice B m.length capy] 24)))
  replace T1 := below_al T1 (.cells #[.int .i64 ry, .int .i64 cy, .slice B m.length capy] 24)
  generalize W.alloc (.cells #[.int .i64 ry, .int .i64 cy, .slice B m.length capy] 24) = W2 at *
  go_wp2_with fail
  refine (errno_err _ _).mono ?_
  rintro e w' ⟨rfl, rfl⟩
  replace R := Lib.hid (R.out.alloc (.cells #[.string ⟨#[110, 111, 32, 99, 111, 117, 110, 116, 101, 114, 115, 32, 111, 102, 32, 116, 104, 105, 115, 32, 107, 105, 110, 100]⟩] 65))
  replace T1 := below_al T1 (.cells #[.string ⟨#[110, 111, 32, 99, 111, 117, 110, 116, 101, 114, 115, 32, 111, 102, 32, 116, 104, 105, 115, 32, 107, 105, 110, 100]⟩] 65)
  generalize W2.alloc (.cells #[.string ⟨#[110, 111, 32, 99, 111, 117, 110, 116, 101, 114, 115, 32, 111, 102, 32, 116, 104, 105, 115, 32, 107, 105, 110, 100]⟩] 65) = W3 at *
  have f0 := R.out.frozen 0
  have f1 := R.out.frozen 1
  have f2 := R.out.frozen 2
  have u0 := R.out.c0
  have u1 := R.out.c1
  have u2 := R.out.c2
  go_wp2_with fail
  have K := R.out.set3 (x := .int .i64 0) (y := .int .i64 0) (z := .slice none 0 0)
  have k0 := K.c0
  have k1 := K.c1
  have k2 := K.c2
  refine bodyPost_ret (v := .tuple #[.agg #[.int .i64 0, .int .i64 0, .slice none 0 0], .int .i64 80]) (by simp [results, Try.results24, go_sem, k0, k1, k2]) rfl
    ⟨below_set3 T1 (by omega) _ _ _, .slice none 0 0, by rw [HR.out]; rfl, ?_⟩
  rw [HR.out]
  exact res_stored R.out (held_nil _ _)
set_option maxHeartbeats 2000000 in
theorem merge_bad3 (r c ry cy : Int) (A B : Option Addr) (l m : List Int) (cap capy : Nat) (w : World) (hS : Sl w w.heap.size A l) (hSB : Sl w w.heap.size B m) (hr : rightC r c l.length = true) (hy : rightC ry cy m.length = true) (hne : ¬ ry = r) :
    Calls Try.prog 24 #[.agg #[.int .i64 r, .int .i64 c, .slice A l.length cap], .agg #[.int .i64 ry, .int .i64 cy, .slice B m.length capy]] w (CRes w (mergeC ⟨r, c, l⟩ ⟨ry, cy, m⟩)) := by
  have HR : Hid (mergeC ⟨r, c, l⟩ ⟨ry, cy, m⟩ = (Cm.none, 80)) := by show mergeC _ _ = _; rw [mergeC, if_neg (fun h => hne h.2.2.1)]
  have HY := Lib.hid hy
  clear hy
  have DA := mergeW_below r c ry cy A B l m cap capy w
  have X := Lib.hid (mergeW_x r c ry cy A B l m cap capy w)
  have Y := Lib.hid (mergeW_y r c ry cy A B l m cap capy w)
  have R := Lib.hid (mergeW_r r c ry cy A B l m cap capy w)
  have HS := Lib.hid (hS.later DA)
  have HSB := Lib.hid (hSB.later DA)
  have H := Lib.hid hr
  clear hr hS hSB
  go_enter Try.func24, Try.ntmps24
  go_wp2_with fail
  refine (begin_any r c A l cap _ HS.out).mono ?_
  rintro e w1 ⟨hb1, ⟨_, g, hg, rfl, hblk⟩ | ⟨hf, _⟩⟩
  rotate_left
  · rw [H.out] at hf; cases hf
  have YY := Y.out.later hb1
  have y0 := YY.c0
  have y1 := YY.c1
  have y2 := YY.c2
  have z0 := YY.lt
  clear YY
  replace X := Lib.hid ((X.out.later hb1).alloc (.cells #[.int .i64 r, .int .i64 c, .slice (some ⟨g, 0, none⟩) l.length l.length] 48))
  replace Y := Lib.hid ((Y.out.later hb1).alloc (.cells #[.int .i64 r, .int .i64 c, .slice (some ⟨g, 0, none⟩) l.length l.length] 48))
  replace R := Lib.hid ((R.out.later hb1).alloc (.cells #[.int .i64 r, .int .i64 c, .slice (some ⟨g, 0, none⟩) l.length l.length] 48))
  have G := Lib.hid (Blk.alloc hblk (.cells #[.int .i64 r, .int .i64 c, .slice (some ⟨g, 0, none⟩) l.length l.length] 48))
  have Z := Lib.hid (Blk.new w1 48 #[.int .i64 r, .int .i64 c, .slice (some ⟨g, 0, none⟩) l.length l.length])
  replace HSB := Lib.hid ((HSB.out.later hb1).later (below_al (below_0 _) (.cells #[.int .i64 r, .int .i64 c, .slice (some ⟨g, 0, none⟩) l.length l.length] 48)))
  have T1 := below_al (Below.two DA hb1) (.cells #[.int .i64 r, .int .i64 c, .slice (some ⟨g, 0, none⟩) l.length l.length] 48)
  have hg' : w.heap.size + 3 ≤ g := by simpa using hg
  have hgw : g < w1.heap.size := heap_lt hblk
  clear hblk hb1 hg
  go_wp2_with fail
  clear y0 y1 y2 z0
  generalize w1.alloc (.cells #[.int .i64 r, .int .i64 c, .slice (some ⟨g, 0, none⟩) l.length l.length] 48) = W at *
  refine (right_any ry cy B m.length capy _).mono ?_
  rintro e w' ⟨rfl, rfl⟩
  rw [HY.out]
  replace R := Lib.hid (R.out.alloc (.cells #[.int .i64 ry, .int .i64 cy, .slice B m.length capy] 24))
  replace X := Lib.hid (X.out.alloc (.cells #[.int .i64 ry, .int .i64 cy, .slice B m.length capy] 24))
  replace Y := Lib.hid (Y.out.alloc (.cells #[.int .i64 ry, .int .i64 cy, .slice B m.length capy] 24))
  replace Z := Lib.hid (Z.out.alloc (.cells #[.int .i64 ry, .int .i64 cy, .slice B m.length capy] 24))
  replace G := Lib.hid (G.out.alloc (.cells #[.int .i64 ry, .int .i64 cy, .slice B m.length capy] 24))
  replace HSB := Lib.hid (HSB.out.later (below_al (below_0 _) (.cells #[.int .i64 ry, .int .i64 cy, .slice B m.length capy] 24)))
  replace T1 := below_al T1 (.cells #[.int .i64 ry, .int .i64 cy, .slice B m.length capy] 24)
  generalize W.alloc (.cells #[.int .i64 ry, .int .i64 cy, .slice B m.length capy] 24) = W2 at *
  have x0 := X.out.c0
  have x1 := X.out.c1
  have y0 := Y.out.c0
  have y1 := Y.out.c1
  go_wp2_with fail
  refine (errno_err _ _).mono ?_
  rintro e w' ⟨rfl, rfl⟩
  replace R := Lib.hid (R.out.alloc (.cells #[.string ⟨#[110, 111, 32, 99, 111, 117, 110, 116, 101, 114, 115, 32, 111, 102, 32, 116, 104, 105, 115, 32, 107, 105, 110, 100]⟩] 65))
  replace T1 := below_al T1 (.cells #[.string ⟨#[110, 111, 32, 99, 111, 117, 110, 116, 101, 114, 115, 32, 111, 102, 32, 116, 104, 105, 115, 32, 107, 105, 110, 100]⟩] 65)
  generalize W2.alloc (.cells #[.string ⟨#[110, 111, 32, 99, 111, 117, 110, 116, 101, 114, 115, 32, 111, 102, 32, 116, 104, 105, 115, 32, 107, 105, 110, 100]⟩] 65) = W3 at *
  have f0 := R.out.frozen 0
  have f1 := R.out.frozen 1
  have f2 := R.out.frozen 2
  have u0 := R.out.c0
  have u1 := R.out.c1
  have u2 := R.out.c2
  go_wp2_with fail
  have K := R.out.set3 (x := .int .i64 0) (y := .int .i64 0) (z := .slice none 0 0)
  have k0 := K.c0
  have k1 := K.c1
  have k2 := K.c2
  refine bodyPost_ret (v := .tuple #[.agg #[.int .i64 0, .int .i64 0, .slice none 0 0], .int .i64 80]) (by simp [results, Try.results24, go_sem, k0, k1, k2]) rfl
    ⟨below_set3 T1 (by omega) _ _ _, .slice none 0 0, by rw [HR.out]; rfl, ?_⟩
  rw [HR.out]
  exact res_stored R.out (held_nil _ _)
set_option maxHeartbeats 2000000 in
theorem merge_bad4 (r c cy : Int) (A B : Option Addr) (l m : List Int) (cap capy : Nat) (w : World) (hS : Sl w w.heap.size A l) (hSB : Sl w w.heap.size B m) (hr : rightC r c l.length = true) (hy : rightC r cy m.length = true) (hne : ¬ cy = c) :
    Calls Try.prog 24 #[.agg #[.int .i64 r, .int .i64 c, .slice A l.length cap], .agg #[.int .i64 r, .int .i64 cy, .slice B m.length capy]] w (CRes w (mergeC ⟨r, c, l⟩ ⟨r, cy, m⟩)) := by
  have HR : Hid (mergeC ⟨r, c, l⟩ ⟨r, cy, m⟩ = (Cm.none, 80)) := by show mergeC _ _ = _; rw [mergeC, if_neg (fun h => hne h.2.2.2)]
  have HY := Lib.hid hy
  clear hy
  have DA := mergeW_below r c r cy A B l m cap capy w
  have X := Lib.hid (mergeW_x r c r cy A B l m cap capy w)
  have Y := Lib.hid (mergeW_y r c r cy A B l m cap capy w)
  have R := Lib.hid (mergeW_r r c r cy A B l m cap capy w)
  have HS := Lib.hid (hS.later DA)
  have HSB := Lib.hid (hSB.later DA)
  have H := Lib.hid hr
  clear hr hS hSB
  go_enter Try.func24, Try.ntmps24
  go_wp2_with fail
  refine (begin_any r c A l cap _ HS.out).mono ?_
  rintro e w1 ⟨hb1, ⟨_, g, hg, rfl, hblk⟩ | ⟨hf, _⟩⟩
  rotate_left
  · rw [H.out] at hf; cases hf
  have YY := Y.out.later hb1
  have y0 := YY.c0
  have y1 := YY.c1
  have y2 := YY.c2
  have z0 := YY.lt
  clear YY
  replace X := Lib.hid ((X.out.later hb1).alloc (.cells #[.int .i64 r, .int .i64 c, .slice (some ⟨g, 0, none⟩) l.length l.length] 48))
  replace Y := Lib.hid ((Y.out.later hb1).alloc (.cells #[.int .i64 r, .int .i64 c, .slice (some ⟨g, 0, none⟩) l.length l.length] 48))
  replace R := Lib.hid ((R.out.later hb1).alloc (.cells #[.int .i64 r, .int .i64 c, .slice (some ⟨g, 0, none⟩) l.length l.length] 48))
  have G := Lib.hid (Blk.alloc hblk (.cells #[.int .i64 r, .int .i64 c, .slice (some ⟨g, 0, none⟩) l.length l.length] 48))
  have Z := Lib.hid (Blk.new w1 48 #[.int .i64 r, .int .i64 c, .slice (some ⟨g, 0, none⟩) l.length l.length])
  replace HSB := Lib.hid ((HSB.out.later hb1).later (below_al (below_0 _) (.cells #[.int .i64 r, .int .i64 c, .slice (some ⟨g, 0, none⟩) l.length l.length] 48)))
  have T1 := below_al (Below.two DA hb1) (.cells #[.int .i64 r, .int .i64 c, .slice (some ⟨g, 0, none⟩) l.length l.length] 48)
  have hg' : w.heap.size + 3 ≤ g := by simpa using hg
  have hgw : g < w1.heap.size := heap_lt hblk
  clear hblk hb1 hg
  go_wp2_with fail
  clear y0 y1 y2 z0
  generalize w1.alloc (.cells #[.int .i64 r, .int .i64 c, .slice (some ⟨g, 0, none⟩) l.length l.length] 48) = W at *
  refine (right_any r cy B m.length capy _).mono ?_
  rintro e w' ⟨rfl, rfl⟩
  rw [HY.out]
  replace R := Lib.hid (R.out.alloc (.cells #[.int .i64 r, .int .i64 cy, .slice B m.length capy] 24))
  replace X := Lib.hid (X.out.alloc (.cells #[.int .i64 r, .int .i64 cy, .slice B m.length capy] 24))
  replace Y := Lib.hid (Y.out.alloc (.cells #[.int .i64 r, .int .i64 cy, .slice B m.length capy] 24))
  replace Z := Lib.hid (Z.out.alloc (.cells #[.int .i64 r, .int .i64 cy, .slice B m.length capy] 24))
  replace G := Lib.hid (G.out.alloc (.cells #[.int .i64 r, .int .i64 cy, .slice B m.length capy] 24))
  replace HSB := Lib.hid (HSB.out.later (below_al (below_0 _) (.cells #[.int .i64 r, .int .i64 cy, .slice B m.length capy] 24)))
  replace T1 := below_al T1 (.cells #[.int .i64 r, .int .i64 cy, .slice B m.length capy] 24)
  generalize W.alloc (.cells #[.int .i64 r, .int .i64 cy, .slice B m.length capy] 24) = W2 at *
  have x0 := X.out.c0
  have x1 := X.out.c1
  have y0 := Y.out.c0
  have y1 := Y.out.c1
  go_wp2_with fail
  refine (errno_err _ _).mono ?_
  rintro e w' ⟨rfl, rfl⟩
  replace R := Lib.hid (R.out.alloc (.cells #[.string ⟨#[110, 111, 32, 99, 111, 117, 110, 116, 101, 114, 115, 32, 111, 102, 32, 116, 104, 105, 115, 32, 107, 105, 110, 100]⟩] 65))
  replace T1 := below_al T1 (.cells #[.string ⟨#[110, 111, 32, 99, 111, 117, 110, 116, 101, 114, 115, 32, 111, 102, 32, 116, 104, 105, 115, 32, 107, 105, 110, 100]⟩] 65)
  generalize W2.alloc (.cells #[.string ⟨#[110, 111, 32, 99, 111, 117, 110, 116, 101, 114, 115, 32, 111, 102, 32, 116, 104, 105, 115, 32, 107, 105, 110, 100]⟩] 65) = W3 at *
  have f0 := R.out.frozen 0
  have f1 := R.out.frozen 1
  have f2 := R.out.frozen 2
  have u0 := R.out.c0
  have u1 := R.out.c1
  have u2 := R.out.c2
  go_wp2_with fail
  have K := R.out.set3 (x := .int .i64 0) (y := .int .i64 0) (z := .slice none 0 0)
  have k0 := K.c0
  have k1 := K.c1
  have k2 := K.c2
  refine bodyPost_ret (v := .tuple #[.agg #[.int .i64 0, .int .i64 0, .slice none 0 0], .int .i64 80]) (by simp [results, Try.results24, go_sem, k0, k1, k2]) rfl
    ⟨below_set3 T1 (by omega) _ _ _, .slice none 0 0, by rw [HR.out]; rfl, ?_⟩
  rw [HR.out]
  exact res_stored R.out (held_nil _ _)
set_option maxHeartbeats 2000000 in
theorem merge_good (r c : Int) (A B : Option Addr) (l m : List Int) (cap capy : Nat) (w : World) (hS : Sl w w.heap.size A l) (hSB : Sl w w.heap.size B m) (hr : rightC r c l.length = true) (hy : rightC r c m.length = true) (hU : Us l) (hUm : Us m) :
    Calls Try.prog 24 #[.agg #[.int .i64 r, .int .i64 c, .slice A l.length cap], .agg #[.int .i64 r, .int .i64 c, .slice B m.length capy]] w (CRes w (mergeC ⟨r, c, l⟩ ⟨r, c, m⟩)) := by
  have HR : Hid (mergeC ⟨r, c, l⟩ ⟨r, c, m⟩ = (⟨r, c, chgAll (fun p o => sat o (nth m p)) l (List.range l.length)⟩, 0)) := by show mergeC _ _ = _; rw [mergeC, if_pos ⟨hr, hy, rfl, rfl⟩]
  have hlm : m.length = l.length := by have h1 := (right_of hr).2; have h2 := (right_of hy).2; omega
  have HLM := Lib.hid hlm
  have hl128 : l.length ≤ 65536 := by
    obtain ⟨R', C', e1, e2, _, q2, q3⟩ := shape_nat (right_of hr).1
    have h1 := (right_of hr).2
    have h3 := shape_mul q2 q3
    rw [e1, e2, ← Int.natCast_mul] at h1
    omega
  clear hlm
  have HY := Lib.hid hy
  clear hy
  have DA := mergeW_below r c r c A B l m cap capy w
  have X := Lib.hid (mergeW_x r c r c A B l m cap capy w)
  have Y := Lib.hid (mergeW_y r c r c A B l m cap capy w)
  have R := Lib.hid (mergeW_r r c r c A B l m cap capy w)
  have HNB : Hid (m ≠ [] → ∀ ad, B = some ad → ad.block < w.heap.size) := fun hne ad e => by
    obtain ⟨b, off, e', hb, _⟩ := hSB (by simpa using hne)
    rw [e'] at e; cases e; exact hb
  have HS := Lib.hid (hS.later DA)
  have HSB := Lib.hid (hSB.later DA)
  have H := Lib.hid hr
  clear hr hS hSB
  go_enter Try.func24, Try.ntmps24
  go_wp2_with fail
  refine (begin_any r c A l cap _ HS.out).mono ?_
  rintro e w1 ⟨hb1, ⟨_, g, hg, rfl, hblk⟩ | ⟨hf, _⟩⟩
  rotate_left
  · rw [H.out] at hf; cases hf
  have YY := Y.out.later hb1
  have y0 := YY.c0
  have y1 := YY.c1
  have y2 := YY.c2
  have z0 := YY.lt
  clear YY
  replace X := Lib.hid ((X.out.later hb1).alloc (.cells #[.int .i64 r, .int .i64 c, .slice (some ⟨g, 0, none⟩) l.length l.length] 48))
  replace Y := Lib.hid ((Y.out.later hb1).alloc (.cells #[.int .i64 r, .int .i64 c, .slice (some ⟨g, 0, none⟩) l.length l.length] 48))
  replace R := Lib.hid ((R.out.later hb1).alloc (.cells #[.int .i64 r, .int .i64 c, .slice (some ⟨g, 0, none⟩) l.length l.length] 48))
  have G := Lib.hid (Blk.alloc hblk (.cells #[.int .i64 r, .int .i64 c, .slice (some ⟨g, 0, none⟩) l.length l.length] 48))
  have Z := Lib.hid (Blk.new w1 48 #[.int .i64 r, .int .i64 c, .slice (some ⟨g, 0, none⟩) l.length l.length])
  replace HSB := Lib.hid ((HSB.out.later hb1).later (below_al (below_0 _) (.cells #[.int .i64 r, .int .i64 c, .slice (some ⟨g, 0, none⟩) l.length l.length] 48)))
  have T1 := below_al (Below.two DA hb1) (.cells #[.int .i64 r, .int .i64 c, .slice (some ⟨g, 0, none⟩) l.length l.length] 48)
  have hg' : w.heap.size + 3 ≤ g := by simpa using hg
  have hgw : g < w1.heap.size := heap_lt hblk
  clear hblk hb1 hg
  go_wp2_with fail
  clear y0 y1 y2 z0
  generalize w1.alloc (.cells #[.int .i64 r, .int .i64 c, .slice (some ⟨g, 0, none⟩) l.length l.length] 48) = W at *
  refine (right_any r c B m.length capy _).mono ?_
  rintro e w' ⟨rfl, rfl⟩
  rw [HY.out]
  replace R := Lib.hid (R.out.alloc (.cells #[.int .i64 r, .int .i64 c, .slice B m.length capy] 24))
  replace X := Lib.hid (X.out.alloc (.cells #[.int .i64 r, .int .i64 c, .slice B m.length capy] 24))
  replace Y := Lib.hid (Y.out.alloc (.cells #[.int .i64 r, .int .i64 c, .slice B m.length capy] 24))
  replace Z := Lib.hid (Z.out.alloc (.cells #[.int .i64 r, .int .i64 c, .slice B m.length capy] 24))
  replace G := Lib.hid (G.out.alloc (.cells #[.int .i64 r, .int .i64 c, .slice B m.length capy] 24))
  replace HSB := Lib.hid (HSB.out.later (below_al (below_0 _) (.cells #[.int .i64 r, .int .i64 c, .slice B m.length capy] 24)))
  replace T1 := below_al T1 (.cells #[.int .i64 r, .int .i64 c, .slice B m.length capy] 24)
  generalize W.alloc (.cells #[.int .i64 r, .int .i64 c, .slice B m.length capy] 24) = W2 at *
  have x0 := X.out.c0
  have x1 := X.out.c1
  have y0 := Y.out.c0
  have y1 := Y.out.c1
  have hpos : m ≠ [] := by
    intro e
    have h1 := (right_of H.out).2
    obtain ⟨R', C', e1, e2, q1, q2, q3⟩ := shape_nat (right_of H.out).1
    have h2 := HLM.out
    rw [e1, e2, ← Int.natCast_mul, ← h2, e] at h1
    have h4 : 0 < R' * C' := Nat.mul_pos (by omega) (by omega)
    simp at h1
    omega
  have HNE : Hid (∀ ad, B = some ad → ad.block ≠ g) := fun ad e => by have := HNB.out hpos ad e; omega
  clear hpos
  go_wp2_with fail
  have x0 := Z.out.c0
  have x1 := Z.out.c1
  have x2 := Z.out.c2
  have z0 := R.out.lt
  have z1 := Y.out.lt
  have z2 := Z.out.lt
  have z3 := G.out.lt
  have KC : Hid (∀ V : World, V = W2.drew.alloc (.cells #[.int .i64 r, .int .i64 c, .slice (some ⟨g, 0, none⟩) l.length l.length] 48) → Calls Try.prog 34 #[.agg #[.int .i64 r, .int .i64 c, .slice (some ⟨g, 0, none⟩) l.length l.length], .func (.func 46) #[] #[.pointer (some ⟨W2.heap.size, 0, none⟩)], .func (.func 42) #[] #[.pointer (some ⟨w.heap.size + 1, 0, none⟩)]] V fun e w' => (∃ v, e = .returned v) ∧
      Blk w' g 25 ((chgAll (fun p o => sat o (nth m p)) l (List.range l.length)).map (Value.int .u64)).toArray ∧ V.grownBy w' (some g)) := by
    rintro V rfl
    exact change_all_merge _ g W2.heap.size (w.heap.size + 1) l.length capy r c r c l m B hl128 HLM.out hU hUm (G.out.drew.alloc _) (Blk.new W2.drew _ _) (Y.out.drew.alloc _) (HSB.out.later (below_al (below_0 W2).drew _)) HNE.out (by omega) (by omega)
  go_region_held3 (fun w' => w'.cell? ⟨w1.heap.size, 0, none⟩ = some (.int .i64 r) ∧ w'.cell? ⟨w1.heap.size, 1, none⟩ = some (.int .i64 c) ∧ w'.cell? ⟨w1.heap.size, 2, none⟩ = some (.slice (some ⟨g, 0, none⟩) l.length l.length)) (first | go_keep | exact ⟨y0, y1, y2⟩)
    (first
      | (go_at_call 41; refine (all_any _ _ _ _ _ _).mono ?_; rintro e w' ⟨rfl, rfl⟩)
      | (go_at_call 34; refine (KC.out _ rfl).mono ?_; rintro e w2 ⟨⟨v, rfl⟩, hG2, hg2⟩; have Z2 := (Z.out.drew.alloc _).grown hg2 (fun e => by cases e; omega); have y0 := Z2.c0; have y1 := Z2.c1; have y2 := Z2.c2; have Y2 := Lib.hid ((R.out.drew.alloc _).grown hg2 (fun e => by cases e; omega)); have T2 : Below w.heap.size w w2 := below_turned (below_al T1.drew _) hg2 (by omega); have G2 := Lib.hid hG2; have f0 := Y2.out.frozen 0; have f1 := Y2.out.frozen 1; have f2 := Y2.out.frozen 2; have u0 := Y2.out.c0; have u1 := Y2.out.c1; have u2 := Y2.out.c2; have ne1 : w1.heap.size ≠ w.heap.size + 1 + 1 := by omega))
  all_goals
    clear hG2 hg2 Z2 KC x0 x1 x2
    have hq2 := Y2.out.lt
    go_wp2_with fail
    have K := Y2.out.set3 (x := .int .i64 r) (y := .int .i64 c) (z := .slice (some ⟨g, 0, none⟩) l.length l.length)
    have k0 := K.c0
    have k1 := K.c1
    have k2 := K.c2
    refine bodyPost_ret (v := .tuple #[.agg #[.int .i64 r, .int .i64 c, .slice (some ⟨g, 0, none⟩) l.length l.length], .int .i64 0]) (by simp [results, Try.results24, go_sem, k0, k1, k2]) rfl
      ⟨below_set3 T2 (by omega) _ _ _, .slice (some ⟨g, 0, none⟩) l.length l.length, by rw [HR.out], ?_⟩
    rw [HR.out]
    refine res_stored Y2.out ?_
    have := Blk.held (base := w.heap.size) G2.out (by omega)
    rwa [length_chgAll] at this
theorem merge_any (r c ry cy : Int) (A B : Option Addr) (l m : List Int) (cap capy : Nat) (w : World) (hS : Sl w w.heap.size A l) (hSB : Sl w w.heap.size B m) (hU : Us l) (hUm : Us m) :
    Calls Try.prog 24 #[.agg #[.int .i64 r, .int .i64 c, .slice A l.length cap], .agg #[.int .i64 ry, .int .i64 cy, .slice B m.length capy]] w (CRes w (mergeC ⟨r, c, l⟩ ⟨ry, cy, m⟩)) := by
  cases hr : rightC r c l.length with
  | false => exact merge_bad1 r c ry cy A B l m cap capy w hS hr
  | true =>
    cases hy : rightC ry cy m.length with
    | false => exact merge_bad2 r c ry cy A B l m cap capy w hS hSB hr hy
    | true =>
      by_cases e1 : ry = r
      · subst e1
        by_cases e2 : cy = c
        · subst e2; exact merge_good _ _ A B l m cap capy w hS hSB hr hy hU hUm
        · exact merge_bad4 _ c cy A B l m cap capy w hS hSB hr hy e2
      · exact merge_bad3 r c ry cy A B l m cap capy w hS hSB hr hy e1
end Go.Proofs.Ythjdonhabenmcaa

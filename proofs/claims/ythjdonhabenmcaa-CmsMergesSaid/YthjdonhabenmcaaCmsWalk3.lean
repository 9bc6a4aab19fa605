/-
  Walks of package cms: counters in memory of their own.
-/
import Derived.Test.YthjdonhabenmcaaCmsWalk2
import Derived.Deep.RegionHeld3
namespace Go.Proofs.Ythjdonhabenmcaa
open Go.RowKit
set_option linter.unusedVariables false
/-- What begin hands back: the same counters, in a block of their own. -/
def BeginRes (w : World) (r c : Int) (l : List Int) (e : Ending) (w' : World) : Prop :=
  Below w.heap.size w w' ∧ ((rightC r c l.length = true ∧ ∃ g, w.heap.size ≤ g ∧ e = .returned (.tuple #[.agg #[.int .i64 r, .int .i64 c, .slice (some ⟨g, 0, none⟩) l.length l.length], .nilIface]) ∧ Blk w' g 25 (l.map (Value.int .u64)).toArray) ∨
    (rightC r c l.length = false ∧ ∃ s, e = .returned (.tuple #[.agg #[.int .i64 0, .int .i64 0, .slice none 0 0], errV s])))
set_option maxHeartbeats 1000000 in
theorem begin_any (r c : Int) (A : Option Addr) (l : List Int) (cap : Nat) (w : World) (hS : Sl w w.heap.size A l) :
    Calls Try.prog 33 #[.agg #[.int .i64 r, .int .i64 c, .slice A l.length cap]] w (BeginRes w r c l) := by
  cases hr : rightC r c l.length with
  | false =>
    have H := Lib.hid hr
    clear hr
    go_enter Try.func33, Try.ntmps33
    go_wp2_with fail
    refine (right_any r c A l.length cap _).mono ?_
    rintro e w' ⟨rfl, rfl⟩
    rw [H.out]
    go_wp2_with fail
    exact bodyPost_ret (v := .tuple #[.agg #[.int .i64 0, .int .i64 0, .slice none 0 0], errV _]) (by simp [results, Try.results33, go_sem]; rfl) rfl ⟨below_al (below_al (below_al (below_0 _) _) _) _, .inr ⟨H.out, _, rfl⟩⟩
  | true =>
    obtain ⟨hs, hl⟩ := right_of hr
    have hn : (r * c).toNat = l.length := by omega
    have HN := Lib.hid hn
    have H := Lib.hid hr
    have HSH := Lib.hid hs
    have DA : Below w.heap.size w (((w.alloc (.cells #[.int .i64 r, .int .i64 c, .slice A l.length cap] 24)).alloc (.cells #[.int .i64 0, .int .i64 0, .slice none 0 0] 48)).alloc (.cells #[.int .i64 r, .int .i64 c, .slice A l.length cap] 24)) := below_al (below_al (below_al (below_0 _) _) _) _
    have X := Lib.hid (((Blk.new w 24 #[.int .i64 r, .int .i64 c, .slice A l.length cap]).alloc (.cells #[.int .i64 0, .int .i64 0, .slice none 0 0] 48)).alloc (.cells #[.int .i64 r, .int .i64 c, .slice A l.length cap] 24))
    have Y := Lib.hid ((Blk.new (w.alloc (.cells #[.int .i64 r, .int .i64 c, .slice A l.length cap] 24)) 48 #[.int .i64 0, .int .i64 0, .slice none 0 0]).alloc (.cells #[.int .i64 r, .int .i64 c, .slice A l.length cap] 24))
    have HS := Lib.hid (hS.later DA)
    simp only [World.size_alloc] at X Y
    clear hr hs hl hn hS
    go_enter Try.func33, Try.ntmps33
    go_wp2_with fail
    refine (right_any r c A l.length cap _).mono ?_
    rintro e w' ⟨rfl, rfl⟩
    rw [H.out]
    go_wp2_with fail
    refine (blank_any r c _).mono ?_
    rintro e w1 ⟨hb1, ⟨_, g, hg, rfl, hblk⟩ | ⟨hf, _⟩⟩
    · rw [HN.out] at hblk ⊢
      have T1 := Below.two DA hb1
      replace X := Lib.hid (X.out.later hb1)
      replace Y := Lib.hid (Y.out.later hb1)
      replace HS := Lib.hid (HS.out.later hb1)
      have G := Lib.hid hblk
      have hg' : w.heap.size + 3 ≤ g := by simpa using hg
      clear hg hblk hb1
      have x2 := X.out.c2
      have z0 := X.out.lt
      have hgw := G.out.lt
      obtain ⟨i0, hi0, hz0, hz1, hz2⟩ := info_parts Try.infoU64
      have KG := Lib.hid (G.out.alloc (.cells #[.int .i64 r, .int .i64 c, .slice (some ⟨g, 0, none⟩) l.length l.length] 48))
      have KS := Lib.hid (HS.out.later (below_al (below_0 _) (.cells #[.int .i64 r, .int .i64 c, .slice (some ⟨g, 0, none⟩) l.length l.length] 48)))
      have hne : w1.heap.size ≠ w.heap.size + 1 := by have := Y.out.lt; omega
      go_wp2_with (
        refine wpList_copy_all rfl (.tmp 22) (.tmp 24) 22 22 rfl 25 Try.underlying22 (by rw [hi0]; simp [hz1]) g l.length l.length cap A rfl rfl _ 25 KG.out (by simp) (l.map (Value.int .u64)) (by simp) _ KS.out one_u64 ?_
        intro w2 hg2 hw2 hs2
        have G2 := Lib.hid hg2
        have Y2 := Lib.hid ((Y.out.alloc (.cells #[.int .i64 r, .int .i64 c, .slice (some ⟨g, 0, none⟩) l.length l.length] 48)).grown hw2 (fun e => by cases e; omega))
        have Z2 := Lib.hid ((Blk.new w1 48 #[.int .i64 r, .int .i64 c, .slice (some ⟨g, 0, none⟩) l.length l.length]).grown hw2 (fun e => by cases e; omega))
        have T2 : Below w.heap.size w w2 := below_turned (below_al T1 _) hw2 (by omega)
        clear hg2 hw2 hs2 x2 KG KS hi0 hz0 hz1 hz2
        have y0 := Y2.out.c0
        have y1 := Y2.out.c1
        have y2 := Y2.out.c2
        have q0 := Z2.out.c0
        have q1 := Z2.out.c1
        have q2 := Z2.out.c2
        have f0 := Y2.out.frozen 0
        have f1 := Y2.out.frozen 1
        have f2 := Y2.out.frozen 2)
      have hcs := Y2.out.set3 (x := .int .i64 r) (y := .int .i64 c) (z := .slice (some ⟨g, 0, none⟩) l.length l.length)
      have k0 := hcs.c0
      have k1 := hcs.c1
      have k2 := hcs.c2
      exact bodyPost_ret (v := .tuple #[.agg #[.int .i64 r, .int .i64 c, .slice (some ⟨g, 0, none⟩) l.length l.length], .nilIface]) (by simp [results, Try.results33, go_sem, k0, k1, k2]) rfl
        ⟨((T2.setCell (by simp) _).setCell (by simp) _).setCell (by simp) _, .inl ⟨H.out, g, by omega, rfl, ((Blk.far (Blk.far (Blk.far (show Blk w2 g _ _ from G2.out) (by simp; omega) _) (by simp; omega) _) (by simp; omega) _))⟩⟩
    · rw [HSH.out] at hf; cases hf
/-- Counters. -/
structure Cm where
  r : Int
  c : Int
  l : List Int
def Cm.none : Cm := ⟨0, 0, []⟩
/-- A function of package cms, or of its reference, hands back these counters, in memory from w's end on, and that error. -/
def CRes (w : World) (x : Cm × Int) (e : Ending) (w' : World) : Prop :=
  Below w.heap.size w w' ∧ ∃ v, e = .returned (.tuple #[.agg #[.int .i64 x.1.r, .int .i64 x.1.c, v], .int .i64 x.2]) ∧ Held w' w.heap.size v x.1.l
def newF (r c : Int) : Cm × Int := if shapeB r c = true then (⟨r, c, List.replicate (r * c).toNat 0⟩, 0) else (Cm.none, 80)
/-- No cell of a box of counters is a number of 64 bits. -/
theorem no_u64 (r c : Int) (A : Option Addr) (n cap : Nat) : ∀ v ∈ #[Value.int .i64 r, .int .i64 c, .slice A n cap], ∀ n, v ≠ Value.int .u64 n := by
  intro v hv n e
  subst e
  simp at hv
/-- Counters are stored in the result's box. -/
theorem res_stored {w : World} {b base : Nat} {t : TypeId} {r c r2 c2 : Int} {A A2 : Option Addr} {n n2 cap cap2 : Nat} {l : List Int} (hx : Blk w b t #[.int .i64 r, .int .i64 c, .slice A n cap]) (h : Held w base (.slice A2 n2 cap2) l) :
    Held (((w.setCell ⟨b, 0, .none⟩ (.int .i64 r2)).setCell ⟨b, 1, .none⟩ (.int .i64 c2)).setCell ⟨b, 2, .none⟩ (.slice A2 n2 cap2)) base (.slice A2 n2 cap2) l :=
  held_turned h hx (no_u64 r c A n cap) (grow_set3 w b _ _ _) hx.set3
theorem below_set3 {a w : World} {b : Nat} (h : Below a.heap.size a w) (hb : a.heap.size ≤ b) (x y z : Value) : Below a.heap.size a (((w.setCell ⟨b, 0, .none⟩ x).setCell ⟨b, 1, .none⟩ y).setCell ⟨b, 2, .none⟩ z) :=
  below_turned h (grow_set3 w b x y z) hb
set_option maxHeartbeats 1000000 in
theorem new_any (r c : Int) (w : World) : Calls Try.prog 12 #[.int .i64 r, .int .i64 c] w (CRes w (newF r c)) := by
  have Y := Lib.hid (Blk.new w 24 #[.int .i64 0, .int .i64 0, .slice .none 0 0])
  have DA : Below w.heap.size w (w.alloc (.cells #[.int .i64 0, .int .i64 0, .slice .none 0 0] 24)) := below_al (below_0 _) _
  go_enter Try.func12, Try.ntmps12
  go_wp2_with fail
  refine (blank_any r c _).mono ?_
  rintro e w1 ⟨hb1, ⟨hs, g, hg, rfl, hblk⟩ | ⟨hf, s, rfl⟩⟩
  · have HR : Hid (newF r c = (⟨r, c, List.replicate (r * c).toNat 0⟩, 0)) := by show newF r c = _; rw [newF, if_pos hs]
    replace Y := Lib.hid (Y.out.later hb1)
    have T1 := Below.two DA hb1
    have G := Lib.hid hblk
    have hg' : w.heap.size + 1 ≤ g := by simpa using hg
    clear hs hblk hb1 hg
    have y0 := Y.out.c0
    have y1 := Y.out.c1
    have y2 := Y.out.c2
    have f0 := Y.out.frozen 0
    have f1 := Y.out.frozen 1
    have f2 := Y.out.frozen 2
    have z0 := Y.out.lt
    go_wp2_with fail
    clear y0 y1 y2 f0 f1 f2
    have Z := Lib.hid (Blk.new w1 48 #[.int .i64 r, .int .i64 c, .slice (some ⟨g, 0, none⟩) (r * c).toNat (r * c).toNat])
    replace Y := Lib.hid (Y.out.alloc (.cells #[.int .i64 r, .int .i64 c, .slice (some ⟨g, 0, none⟩) (r * c).toNat (r * c).toNat] 48))
    replace G := Lib.hid (G.out.alloc (.cells #[.int .i64 r, .int .i64 c, .slice (some ⟨g, 0, none⟩) (r * c).toNat (r * c).toNat] 48))
    replace T1 := below_al T1 (.cells #[.int .i64 r, .int .i64 c, .slice (some ⟨g, 0, none⟩) (r * c).toNat (r * c).toNat] 48)
    generalize w1.alloc (.cells #[.int .i64 r, .int .i64 c, .slice (some ⟨g, 0, none⟩) (r * c).toNat (r * c).toNat] 48) = W at *
    have y0 := Y.out.c0
    have y1 := Y.out.c1
    have y2 := Y.out.c2
    have f0 := Y.out.frozen 0
    have f1 := Y.out.frozen 1
    have f2 := Y.out.frozen 2
    have z1 := Y.out.lt
    have x0 := Z.out.c0
    have x1 := Z.out.c1
    have x2 := Z.out.c2
    have z2 := Z.out.lt
    have ne1 : w1.heap.size ≠ w.heap.size := by omega
    have ne2 : w.heap.size ≠ w1.heap.size := by omega
    go_region_held3 (fun w' => w'.cell? ⟨w1.heap.size, 0, none⟩ = some (.int .i64 r) ∧ w'.cell? ⟨w1.heap.size, 1, none⟩ = some (.int .i64 c) ∧ w'.cell? ⟨w1.heap.size, 2, none⟩ = some (.slice (some ⟨g, 0, none⟩) (r * c).toNat (r * c).toNat)) (go_keep) (first | (go_at_call 31; refine (errno_ok _).mono ?_; rintro e w' ⟨rfl, rfl⟩))
    have K := (Y.out.set3 (x := .int .i64 r) (y := .int .i64 c) (z := (.slice (some ⟨g, 0, none⟩) (r * c).toNat (r * c).toNat))).alloc (.cells #[.string ⟨#[]⟩] 65)
    have k0 := K.c0
    have k1 := K.c1
    have k2 := K.c2
    go_wp2_with fail
    refine bodyPost_ret (v := .tuple #[.agg #[.int .i64 r, .int .i64 c, (.slice (some ⟨g, 0, none⟩) (r * c).toNat (r * c).toNat)], .int .i64 0]) (by simp [results, Try.results12, go_sem, k0, k1, k2]) rfl
      ⟨(below_al (below_set3 T1 (Nat.le_refl _) _ _ _) _).drew, (.slice (some ⟨g, 0, none⟩) (r * c).toNat (r * c).toNat), by rw [HR.out], ?_⟩
    rw [HR.out]
    exact (res_stored Y.out (by have := Blk.held (base := w.heap.size) G.out (by omega); rwa [List.length_replicate] at this)).later (below_al (below_0 _) _).drew
  · have HR : Hid (newF r c = (Cm.none, 80)) := by show newF r c = _; rw [newF, if_neg (by simp [hf])]
    replace Y := Lib.hid (Y.out.later hb1)
    have T1 := Below.two DA hb1
    clear hf hb1
    have y0 := Y.out.c0
    have y1 := Y.out.c1
    have y2 := Y.out.c2
    have f0 := Y.out.frozen 0
    have f1 := Y.out.frozen 1
    have f2 := Y.out.frozen 2
    have z0 := Y.out.lt
    go_wp2_with fail
    clear y0 y1 y2 f0 f1 f2
    have Z := Lib.hid (Blk.new w1 48 #[.int .i64 0, .int .i64 0, .slice none 0 0])
    replace Y := Lib.hid (Y.out.alloc (.cells #[.int .i64 0, .int .i64 0, .slice none 0 0] 48))
    replace T1 := below_al T1 (.cells #[.int .i64 0, .int .i64 0, .slice none 0 0] 48)
    generalize w1.alloc (.cells #[.int .i64 0, .int .i64 0, .slice none 0 0] 48) = W at *
    have y0 := Y.out.c0
    have y1 := Y.out.c1
    have y2 := Y.out.c2
    have f0 := Y.out.frozen 0
    have f1 := Y.out.frozen 1
    have f2 := Y.out.frozen 2
    have z1 := Y.out.lt
    have x0 := Z.out.c0
    have x1 := Z.out.c1
    have x2 := Z.out.c2
    have z2 := Z.out.lt
    have ne1 : w1.heap.size ≠ w.heap.size := by omega
    have ne2 : w.heap.size ≠ w1.heap.size := by omega
    go_region_held3 (fun w' => w'.cell? ⟨w1.heap.size, 0, none⟩ = some (.int .i64 0) ∧ w'.cell? ⟨w1.heap.size, 1, none⟩ = some (.int .i64 0) ∧ w'.cell? ⟨w1.heap.size, 2, none⟩ = some (.slice none 0 0)) (go_keep) (first | (go_at_call 31; refine (errno_err s _).mono ?_; rintro e w' ⟨rfl, rfl⟩))
    have K := (Y.out.set3 (x := .int .i64 0) (y := .int .i64 0) (z := (.slice none 0 0))).alloc (.cells #[.string s] 65)
    have k0 := K.c0
    have k1 := K.c1
    have k2 := K.c2
    go_wp2_with fail
    refine bodyPost_ret (v := .tuple #[.agg #[.int .i64 0, .int .i64 0, (.slice none 0 0)], .int .i64 80]) (by simp [results, Try.results12, go_sem, k0, k1, k2]) rfl
      ⟨(below_al (below_set3 T1 (Nat.le_refl _) _ _ _) _).drew, (.slice none 0 0), by rw [HR.out]; rfl, ?_⟩
    rw [HR.out]
    exact (res_stored Y.out (held_nil _ _)).later (below_al (below_0 _) _).drew
theorem rnew_any (r c : Int) (w : World) : Calls Try.prog 13 #[.int .i64 r, .int .i64 c] w (CRes w (newF r c)) := by
  cases hs : shapeB r c with
  | false =>
    have HR : Hid (newF r c = (Cm.none, 80)) := by show newF r c = _; rw [newF, if_neg (by simp [hs])]
    have H := Lib.hid hs
    clear hs
    go_enter Try.func13, Try.ntmps13
    go_wp2_with fail
    refine (is_any r c _).mono ?_
    rintro e w' ⟨rfl, rfl⟩
    rw [H.out]
    go_wp2_with fail
    refine bodyPost_ret (v := .tuple #[.agg #[.int .i64 0, .int .i64 0, .slice none 0 0], .int .i64 80]) (by simp [results, Try.results13, go_sem]) rfl ⟨below_al (below_0 _) _, _, by rw [HR.out]; rfl, ?_⟩
    rw [HR.out]
    exact held_nil _ _
  | true =>
    have HR : Hid (newF r c = (⟨r, c, List.replicate (r * c).toNat 0⟩, 0)) := by show newF r c = _; rw [newF, if_pos hs]
    obtain ⟨R, C, rfl, rfl, b1, b2, b3⟩ := shape_nat hs
    have hm := shape_mul b2 b3
    obtain ⟨i0, hi0, hz0, hz1, hz2⟩ := info_parts Try.infoU64
    have hmk : ∀ W, (Instr.makeSlice 22 (.int .i64 ((R : Int) * (C : Int))) (.int .i64 ((R : Int) * (C : Int)))).run Try.prog W = .ok (.slice (some ⟨W.heap.size, 0, none⟩) (R * C) (R * C)) (W.alloc (.cells (madeCells (Value.int .u64 0).cells (R * C)) 25)) := fun W => by
      have := run_make_n (P := Try.prog) 22 25 i0 (.int .u64 0) Try.underlying22 hi0 hz0 hz1 .i64 .i64 (R * C) (R * C) (Nat.le_refl _) (by rw [hz2]; omega) (by omega) W
      rwa [Int.natCast_mul] at this
    have hm1 : 0 ≤ (R : Int) * (C : Int) := by rw [← Int.natCast_mul]; omega
    have hm2 : (R : Int) * (C : Int) ≤ 128 := by rw [← Int.natCast_mul]; omega
    have H := Lib.hid hs
    clear hs b3
    go_enter Try.func13, Try.ntmps13
    go_wp2_with fail
    refine (is_any _ _ _).mono ?_
    rintro e w' ⟨rfl, rfl⟩
    rw [H.out]
    go_wp2_with fail
    have hn : ((R : Int) * (C : Int)).toNat = R * C := by rw [← Int.natCast_mul, Int.toNat_natCast]
    refine bodyPost_ret (v := .tuple #[.agg #[.int .i64 R, .int .i64 C, .slice (some ⟨w.heap.size + 1, 0, none⟩) (R * C) (R * C)], .int .i64 0]) (by simp [results, Try.results13, go_sem]) rfl
      ⟨below_al (below_al (below_0 _) _) _, _, by rw [HR.out], ?_⟩
    rw [HR.out, hn]
    have h := Blk.new (w.alloc (.cells #[.int .i64 R, .int .i64 C, .slice (some ⟨w.heap.size + 1, 0, none⟩) (R * C) (R * C)] 24)) 25 (madeCells #[.int .u64 0] (R * C))
    rw [World.size_alloc, made_u64] at h
    have h2 := Blk.held (base := w.heap.size) h (Nat.le_succ _)
    rw [List.length_replicate, ← made_u64] at h2
    exact h2
end Go.Proofs.Ythjdonhabenmcaa

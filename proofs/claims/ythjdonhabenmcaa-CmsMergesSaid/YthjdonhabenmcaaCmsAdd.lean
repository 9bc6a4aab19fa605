/-
  The walk of cms.Add.
-/
import Derived.Test.YthjdonhabenmcaaCmsChange
import Derived.Test.YthjdonhabenmcaaCmsFuncs
namespace Go.Proofs.Ythjdonhabenmcaa
open Go.RowKit
set_option linter.unusedVariables false
theorem change_told (X : World) (g R C Bw Bh bn cap : Nat) (h n : Int) (hh : U h) (hn : U n) (l : List Int) (hl : l.length = R * C) (hU : Us l) (hR : R ≤ 4) (hC1 : 1 ≤ C) (hC2 : C ≤ 32) (G : Blk X g 25 (l.map (Value.int .u64)).toArray)
    (hBw : Blk X Bw 48 #[.int .i64 R, .int .i64 C, .slice (some ⟨g, 0, none⟩) l.length cap]) (hBh : Blk X Bh 25 #[.int .u64 h]) (hbn : Blk X bn 25 #[.int .u64 n]) (n1 : Bw ≠ g) (n2 : Bh ≠ g) (n3 : bn ≠ g) :
    Calls Try.prog 34 #[.agg #[.int .i64 R, .int .i64 C, .slice (some ⟨g, 0, none⟩) l.length cap], .func (.func 45) #[] #[.pointer (some ⟨Bw, 0, none⟩), .pointer (some ⟨Bh, 0, none⟩)], .func (.func 36) #[] #[.pointer (some ⟨bn, 0, none⟩)]] X fun e w' => (∃ v, e = .returned v) ∧
      Blk w' g 25 ((chgAll (fun _ o => sat o n) l (places R C h)).map (Value.int .u64)).toArray ∧ X.grownBy w' (some g) := by
  have hm : R * C ≤ 128 := Nat.le_trans (Nat.mul_le_mul hR hC2) (by omega)
  obtain ⟨zs, hzs⟩ := exists_at (N := l.length) (places R C h) (by rw [hl]; exact places_lt hC1 h)
  have := change_any X l.length g cap R R C l rfl hU (by omega) G zs 45 #[.pointer (some ⟨Bw, 0, none⟩), .pointer (some ⟨Bh, 0, none⟩)] (enters_of Try.func45 (by kernel_rfl) rfl)
    (told_stops 5 (by omega) Bw Bh X.heap.size g R C l.length cap l.length (some ⟨g, 0, none⟩) h hh hR hC1 hC2 zs hzs hBw.lt n1 hBh.lt n2 X (Nat.le_refl _) hBw hBh)
    36 #[.pointer (some ⟨bn, 0, none⟩)] (enters_of Try.func36 (by kernel_rfl) rfl) (fun _ o => sat o n) (fun _ o ho => sat_U ho.1 hn.1)
    (fun x o W ho hk => add1_any x.1 o n ho hn bn W (hbn.but hk hbn.lt n3))
  rw [hzs] at this
  exact callsIn_wide.1 this
def addC (x : Cm) (h n : Int) : Cm × Int := if rightC x.r x.c x.l.length = true then (⟨x.r, x.c, chgAll (fun _ o => sat o n) x.l (places x.r.toNat x.c.toNat h)⟩, 0) else (Cm.none, 80)
set_option maxHeartbeats 1000000 in
theorem add_any (r c : Int) (A : Option Addr) (l : List Int) (cap : Nat) (h n : Int) (hh : U h) (hn : U n) (hU : Us l) (w : World) (hS : Sl w w.heap.size A l) :
    Calls Try.prog 14 #[.agg #[.int .i64 r, .int .i64 c, .slice A l.length cap], .int .u64 h, .int .u64 n] w (CRes w (addC ⟨r, c, l⟩ h n)) := by
  have DA : Below w.heap.size w (((w.alloc (.cells #[.int .i64 r, .int .i64 c, .slice A l.length cap] 24)).alloc (.cells #[.int .u64 n] 25)).alloc (.cells #[.int .i64 0, .int .i64 0, .slice none 0 0] 24)) := below_al (below_al (below_al (below_0 _) _) _) _
  have Bn := Lib.hid ((Blk.new (w.alloc (.cells #[.int .i64 r, .int .i64 c, .slice A l.length cap] 24)) 25 #[.int .u64 n]).alloc (.cells #[.int .i64 0, .int .i64 0, .slice none 0 0] 24))
  have Y := Lib.hid (Blk.new ((w.alloc (.cells #[.int .i64 r, .int .i64 c, .slice A l.length cap] 24)).alloc (.cells #[.int .u64 n] 25)) 24 #[.int .i64 0, .int .i64 0, .slice none 0 0])
  have HS := Lib.hid (hS.later DA)
  simp only [World.size_alloc] at Bn Y
  clear hS
  go_enter Try.func14, Try.ntmps14
  go_wp2_with fail
  refine (begin_any r c A l cap _ HS.out).mono ?_
  rintro e w1 ⟨hb1, ⟨hr, g, hg, rfl, hblk⟩ | ⟨hf, s, rfl⟩⟩
  · have HR : Hid (addC ⟨r, c, l⟩ h n = (⟨r, c, chgAll (fun _ o => sat o n) l (places r.toNat c.toNat h)⟩, 0)) := by show addC _ _ _ = _; rw [addC, if_pos hr]
    obtain ⟨hs, hl⟩ := right_of hr
    obtain ⟨R, C, rfl, rfl, q1, q2, q3⟩ := shape_nat hs
    have HL : Hid (l.length = R * C) := by show l.length = _; rw [← Int.natCast_mul] at hl; omega
    have hC1 : 1 ≤ C := by omega
    have hC2 : C ≤ 32 := by omega
    have hg' : w.heap.size + 3 ≤ g := by simpa using hg
    replace Bn := Lib.hid (Bn.out.later hb1)
    replace Y := Lib.hid (Y.out.later hb1)
    have T1 := Below.two DA hb1
    have G := Lib.hid hblk
    clear hblk hb1 hg hl hs hr q3
    go_wp2_with fail
    have Z := Lib.hid (Blk.new w1 48 #[.int .i64 R, .int .i64 C, .slice (some ⟨g, 0, none⟩) l.length l.length])
    replace Bn := Lib.hid (Bn.out.alloc (.cells #[.int .i64 R, .int .i64 C, .slice (some ⟨g, 0, none⟩) l.length l.length] 48))
    replace Y := Lib.hid (Y.out.alloc (.cells #[.int .i64 R, .int .i64 C, .slice (some ⟨g, 0, none⟩) l.length l.length] 48))
    have zg := G.out.lt
    replace G := Lib.hid (G.out.alloc (.cells #[.int .i64 R, .int .i64 C, .slice (some ⟨g, 0, none⟩) l.length l.length] 48))
    replace T1 := below_al T1 (.cells #[.int .i64 R, .int .i64 C, .slice (some ⟨g, 0, none⟩) l.length l.length] 48)
    generalize w1.alloc (.cells #[.int .i64 R, .int .i64 C, .slice (some ⟨g, 0, none⟩) l.length l.length] 48) = W at *
    have x0 := Z.out.c0
    have x1 := Z.out.c1
    have x2 := Z.out.c2
    have z0 := Y.out.lt
    have z1 := Bn.out.lt
    have z2 := Z.out.lt
    have z3 := G.out.lt
    have KC : Hid (∀ X : World, X = (W.drew.alloc (.cells #[.int .i64 R, .int .i64 C, .slice (some ⟨g, 0, none⟩) l.length l.length] 48)).alloc (.cells #[.int .u64 h] 25) → Calls Try.prog 34 #[.agg #[.int .i64 R, .int .i64 C, .slice (some ⟨g, 0, none⟩) l.length l.length], .func (.func 45) #[] #[.pointer (some ⟨W.heap.size, 0, none⟩), .pointer (some ⟨W.heap.size + 1, 0, none⟩)], .func (.func 36) #[] #[.pointer (some ⟨w.heap.size + 1, 0, none⟩)]] X fun e w' => (∃ v, e = .returned v) ∧
        Blk w' g 25 ((chgAll (fun _ o => sat o n) l (places R C h)).map (Value.int .u64)).toArray ∧ X.grownBy w' (some g)) := by
      rintro X rfl
      have b1 := (Blk.new W.drew 48 #[.int .i64 R, .int .i64 C, .slice (some ⟨g, 0, none⟩) l.length l.length]).alloc (.cells #[.int .u64 h] 25)
      have b2 := Blk.new (W.drew.alloc (.cells #[.int .i64 R, .int .i64 C, .slice (some ⟨g, 0, none⟩) l.length l.length] 48)) 25 #[.int .u64 h]
      rw [World.size_alloc] at b2
      exact change_told _ g R C W.heap.size (W.heap.size + 1) (w.heap.size + 1) l.length h n hh hn l HL.out hU q2 hC1 hC2 ((G.out.drew.alloc _).alloc _) b1 b2 ((Bn.out.drew.alloc _).alloc _) (by omega) (by omega) (by omega)
    go_region_held3 (fun w' => w'.cell? ⟨w1.heap.size, 0, none⟩ = some (.int .i64 R) ∧ w'.cell? ⟨w1.heap.size, 1, none⟩ = some (.int .i64 C) ∧ w'.cell? ⟨w1.heap.size, 2, none⟩ = some (.slice (some ⟨g, 0, none⟩) l.length l.length)) (first | go_keep | exact ⟨y0, y1, y2⟩)
      (first
        | (go_at_call 35; refine (told_any _ _ _ _ _ _ _).mono ?_; rintro e w' ⟨rfl, rfl⟩)
        | (go_at_call 34; refine (KC.out _ rfl).mono ?_; rintro e w2 ⟨⟨v, rfl⟩, hG2, hg2⟩; have Z2 := ((Z.out.drew.alloc _).alloc _).grown hg2 (fun e => by cases e; omega); have y0 := Z2.c0; have y1 := Z2.c1; have y2 := Z2.c2; have Y2 := Lib.hid (((Y.out.drew.alloc _).alloc _).grown hg2 (fun e => by cases e; omega)); have T2 : Below w.heap.size w w2 := below_turned (below_al (below_al T1.drew _) _) hg2 (by omega); have G2 := Lib.hid hG2; have f0 := Y2.out.frozen 0; have f1 := Y2.out.frozen 1; have f2 := Y2.out.frozen 2; have u0 := Y2.out.c0; have u1 := Y2.out.c1; have u2 := Y2.out.c2; have ne1 : w1.heap.size ≠ w.heap.size + 1 + 1 := by omega))
    all_goals
      clear hG2 hg2 Z2 KC x0 x1 x2
      have hq2 := Y2.out.lt
      go_wp2_with fail
      have K := Y2.out.set3 (x := .int .i64 R) (y := .int .i64 C) (z := .slice (some ⟨g, 0, none⟩) l.length l.length)
      have k0 := K.c0
      have k1 := K.c1
      have k2 := K.c2
      refine bodyPost_ret (v := .tuple #[.agg #[.int .i64 R, .int .i64 C, .slice (some ⟨g, 0, none⟩) l.length l.length], .int .i64 0]) (by simp [results, Try.results14, go_sem, k0, k1, k2]) rfl
        ⟨below_set3 T2 (by omega) _ _ _, .slice (some ⟨g, 0, none⟩) l.length l.length, by rw [HR.out], ?_⟩
      rw [HR.out, Int.toNat_natCast, Int.toNat_natCast]
      refine res_stored Y2.out ?_
      have := Blk.held (base := w.heap.size) G2.out (by omega)
      rwa [length_chgAll] at this
  · have HR : Hid (addC ⟨r, c, l⟩ h n = (Cm.none, 80)) := by show addC _ _ _ = _; rw [addC, if_neg (by simp [hf])]
    replace Y := Lib.hid (Y.out.later hb1)
    have T1 := Below.two DA hb1
    have z1 := Y.out.lt
    clear hf hb1
    go_wp2_with fail
    refine (errno_err s _).mono ?_
    rintro e w' ⟨rfl, rfl⟩
    replace Y := Lib.hid ((Y.out.alloc (.cells #[.int .i64 0, .int .i64 0, .slice none 0 0] 48)).alloc (.cells #[.string s] 65))
    replace T1 := below_al (below_al T1 (.cells #[.int .i64 0, .int .i64 0, .slice none 0 0] 48)) (.cells #[.string s] 65)
    generalize (w1.alloc (.cells #[.int .i64 0, .int .i64 0, .slice none 0 0] 48)).alloc (.cells #[.string s] 65) = W at *
    have f0 := Y.out.frozen 0
    have f1 := Y.out.frozen 1
    have f2 := Y.out.frozen 2
    have u0 := Y.out.c0
    have u1 := Y.out.c1
    have u2 := Y.out.c2
    go_wp2_with fail
    have K := Y.out.set3 (x := .int .i64 0) (y := .int .i64 0) (z := .slice none 0 0)
    have k0 := K.c0
    have k1 := K.c1
    have k2 := K.c2
    refine bodyPost_ret (v := .tuple #[.agg #[.int .i64 0, .int .i64 0, .slice none 0 0], .int .i64 80]) (by simp [results, Try.results14, go_sem, k0, k1, k2]) rfl
      ⟨below_set3 T1 (by omega) _ _ _, .slice none 0 0, by rw [HR.out]; rfl, ?_⟩
    rw [HR.out]
    exact res_stored Y.out (held_nil _ _)
end Go.Proofs.Ythjdonhabenmcaa

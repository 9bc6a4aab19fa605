/-
  The walk of cms.Lower.
-/
import Derived.Test.YthjdonhabenmcaaCmsMerge
namespace Go.Proofs.Ythjdonhabenmcaa
open Go.RowKit
set_option linter.unusedVariables false
/-- Half as many columns: what each counter comes to. -/
def halfF (H : Nat) (l : List Int) (p : Nat) : Int := sat (nth l (fromF H p)) (nth l (fromF H p + H))
def lowerC (x : Cm) : Cm × Int := if rightC x.r x.c x.l.length = true ∧ x.c ≠ 4 then (⟨x.r, x.c / 2, chgAll (fun p _ => halfF (x.c / 2).toNat x.l p) (List.replicate (x.r * (x.c / 2)).toNat 0) (List.range (x.r * (x.c / 2)).toNat)⟩, 0) else (Cm.none, 80)
theorem us_zeros (n : Nat) : Us (List.replicate n 0) := fun x hx => by rw [List.eq_of_mem_replicate hx]; unfold U; omega
theorem change_all_lower (X : World) (g Bw b bx cap cap2 capx R H n2 : Nat) (l : List Int) (A A2 : Option Addr) (hR : R ≤ 4) (hH : 0 < H) (hH2 : H ≤ 16) (hl : l.length = R * (2 * H)) (hU : Us l) (G : Blk X g 25 ((List.replicate (R * H) (0 : Int)).map (Value.int .u64)).toArray)
    (hBw : Blk X Bw 48 #[.int .i64 R, .int .i64 H, .slice (some ⟨g, 0, none⟩) (R * H) cap]) (hb : Blk X b 48 #[.int .i64 R, .int .i64 H, .slice A2 n2 cap2]) (hbx : Blk X bx 24 #[.int .i64 R, .int .i64 (2 * (H : Int)), .slice A l.length capx])
    (hS : Sl X X.heap.size A l) (hne : ∀ ad, A = some ad → ad.block ≠ g) (n1 : Bw ≠ g) (n2' : b ≠ g) (n3 : bx ≠ g) :
    Calls Try.prog 34 #[.agg #[.int .i64 R, .int .i64 H, .slice (some ⟨g, 0, none⟩) (R * H) cap], .func (.func 46) #[] #[.pointer (some ⟨Bw, 0, none⟩)], .func (.func 43) #[] #[.pointer (some ⟨b, 0, none⟩), .pointer (some ⟨bx, 0, none⟩)]] X fun e w' => (∃ v, e = .returned v) ∧
      Blk w' g 25 ((chgAll (fun p _ => halfF H l p) (List.replicate (R * H) (0 : Int)) (List.range (R * H))).map (Value.int .u64)).toArray ∧ X.grownBy w' (some g) := by
  rw [show 2 * (H : Int) = ((2 * H : Nat) : Int) by omega] at hbx
  have hm : R * H ≤ 64 := Nat.le_trans (Nat.mul_le_mul hR hH2) (by omega)
  obtain ⟨zs, hzs⟩ := exists_at (N := R * H) (List.range (R * H)) (fun p hp => List.mem_range.1 hp)
  have := change_any X (R * H) g cap (R * H) R H (List.replicate (R * H) 0) (by simp) (us_zeros _) (by omega) G zs 46 #[.pointer (some ⟨Bw, 0, none⟩)] (enters_of Try.func46 (by kernel_rfl) rfl)
    (all_stops 5 (by omega) Bw X.heap.size g (R * H) cap R H (some ⟨g, 0, none⟩) zs hzs (by omega) hBw.lt n1 X hBw)
    43 #[.pointer (some ⟨b, 0, none⟩), .pointer (some ⟨bx, 0, none⟩)] (enters_of Try.func43 (by kernel_rfl) rfl) (fun p _ => halfF H l p) (fun p o ho => sat_U (nth_U hU _).1 (nth_U hU _).1)
    (fun x o W ho hk => lower1_any x.1 R H o hH (by omega) hR x.2 b bx A A2 l n2 cap2 capx hU hl W (hb.but hk hb.lt n2') (hbx.but hk hbx.lt n3) (sl_but (n₀ := 0) hS hk hne))
  rw [hzs] at this
  exact callsIn_wide.1 this
theorem lower_bad (r c : Int) (A : Option Addr) (l : List Int) (cap : Nat) (w : World) (hr : rightC r c l.length = false) :
    Calls Try.prog 26 #[.agg #[.int .i64 r, .int .i64 c, .slice A l.length cap]] w (CRes w (lowerC ⟨r, c, l⟩)) := by
  have HR : Hid (lowerC ⟨r, c, l⟩ = (Cm.none, 80)) := by show lowerC _ = _; rw [lowerC, if_neg (by simp [hr])]
  have H := Lib.hid hr
  clear hr
  go_enter Try.func26, Try.ntmps26
  go_wp2_with fail
  refine (right_any r c A l.length cap _).mono ?_
  rintro e w' ⟨rfl, rfl⟩
  rw [H.out]
  go_wp2_with fail
  refine bodyPost_ret (v := .tuple #[.agg #[.int .i64 0, .int .i64 0, .slice none 0 0], .int .i64 80]) (by simp [results, Try.results26, go_sem]) rfl
    ⟨below_al (below_al (below_al (below_0 _) _) _) _, .slice none 0 0, by rw [HR.out]; rfl, ?_⟩
  rw [HR.out]
  exact held_nil _ _
section
variable (r c : Int) (A : Option Addr) (l : List Int) (cap : Nat) (w : World)
abbrev lowerW : World := ((w.alloc (.cells #[.int .i64 r, .int .i64 c, .slice A l.length cap] 24)).alloc (.cells #[.int .i64 0, .int .i64 0, .slice none 0 0] 24)).alloc (.cells #[.int .i64 r, .int .i64 c, .slice A l.length cap] 24)
theorem lowerW_below : Below w.heap.size w (lowerW r c A l cap w) := below_al (below_al (below_al (below_0 _) _) _) _
theorem lowerW_x : Blk (lowerW r c A l cap w) w.heap.size 24 #[.int .i64 r, .int .i64 c, .slice A l.length cap] := ((Blk.new w _ _).alloc _).alloc _
theorem lowerW_r : Blk (lowerW r c A l cap w) (w.heap.size + 1) 24 #[.int .i64 0, .int .i64 0, .slice none 0 0] := by
  have h := (Blk.new (w.alloc (.cells #[.int .i64 r, .int .i64 c, .slice A l.length cap] 24)) 24 #[.int .i64 0, .int .i64 0, .slice none 0 0]).alloc (.cells #[.int .i64 r, .int .i64 c, .slice A l.length cap] 24)
  rwa [World.size_alloc] at h
end
set_option maxHeartbeats 1000000 in
theorem lower_four (r : Int) (A : Option Addr) (l : List Int) (cap : Nat) (w : World) (hr : rightC r 4 l.length = true) :
    Calls Try.prog 26 #[.agg #[.int .i64 r, .int .i64 4, .slice A l.length cap]] w (CRes w (lowerC ⟨r, 4, l⟩)) := by
  have HR : Hid (lowerC ⟨r, 4, l⟩ = (Cm.none, 80)) := by show lowerC _ = _; rw [lowerC, if_neg (by simp)]
  have DA := lowerW_below r 4 A l cap w
  have Y := Lib.hid (lowerW_r r 4 A l cap w)
  have H := Lib.hid hr
  clear hr
  go_enter Try.func26, Try.ntmps26
  go_wp2_with fail
  refine (right_any r 4 A l.length cap _).mono ?_
  rintro e w' ⟨rfl, rfl⟩
  rw [H.out]
  go_wp2_with fail
  refine (blank_any r 2 _).mono ?_
  rintro e w1 ⟨hb1, ⟨hs, _⟩ | ⟨hf, s, rfl⟩⟩
  · simp [shapeB] at hs
  · replace Y := Lib.hid (Y.out.later hb1)
    have T1 := Below.two DA hb1
    have z1 := Y.out.lt
    clear hf hb1
    go_wp2_with fail
    refine (errno_err s _).mono ?_
    rintro e w' ⟨rfl, rfl⟩
    replace Y := Lib.hid ((Y.out.alloc (.cells #[.int .i64 0, .int .i64 0, .slice none 0 0] 48)).alloc (.cells #[.string s] 65))
    replace T1 := below_al (below_al T1 (.cells #[.int .i64 0, .int .i64 0, .slice none 0 0] 48)) (.cells #[.string s] 65)
    generalize (w1.alloc (.cells #[.int .i64 0, .int .i64 0, .slice none 0 0] 48)).alloc (.cells #[.string s] 65) = W at *
    have f0 := Y.out.frozen 0
    have f1 := Y.out.frozen 1
    have f2 := Y.out.frozen 2
    have u0 := Y.out.c0
    have u1 := Y.out.c1
    have u2 := Y.out.c2
    go_wp2_with fail
    have K := Y.out.set3 (x := .int .i64 0) (y := .int .i64 0) (z := .slice none 0 0)
    have k0 := K.c0
    have k1 := K.c1
    have k2 := K.c2
    refine bodyPost_ret (v := .tuple #[.agg #[.int .i64 0, .int .i64 0, .slice none 0 0], .int .i64 80]) (by simp [results, Try.results26, go_sem, k0, k1, k2]) rfl
      ⟨below_set3 T1 (by omega) _ _ _, .slice none 0 0, by rw [HR.out]; rfl, ?_⟩
    rw [HR.out]
    exact res_stored Y.out (held_nil _ _)
set_option maxHeartbeats 1000000 in
theorem lower_good (R H : Nat) (A : Option Addr) (l : List Int) (cap : Nat) (hU : Us l) (w : World) (hS : Sl w w.heap.size A l) (hr : rightC R (2 * (H : Int)) l.length = true) (h4 : H ≠ 2) :
    Calls Try.prog 26 #[.agg #[.int .i64 R, .int .i64 (2 * (H : Int)), .slice A l.length cap]] w (CRes w (lowerC ⟨R, (2 * (H : Int)), l⟩)) := by
  obtain ⟨q1, q2, q3⟩ := shape_of (right_of hr).1
  have hsh : shapeB R H = true := by simp [shapeB]; omega
  have hl : l.length = R * (2 * H) := by
    have := (right_of hr).2
    rw [show (R : Int) * (2 * (H : Int)) = ((R * (2 * H) : Nat) : Int) by simp] at this
    omega
  have hd : (2 * (H : Int)) / 2 = (H : Int) := by omega
  have hn : ((R : Int) * (H : Int)).toNat = R * H := by rw [← Int.natCast_mul, Int.toNat_natCast]
  have HR : Hid (lowerC ⟨R, (2 * (H : Int)), l⟩ = (⟨R, H, chgAll (fun p _ => halfF H l p) (List.replicate (R * H) 0) (List.range (R * H))⟩, 0)) := by
    show lowerC _ = _
    rw [lowerC, if_pos ⟨hr, by show (2 * (H : Int)) ≠ 4; omega⟩]
    simp only [hd, hn, Int.toNat_natCast]
  have q4 : R ≤ 4 := by omega
  have q5 : 0 < H := by omega
  have q6 : H ≤ 16 := by omega
  have DA := lowerW_below R (2 * (H : Int)) A l cap w
  have Y := Lib.hid (lowerW_r R (2 * (H : Int)) A l cap w)
  have X := Lib.hid (lowerW_x R (2 * (H : Int)) A l cap w)
  have HS := Lib.hid (hS.later DA)
  have hpos : l ≠ [] := by
    intro e
    rw [e] at hl
    have : 0 < R * (2 * H) := Nat.mul_pos (by omega) (by omega)
    simp at hl
    omega
  have HNB : Hid (∀ ad, A = some ad → ad.block < w.heap.size) := fun ad e => by
    obtain ⟨b, off, e', hb, _⟩ := hS (by simpa using hpos)
    rw [e'] at e; cases e; exact hb
  have HL := Lib.hid hl
  have HH := Lib.hid hr
  have HN := Lib.hid hn
  have HSH := Lib.hid hsh
  clear hr hl hd hn hS hpos q1 q2 q3 hsh
  go_enter Try.func26, Try.ntmps26
  go_wp2_with fail
  refine (right_any _ _ A l.length cap _).mono ?_
  rintro e w' ⟨rfl, rfl⟩
  rw [HH.out]
  go_wp2_with fail
  refine (blank_any R H _).mono ?_
  rintro e w1 ⟨hb1, ⟨_, g, hg, rfl, hblk⟩ | ⟨hf, _⟩⟩
  rotate_left
  · rw [HSH.out] at hf; cases hf
  rw [HN.out] at hblk ⊢
  have YY := Y.out.later hb1
  have z0 := YY.lt
  clear YY
  replace X := Lib.hid ((X.out.later hb1).alloc (.cells #[.int .i64 R, .int .i64 H, .slice (some ⟨g, 0, none⟩) (R * H) (R * H)] 48))
  replace Y := Lib.hid ((Y.out.later hb1).alloc (.cells #[.int .i64 R, .int .i64 H, .slice (some ⟨g, 0, none⟩) (R * H) (R * H)] 48))
  have G := Lib.hid (Blk.alloc hblk (.cells #[.int .i64 R, .int .i64 H, .slice (some ⟨g, 0, none⟩) (R * H) (R * H)] 48))
  have Z := Lib.hid (Blk.new w1 48 #[.int .i64 R, .int .i64 H, .slice (some ⟨g, 0, none⟩) (R * H) (R * H)])
  replace HS := Lib.hid ((HS.out.later hb1).later (below_al (below_0 _) (.cells #[.int .i64 R, .int .i64 H, .slice (some ⟨g, 0, none⟩) (R * H) (R * H)] 48)))
  have T1 := below_al (Below.two DA hb1) (.cells #[.int .i64 R, .int .i64 H, .slice (some ⟨g, 0, none⟩) (R * H) (R * H)] 48)
  have hg' : w.heap.size + 3 ≤ g := by simpa using hg
  have hgw : g < w1.heap.size := heap_lt hblk
  clear hblk hb1 hg
  go_wp2_with fail
  generalize w1.alloc (.cells #[.int .i64 R, .int .i64 H, .slice (some ⟨g, 0, none⟩) (R * H) (R * H)] 48) = W2 at *
  have x0 := Z.out.c0
  have x1 := Z.out.c1
  have x2 := Z.out.c2
  have z1 := Y.out.lt
  have z2 := Z.out.lt
  have z3 := G.out.lt
  have HNE : Hid (∀ ad, A = some ad → ad.block ≠ g) := fun ad e => by have := HNB.out ad e; omega
  have KC : Hid (∀ V : World, V = W2.drew.alloc (.cells #[.int .i64 R, .int .i64 H, .slice (some ⟨g, 0, none⟩) (R * H) (R * H)] 48) → Calls Try.prog 34 #[.agg #[.int .i64 R, .int .i64 H, .slice (some ⟨g, 0, none⟩) (R * H) (R * H)], .func (.func 46) #[] #[.pointer (some ⟨W2.heap.size, 0, none⟩)], .func (.func 43) #[] #[.pointer (some ⟨w1.heap.size, 0, none⟩), .pointer (some ⟨w.heap.size, 0, none⟩)]] V fun e w' => (∃ v, e = .returned v) ∧
      Blk w' g 25 ((chgAll (fun p _ => halfF H l p) (List.replicate (R * H) (0 : Int)) (List.range (R * H))).map (Value.int .u64)).toArray ∧ V.grownBy w' (some g)) := by
    rintro V rfl
    exact change_all_lower _ g W2.heap.size w1.heap.size w.heap.size (R * H) (R * H) cap R H (R * H) l A (some ⟨g, 0, none⟩) q4 q5 q6 HL.out hU (G.out.drew.alloc _) (Blk.new W2.drew _ _) (Z.out.drew.alloc _) (X.out.drew.alloc _) (HS.out.later (below_al (below_0 W2).drew _)) HNE.out (by omega) (by omega) (by omega)
  go_region_held3 (fun w' => w'.cell? ⟨w1.heap.size, 0, none⟩ = some (.int .i64 R) ∧ w'.cell? ⟨w1.heap.size, 1, none⟩ = some (.int .i64 H) ∧ w'.cell? ⟨w1.heap.size, 2, none⟩ = some (.slice (some ⟨g, 0, none⟩) (R * H) (R * H))) (first | go_keep | exact ⟨y0, y1, y2⟩)
    (first
      | (go_at_call 41; refine (all_any _ _ _ _ _ _).mono ?_; rintro e w' ⟨rfl, rfl⟩)
      | (go_at_call 34; refine (KC.out _ rfl).mono ?_; rintro e w2 ⟨⟨v, rfl⟩, hG2, hg2⟩; have Z2 := (Z.out.drew.alloc _).grown hg2 (fun e => by cases e; omega); have y0 := Z2.c0; have y1 := Z2.c1; have y2 := Z2.c2; have Y2 := Lib.hid ((Y.out.drew.alloc _).grown hg2 (fun e => by cases e; omega)); have T2 : Below w.heap.size w w2 := below_turned (below_al T1.drew _) hg2 (by omega); have G2 := Lib.hid hG2; have f0 := Y2.out.frozen 0; have f1 := Y2.out.frozen 1; have f2 := Y2.out.frozen 2; have u0 := Y2.out.c0; have u1 := Y2.out.c1; have u2 := Y2.out.c2; have ne1 : w1.heap.size ≠ w.heap.size + 1 := by omega))
  all_goals
    clear hG2 hg2 Z2 KC x0 x1 x2
    have hq2 := Y2.out.lt
    go_wp2_with fail
    have K := Y2.out.set3 (x := .int .i64 R) (y := .int .i64 H) (z := .slice (some ⟨g, 0, none⟩) (R * H) (R * H))
    have k0 := K.c0
    have k1 := K.c1
    have k2 := K.c2
    refine bodyPost_ret (v := .tuple #[.agg #[.int .i64 R, .int .i64 H, .slice (some ⟨g, 0, none⟩) (R * H) (R * H)], .int .i64 0]) (by simp [results, Try.results26, go_sem, k0, k1, k2]) rfl
      ⟨below_set3 T2 (by omega) _ _ _, .slice (some ⟨g, 0, none⟩) (R * H) (R * H), by rw [HR.out], ?_⟩
    rw [HR.out]
    refine res_stored Y2.out ?_
    have := Blk.held (base := w.heap.size) G2.out (by omega)
    rwa [length_chgAll, List.length_replicate] at this
theorem lower_any (r c : Int) (A : Option Addr) (l : List Int) (cap : Nat) (hU : Us l) (w : World) (hS : Sl w w.heap.size A l) :
    Calls Try.prog 26 #[.agg #[.int .i64 r, .int .i64 c, .slice A l.length cap]] w (CRes w (lowerC ⟨r, c, l⟩)) := by
  cases hr : rightC r c l.length with
  | false => exact lower_bad r c A l cap w hr
  | true =>
    by_cases h4 : c = 4
    · subst h4; exact lower_four r A l cap w hr
    · obtain ⟨q1, q2, q3⟩ := shape_of (right_of hr).1
      obtain ⟨R, rfl⟩ : ∃ R : Nat, r = R := ⟨r.toNat, by omega⟩
      obtain ⟨H, rfl⟩ : ∃ H : Nat, c = 2 * (H : Int) := ⟨(c / 2).toNat, by omega⟩
      exact lower_good R H A l cap hU w hS hr (by omega)
end Go.Proofs.Ythjdonhabenmcaa

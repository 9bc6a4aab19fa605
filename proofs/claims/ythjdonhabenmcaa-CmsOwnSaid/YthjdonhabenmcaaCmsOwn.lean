/-
  The walk of the law aviarylaw08.CmsOwn: call by call, each callee by its contract.
-/
import Derived.Test.YthjdonhabenmcaaCmsShown
import Derived.Test.YthjdonhabenmcaaCmsLaws2
namespace Go.Proofs.Ythjdonhabenmcaa
open Go.RowKit
set_option linter.unusedVariables false
theorem least_le' {L : List Int} {ps : List Nat} {p : Nat} (hp : p ∈ ps) : least L ps ≤ nth L p := by
  have key : ∀ (ps : List Nat) (a : Int), ps.foldl (fun a p => min a (nth L p)) a ≤ a ∧ ∀ p ∈ ps, ps.foldl (fun a p => min a (nth L p)) a ≤ nth L p := by
    intro ps
    induction ps with
    | nil => exact fun a => ⟨Int.le_refl _, fun p hp => by simp at hp⟩
    | cons q ps ih =>
      intro a
      obtain ⟨h1, h2⟩ := ih (min a (nth L q))
      rw [List.foldl_cons]
      refine ⟨by omega, fun p hp => ?_⟩
      rcases List.mem_cons.1 hp with rfl | hp
      · omega
      · exact h2 p hp
  exact (key ps _).2 p hp
/-- The law CmsOwn, in plain words. -/
theorem own_law {r c : Int} {l : List (Int × Int)} (hU : UI l) (h0 : (ofC r c l).2 = 0) (h : Int) :
    (newF r c).2 = 0 ∧ (mergeC (ofC r c l).1 (newF r c).1).2 = 0 ∧ (addC (ofC r c l).1 h 0).2 = 0 ∧ countC (newF r c).1 h = 0 ∧
    0 < (ofC r c l).1.l.length ∧ 0 < (newF r c).1.l.length ∧ 0 < (mergeC (ofC r c l).1 (newF r c).1).1.l.length ∧ 0 < (addC (ofC r c l).1 h 0).1.l.length := by
  have hs := ofC_shape h0
  obtain ⟨R, C, rfl, rfl, q1, q2, q3⟩ := shape_nat hs
  have hC : 0 < C := by omega
  have hpos : 0 < R * C := Nat.mul_pos (by omega) hC
  obtain ⟨L, e, hL, hn⟩ := ofC_ok hs l hU
  have hn0 : ((R : Int) * (C : Int)).toNat = R * C := by rw [← Int.natCast_mul, Int.toNat_natCast]
  rw [e, newF_ok hs, hn0]
  obtain ⟨N, e2, hN, hnN⟩ := mergeC_ok (M := List.replicate (R * C) 0) hs hL (by simp)
  simp only [e2, addC, if_pos (rightC_self hs hL)]
  refine ⟨trivial, trivial, trivial, ?_, by omega, by simpa using hpos, by omega, by rw [length_chgAll]; omega⟩
  rw [countC_ok hs (by simp)]
  have hp : place C h 0 ∈ places R C h := List.mem_map.2 ⟨0, List.mem_range.2 (by omega), rfl⟩
  have h1 := least_le' (L := List.replicate (R * C) 0) hp
  have h2 := (least_U (us_zeros (R * C)) (places R C h)).1
  rw [nth_zeros] at h1
  omega
theorem fresh_other {w w' : World} {base g : Nat} {A : Option Addr} (h : Fresh w base A) (hg : w.grownBy w' (some g)) (hne : ∀ ad, A = some ad → ad.block ≠ g) : Fresh w' base A := fun ad e => by
  obtain ⟨h1, cs, t, h2⟩ := h ad e
  exact ⟨h1, cs, t, (hg.block _ (heap_lt h2) (fun e' => hne ad e (by injection e'))).trans h2⟩
/-- While a list is written over: one block alone has turned, its cells are there. -/
def OwnI (V : World) (b o n : Nat) (wr : World) : Prop := V.grownBy wr (some b) ∧ (∀ j, j < n → ∃ v, wr.cell? ⟨b, o + j, none⟩ = some v) ∧ ∀ j, wr.frozen? ⟨b, j, none⟩ = false
theorem OwnI.start {V : World} {b o base : Nat} {l : List Int} (hS : Sl V V.heap.size (some ⟨b, o, none⟩) l) (hF : Fresh V base (some ⟨b, o, none⟩)) : OwnI V b o l.length V := by
  refine ⟨World.grownBy.refl _ _, fun j hj => ?_, fun j => hF.frozen j⟩
  obtain ⟨b', o', e, _, hc⟩ := hS.at_ (by omega)
  cases e
  exact ⟨_, hc j hj⟩
theorem OwnI.step {V wr : World} {b o n k : Nat} (h : OwnI V b o n wr) (v : Value) (hk : k < n) : OwnI V b o n (wr.setCell ⟨b, o + k, none⟩ v) := by
  obtain ⟨h1, h2, h3⟩ := h
  refine ⟨grow_trans h1 (grow_set1 wr b (o + k) v), fun j hj => ?_, fun j => by rw [World.frozen?_setCell]; exact h3 j⟩
  obtain ⟨u, hu⟩ := h2 j hj
  by_cases e : j = k
  · subst e; exact ⟨v, World.cell?_setCell_same' _ _ _ (by rw [hu]; rfl)⟩
  · exact ⟨u, (World.cell?_setCell_other _ _ _ _ (fun e' => e (by injection e' with _ e2; omega))).trans hu⟩
set_option maxHeartbeats 4000000 in
theorem own_walk (w : World) (rows cols h : Int) (nl capl : Nat) (al : Option Addr) (l : List (Int × Int)) (hU : UI l) (hh : U h) (hsl : Si w w.heap.size al l)
    (hk : (if (100 : Int) < (nl : Int) then (100 : Int) else (nl : Int)) = (l.length : Int)) (hq : l.length ≤ capl) (hm : capl ≤ 9223372036854775807) (h100 : l.length ≤ 100) :
    Calls Try.prog 4 #[.int .i64 rows, .int .i64 cols, .slice al nl capl, .int .u64 h] w fun e w' => e = .returned (.bool true) ∧ Below w.heap.size w w' := by
  have T := below_0 w
  have SL := Lib.hid hsl
  clear hsl
  go_enter Try.func4, Try.ntmps4
  go_wp2_with fail
  refine (shown_any _).mono ?_
  rintro e w90 ⟨rfl, hb90⟩
  have sz90 : w.heap.size ≤ w90.heap.size := hb90.size
  replace SL := Lib.hid (SL.out.later hb90)
  replace T := Below.two T hb90
  clear hb90
  go_wp2_with fail
  clear hk
  refine (of_any rows cols al l capl hU (by omega) _ SL.out).mono ?_
  rintro e w1 ⟨hb1, v1, rfl, hh1⟩
  obtain ⟨A1, c1, rfl, hc1, hA1, hS1, hF1⟩ := hh1
  have sz1 : w90.heap.size ≤ w1.heap.size := hb1.size
  replace SL := Lib.hid (SL.out.later hb1)
  replace T := Below.two T hb1
  obtain ⟨x1, hx1⟩ : ∃ x, ofC rows cols l = x := ⟨_, rfl⟩
  rw [hx1] at hS1 hc1 ⊢
  have HX1 := Lib.hid hx1
  clear hx1
  have S1 := Lib.hid hS1
  have F1 := Lib.hid hF1
  clear hS1 hF1 hA1 hb1
  by_cases he1 : ¬ x1.2 = 0
  · have d1 : (x1.2 != 0) = true := by simp [he1]
    clear he1
    go_wp2_with fail
    go_ret
    exact ⟨rfl, below_al T _⟩
  replace he1 := Classical.not_not.1 he1
  have d1 : (x1.2 != 0) = false := by simp [he1]
  have HE1 := Lib.hid he1
  clear he1
  go_wp2_with fail
  clear d1
  have X1 := Lib.hid (Blk.new w1 24 #[.int .i64 x1.1.r, .int .i64 x1.1.c, .slice A1 x1.1.l.length c1])
  replace SL := Lib.hid (SL.out.later (below_al (below_0 _) (.cells #[.int .i64 x1.1.r, .int .i64 x1.1.c, .slice A1 x1.1.l.length c1] 24)))
  replace S1 := Lib.hid (S1.out.later (below_al (below_0 _) (.cells #[.int .i64 x1.1.r, .int .i64 x1.1.c, .slice A1 x1.1.l.length c1] 24)))
  replace F1 := Lib.hid (F1.out.later (below_al (below_0 _) (.cells #[.int .i64 x1.1.r, .int .i64 x1.1.c, .slice A1 x1.1.l.length c1] 24)))
  replace T := below_al T (.cells #[.int .i64 x1.1.r, .int .i64 x1.1.c, .slice A1 x1.1.l.length c1] 24)
  generalize w1.alloc (.cells #[.int .i64 x1.1.r, .int .i64 x1.1.c, .slice A1 x1.1.l.length c1] 24) = V1 at *
  have sy1 : w1.heap.size < V1.heap.size := X1.out.lt
  obtain ⟨p2, p3, p4, p5, n1, n2, n3, n4⟩ := own_law hU (by rw [HX1.out]; exact HE1.out) h
  rw [HX1.out] at p3 p4 n1 n3 n4
  have U1 : Us x1.1.l := by rw [← HX1.out]; exact ofC_us _ _ hU
  have P2 := Lib.hid p2
  have P3 := Lib.hid p3
  have P4 := Lib.hid p4
  have P5 := Lib.hid p5
  have N2 := Lib.hid n2
  have N3 := Lib.hid n3
  have N4 := Lib.hid n4
  clear p2 p3 p4 p5 n2 n3 n4
  obtain ⟨b1, o1, ea1, lb1, hcu1⟩ := S1.out.at_ n1
  clear hcu1
  have HA1 := Lib.hid ea1
  clear ea1
  obtain ⟨n5, hn5⟩ : ∃ n, countC x1.1 h = n := ⟨_, rfl⟩
  refine (count_any x1.1.r x1.1.c A1 x1.1.l c1 h hh U1 _ S1.out).mono ?_
  rintro e w5 ⟨rfl, hb5⟩
  rw [show countC ⟨x1.1.r, x1.1.c, x1.1.l⟩ h = n5 from hn5]
  have sz5 : V1.heap.size ≤ w5.heap.size := hb5.size
  replace SL := Lib.hid (SL.out.later hb5)
  replace S1 := Lib.hid (S1.out.later hb5)
  replace F1 := Lib.hid (F1.out.later hb5)
  replace X1 := Lib.hid (X1.out.later hb5)
  replace T := Below.two T hb5
  clear hb5
  have k0X1 := X1.out.c0
  have k1X1 := X1.out.c1
  have k2X1 := X1.out.c2
  have kzX1 := X1.out.lt
  go_wp2_with fail
  refine (new_any rows cols _).mono ?_
  rintro e w2 ⟨hb2, v2, rfl, hh2⟩
  obtain ⟨A2, c2, rfl, hc2, hA2, hS2, hF2⟩ := hh2
  clear k0X1 k1X1 k2X1 kzX1
  have sz2 : w5.heap.size ≤ w2.heap.size := hb2.size
  replace SL := Lib.hid (SL.out.later hb2)
  replace S1 := Lib.hid (S1.out.later hb2)
  replace F1 := Lib.hid (F1.out.later hb2)
  replace X1 := Lib.hid (X1.out.later hb2)
  replace T := Below.two T hb2
  obtain ⟨x2, hx2⟩ : ∃ x, newF rows cols = x := ⟨_, rfl⟩
  rw [hx2] at hS2 hc2 ⊢
  have HX2 := Lib.hid hx2
  clear hx2
  have S2 := Lib.hid hS2
  have F2 := Lib.hid hF2
  clear hS2 hF2 hA2 hb2
  have k0X1 := X1.out.c0
  have k1X1 := X1.out.c1
  have k2X1 := X1.out.c2
  have kzX1 := X1.out.lt
  go_wp2_with fail
  clear k0X1 k1X1 k2X1 kzX1
  have X2 := Lib.hid (Blk.new w2 24 #[.int .i64 x2.1.r, .int .i64 x2.1.c, .slice A2 x2.1.l.length c2])
  replace SL := Lib.hid (SL.out.later (below_al (below_0 _) (.cells #[.int .i64 x2.1.r, .int .i64 x2.1.c, .slice A2 x2.1.l.length c2] 24)))
  replace S1 := Lib.hid (S1.out.later (below_al (below_0 _) (.cells #[.int .i64 x2.1.r, .int .i64 x2.1.c, .slice A2 x2.1.l.length c2] 24)))
  replace S2 := Lib.hid (S2.out.later (below_al (below_0 _) (.cells #[.int .i64 x2.1.r, .int .i64 x2.1.c, .slice A2 x2.1.l.length c2] 24)))
  replace F1 := Lib.hid (F1.out.later (below_al (below_0 _) (.cells #[.int .i64 x2.1.r, .int .i64 x2.1.c, .slice A2 x2.1.l.length c2] 24)))
  replace F2 := Lib.hid (F2.out.later (below_al (below_0 _) (.cells #[.int .i64 x2.1.r, .int .i64 x2.1.c, .slice A2 x2.1.l.length c2] 24)))
  replace X1 := Lib.hid (X1.out.alloc (.cells #[.int .i64 x2.1.r, .int .i64 x2.1.c, .slice A2 x2.1.l.length c2] 24))
  replace T := below_al T (.cells #[.int .i64 x2.1.r, .int .i64 x2.1.c, .slice A2 x2.1.l.length c2] 24)
  generalize w2.alloc (.cells #[.int .i64 x2.1.r, .int .i64 x2.1.c, .slice A2 x2.1.l.length c2] 24) = V2 at *
  have sy2 : w2.heap.size < V2.heap.size := X2.out.lt
  rw [HX2.out] at P2 P3 P5 N2 N3
  have n2 := N2.out
  have U2 : Us x2.1.l := by rw [← HX2.out]; exact newF_us _ _
  obtain ⟨b2, o2, ea2, lb2, hcu2⟩ := S2.out.at_ n2
  clear hcu2
  have HA2 := Lib.hid ea2
  clear ea2
  refine (merge_any x1.1.r x1.1.c x2.1.r x2.1.c A1 A2 x1.1.l x2.1.l c1 c2 _ S1.out S2.out U1 U2).mono ?_
  rintro e w3 ⟨hb3, v3, rfl, hh3⟩
  obtain ⟨A3, c3, rfl, hc3, hA3, hS3, hF3⟩ := hh3
  have sz3 : V2.heap.size ≤ w3.heap.size := hb3.size
  replace SL := Lib.hid (SL.out.later hb3)
  replace S1 := Lib.hid (S1.out.later hb3)
  replace S2 := Lib.hid (S2.out.later hb3)
  replace F1 := Lib.hid (F1.out.later hb3)
  replace F2 := Lib.hid (F2.out.later hb3)
  replace X1 := Lib.hid (X1.out.later hb3)
  replace X2 := Lib.hid (X2.out.later hb3)
  replace T := Below.two T hb3
  obtain ⟨x3, hx3⟩ : ∃ x, mergeC x1.1 x2.1 = x := ⟨_, rfl⟩
  rw [hx3] at hS3 hc3 ⊢
  have HX3 := Lib.hid hx3
  clear hx3
  have S3 := Lib.hid hS3
  have F3 := Lib.hid hF3
  clear hS3 hF3 hA3 hb3
  have k0X1 := X1.out.c0
  have k1X1 := X1.out.c1
  have k2X1 := X1.out.c2
  have kzX1 := X1.out.lt
  have k0X2 := X2.out.c0
  have k1X2 := X2.out.c1
  have k2X2 := X2.out.c2
  have kzX2 := X2.out.lt
  go_wp2_with fail
  clear k0X1 k1X1 k2X1 kzX1 k0X2 k1X2 k2X2 kzX2
  have X3 := Lib.hid (Blk.new w3 24 #[.int .i64 x3.1.r, .int .i64 x3.1.c, .slice A3 x3.1.l.length c3])
  replace SL := Lib.hid (SL.out.later (below_al (below_0 _) (.cells #[.int .i64 x3.1.r, .int .i64 x3.1.c, .slice A3 x3.1.l.length c3] 24)))
  replace S1 := Lib.hid (S1.out.later (below_al (below_0 _) (.cells #[.int .i64 x3.1.r, .int .i64 x3.1.c, .slice A3 x3.1.l.length c3] 24)))
  replace S2 := Lib.hid (S2.out.later (below_al (below_0 _) (.cells #[.int .i64 x3.1.r, .int .i64 x3.1.c, .slice A3 x3.1.l.length c3] 24)))
  replace S3 := Lib.hid (S3.out.later (below_al (below_0 _) (.cells #[.int .i64 x3.1.r, .int .i64 x3.1.c, .slice A3 x3.1.l.length c3] 24)))
  replace F1 := Lib.hid (F1.out.later (below_al (below_0 _) (.cells #[.int .i64 x3.1.r, .int .i64 x3.1.c, .slice A3 x3.1.l.length c3] 24)))
  replace F2 := Lib.hid (F2.out.later (below_al (below_0 _) (.cells #[.int .i64 x3.1.r, .int .i64 x3.1.c, .slice A3 x3.1.l.length c3] 24)))
  replace F3 := Lib.hid (F3.out.later (below_al (below_0 _) (.cells #[.int .i64 x3.1.r, .int .i64 x3.1.c, .slice A3 x3.1.l.length c3] 24)))
  replace X1 := Lib.hid (X1.out.alloc (.cells #[.int .i64 x3.1.r, .int .i64 x3.1.c, .slice A3 x3.1.l.length c3] 24))
  replace X2 := Lib.hid (X2.out.alloc (.cells #[.int .i64 x3.1.r, .int .i64 x3.1.c, .slice A3 x3.1.l.length c3] 24))
  replace T := below_al T (.cells #[.int .i64 x3.1.r, .int .i64 x3.1.c, .slice A3 x3.1.l.length c3] 24)
  generalize w3.alloc (.cells #[.int .i64 x3.1.r, .int .i64 x3.1.c, .slice A3 x3.1.l.length c3] 24) = V3 at *
  have sy3 : w3.heap.size < V3.heap.size := X3.out.lt
  have L1 : x1.1.l.length ≤ 128 := by rw [← HX1.out]; exact ofC_len _ _ _
  have L3 : x3.1.l.length ≤ 128 := by rw [← HX3.out]; exact Nat.le_trans (mergeC_len _ _) L1
  rw [HX3.out] at P3 N3
  have n3 := N3.out
  obtain ⟨b3, o3, ea3, lb3, hcu3⟩ := S3.out.at_ n3
  clear hcu3
  have HA3 := Lib.hid ea3
  clear ea3
  refine (add_any x1.1.r x1.1.c A1 x1.1.l c1 h 0 hh (by unfold U; omega) U1 _ S1.out).mono ?_
  rintro e w4 ⟨hb4, v4, rfl, hh4⟩
  obtain ⟨A4, c4, rfl, hc4, hA4, hS4, hF4⟩ := hh4
  have sz4 : V3.heap.size ≤ w4.heap.size := hb4.size
  replace SL := Lib.hid (SL.out.later hb4)
  replace S1 := Lib.hid (S1.out.later hb4)
  replace S2 := Lib.hid (S2.out.later hb4)
  replace S3 := Lib.hid (S3.out.later hb4)
  replace F1 := Lib.hid (F1.out.later hb4)
  replace F2 := Lib.hid (F2.out.later hb4)
  replace F3 := Lib.hid (F3.out.later hb4)
  replace X1 := Lib.hid (X1.out.later hb4)
  replace X2 := Lib.hid (X2.out.later hb4)
  replace X3 := Lib.hid (X3.out.later hb4)
  replace T := Below.two T hb4
  obtain ⟨x4, hx4⟩ : ∃ x, addC x1.1 h 0 = x := ⟨_, rfl⟩
  rw [hx4] at hS4 hc4 ⊢
  have HX4 := Lib.hid hx4
  clear hx4
  have S4 := Lib.hid hS4
  have F4 := Lib.hid hF4
  clear hS4 hF4 hA4 hb4
  have k0X1 := X1.out.c0
  have k1X1 := X1.out.c1
  have k2X1 := X1.out.c2
  have kzX1 := X1.out.lt
  have k0X2 := X2.out.c0
  have k1X2 := X2.out.c1
  have k2X2 := X2.out.c2
  have kzX2 := X2.out.lt
  have k0X3 := X3.out.c0
  have k1X3 := X3.out.c1
  have k2X3 := X3.out.c2
  have kzX3 := X3.out.lt
  go_wp2_with fail
  clear k0X1 k1X1 k2X1 kzX1 k0X2 k1X2 k2X2 kzX2 k0X3 k1X3 k2X3 kzX3
  have X4 := Lib.hid (Blk.new w4 24 #[.int .i64 x4.1.r, .int .i64 x4.1.c, .slice A4 x4.1.l.length c4])
  replace SL := Lib.hid (SL.out.later (below_al (below_0 _) (.cells #[.int .i64 x4.1.r, .int .i64 x4.1.c, .slice A4 x4.1.l.length c4] 24)))
  replace S1 := Lib.hid (S1.out.later (below_al (below_0 _) (.cells #[.int .i64 x4.1.r, .int .i64 x4.1.c, .slice A4 x4.1.l.length c4] 24)))
  replace S2 := Lib.hid (S2.out.later (below_al (below_0 _) (.cells #[.int .i64 x4.1.r, .int .i64 x4.1.c, .slice A4 x4.1.l.length c4] 24)))
  replace S3 := Lib.hid (S3.out.later (below_al (below_0 _) (.cells #[.int .i64 x4.1.r, .int .i64 x4.1.c, .slice A4 x4.1.l.length c4] 24)))
  replace S4 := Lib.hid (S4.out.later (below_al (below_0 _) (.cells #[.int .i64 x4.1.r, .int .i64 x4.1.c, .slice A4 x4.1.l.length c4] 24)))
  replace F1 := Lib.hid (F1.out.later (below_al (below_0 _) (.cells #[.int .i64 x4.1.r, .int .i64 x4.1.c, .slice A4 x4.1.l.length c4] 24)))
  replace F2 := Lib.hid (F2.out.later (below_al (below_0 _) (.cells #[.int .i64 x4.1.r, .int .i64 x4.1.c, .slice A4 x4.1.l.length c4] 24)))
  replace F3 := Lib.hid (F3.out.later (below_al (below_0 _) (.cells #[.int .i64 x4.1.r, .int .i64 x4.1.c, .slice A4 x4.1.l.length c4] 24)))
  replace F4 := Lib.hid (F4.out.later (below_al (below_0 _) (.cells #[.int .i64 x4.1.r, .int .i64 x4.1.c, .slice A4 x4.1.l.length c4] 24)))
  replace X1 := Lib.hid (X1.out.alloc (.cells #[.int .i64 x4.1.r, .int .i64 x4.1.c, .slice A4 x4.1.l.length c4] 24))
  replace X2 := Lib.hid (X2.out.alloc (.cells #[.int .i64 x4.1.r, .int .i64 x4.1.c, .slice A4 x4.1.l.length c4] 24))
  replace X3 := Lib.hid (X3.out.alloc (.cells #[.int .i64 x4.1.r, .int .i64 x4.1.c, .slice A4 x4.1.l.length c4] 24))
  replace T := below_al T (.cells #[.int .i64 x4.1.r, .int .i64 x4.1.c, .slice A4 x4.1.l.length c4] 24)
  generalize w4.alloc (.cells #[.int .i64 x4.1.r, .int .i64 x4.1.c, .slice A4 x4.1.l.length c4] 24) = V4 at *
  have sy4 : w4.heap.size < V4.heap.size := X4.out.lt
  have L4 : x4.1.l.length ≤ 128 := by rw [← HX4.out]; exact Nat.le_trans (addC_len _ _ _) L1
  rw [HX4.out] at P4 N4
  have n4 := N4.out
  obtain ⟨b4, o4, ea4, lb4, hcu4⟩ := S4.out.at_ n4
  clear hcu4
  have HA4 := Lib.hid ea4
  clear ea4
  have q3 : V2.heap.size ≤ b3 := (F3.out _ HA3.out).1
  have q4 : V3.heap.size ≤ b4 := (F4.out _ HA4.out).1
  have neb31 : b3 ≠ w1.heap.size := sl_not_blk S3.out X1.out (no_u64 _ _ _ _ _) (by intro e; rw [e] at n3; simp at n3) HA3.out
  have neb32 : b3 ≠ w2.heap.size := sl_not_blk S3.out X2.out (no_u64 _ _ _ _ _) (by intro e; rw [e] at n3; simp at n3) HA3.out
  have neb33 : b3 ≠ w3.heap.size := sl_not_blk S3.out X3.out (no_u64 _ _ _ _ _) (by intro e; rw [e] at n3; simp at n3) HA3.out
  have neb34 : b3 ≠ w4.heap.size := sl_not_blk S3.out X4.out (no_u64 _ _ _ _ _) (by intro e; rw [e] at n3; simp at n3) HA3.out
  have neb41 : b4 ≠ w1.heap.size := sl_not_blk S4.out X1.out (no_u64 _ _ _ _ _) (by intro e; rw [e] at n4; simp at n4) HA4.out
  have neb42 : b4 ≠ w2.heap.size := sl_not_blk S4.out X2.out (no_u64 _ _ _ _ _) (by intro e; rw [e] at n4; simp at n4) HA4.out
  have neb43 : b4 ≠ w3.heap.size := sl_not_blk S4.out X3.out (no_u64 _ _ _ _ _) (by intro e; rw [e] at n4; simp at n4) HA4.out
  have neb44 : b4 ≠ w4.heap.size := sl_not_blk S4.out X4.out (no_u64 _ _ _ _ _) (by intro e; rw [e] at n4; simp at n4) HA4.out
  have k0X3 := X3.out.c0
  have k1X3 := X3.out.c1
  have k2X3 := X3.out.c2
  have kzX3 := X3.out.lt
  have HN5 := Lib.hid hn5
  clear hn5
  have O3 : Hid (OwnI V4 b3 o3 x3.1.l.length V4) := by
    have h1 := S3.out
    rw [HA3.out] at h1
    have h2 := F3.out
    rw [HA3.out] at h2
    exact OwnI.start h1 h2
  rw [HA3.out] at X3 ⊢
  go_loopw [19] (fun i wr => ∃ k : Nat, k ≤ x3.1.l.length ∧ i = .int .i64 k ∧ OwnI V4 b3 o3 x3.1.l.length wr) (fun i _ => x3.1.l.length - (intOf i).toNat)
  case atStart => exact ⟨0, Nat.zero_le _, rfl, O3.out⟩
  case round =>
    obtain ⟨k, hk, rfl, hI⟩ := hrel
    have XA := X3.out.grown hI.1 (fun e => by cases e; omega)
    have x2' := XA.c2
    have zz := XA.lt
    clear XA
    by_cases hlt : k < x3.1.l.length
    · obtain ⟨v, hv⟩ := hI.2.1 k hlt
      have hf := hI.2.2 (o3 + k)
      have HI := Lib.hid hI
      clear hI
      go_wp2_with fail
      go_roundw
      case rel => exact ⟨k + 1, by omega, by go_num, HI.out.step _ hlt⟩
      case measure => simp [intOf]; omega
    · obtain rfl : k = x3.1.l.length := by omega
      have hg := hI.1
      clear hI O3 hk
      replace S1 := Lib.hid (sl_other S1.out hg (fun ad e => by rw [HA1.out] at e; cases e; show b1 ≠ b3; omega))
      replace S2 := Lib.hid (sl_other S2.out hg (fun ad e => by rw [HA2.out] at e; cases e; show b2 ≠ b3; omega))
      replace S4 := Lib.hid (sl_other S4.out hg (fun ad e => by rw [HA4.out] at e; cases e; show b4 ≠ b3; omega))
      replace X1 := Lib.hid (X1.out.grown hg (fun e => by cases e; omega))
      replace X2 := Lib.hid (X2.out.grown hg (fun e => by cases e; omega))
      replace X3 := Lib.hid (X3.out.grown hg (fun e => by cases e; omega))
      replace X4 := Lib.hid (X4.out.grown hg (fun e => by cases e; omega))
      replace T := below_turned T hg (by omega)
      replace F4 := Lib.hid (fresh_other F4.out hg (fun ad e => by rw [HA4.out] at e; cases e; show b4 ≠ b3; omega))
      have szr : V4.heap.size ≤ wr.heap.size := hg.size
      clear hg
      obtain ⟨V5, hV5⟩ : ∃ V5, wr = V5 := ⟨_, rfl⟩
      rw [hV5] at S1 S2 S4 X1 X2 X3 X4 T F4 szr x2' zz ⊢
      clear hV5
      have k0X4 := X4.out.c0
      have k1X4 := X4.out.c1
      have k2X4 := X4.out.c2
      have kzX4 := X4.out.lt
      go_wp2_with fail
      clear k0X4 k1X4 k2X4 kzX4
      have O4 : Hid (OwnI V5 b4 o4 x4.1.l.length V5) := by
        have h1 := S4.out
        rw [HA4.out] at h1
        have h2 := F4.out
        rw [HA4.out] at h2
        exact OwnI.start h1 h2
      rw [HA4.out] at X4 ⊢
      go_loopw [20] (fun i wr => ∃ k : Nat, k ≤ x4.1.l.length ∧ i = .int .i64 k ∧ OwnI V5 b4 o4 x4.1.l.length wr) (fun i _ => x4.1.l.length - (intOf i).toNat)
      case atStart => exact ⟨0, Nat.zero_le _, rfl, O4.out⟩
      case round =>
        obtain ⟨k, hk, rfl, hI⟩ := hrel
        have XA := X4.out.grown hI.1 (fun e => by cases e; omega)
        have x2' := XA.c2
        have zz := XA.lt
        clear XA
        by_cases hlt : k < x4.1.l.length
        · obtain ⟨v, hv⟩ := hI.2.1 k hlt
          have hf := hI.2.2 (o4 + k)
          have HI := Lib.hid hI
          clear hI
          go_wp2_with fail
          go_roundw
          case rel => exact ⟨k + 1, by omega, by go_num, HI.out.step _ hlt⟩
          case measure => simp [intOf]; omega
        · obtain rfl : k = x4.1.l.length := by omega
          have hg := hI.1
          clear hI O4 hk
          replace S1 := Lib.hid (sl_other S1.out hg (fun ad e => by rw [HA1.out] at e; cases e; show b1 ≠ b4; omega))
          replace S2 := Lib.hid (sl_other S2.out hg (fun ad e => by rw [HA2.out] at e; cases e; show b2 ≠ b4; omega))
          replace X1 := Lib.hid (X1.out.grown hg (fun e => by cases e; omega))
          replace X2 := Lib.hid (X2.out.grown hg (fun e => by cases e; omega))
          replace X3 := Lib.hid (X3.out.grown hg (fun e => by cases e; omega))
          replace X4 := Lib.hid (X4.out.grown hg (fun e => by cases e; omega))
          replace T := below_turned T hg (by omega)
          clear hg
          have k0X1 := X1.out.c0
          have k1X1 := X1.out.c1
          have k2X1 := X1.out.c2
          have kzX1 := X1.out.lt
          have k0X2 := X2.out.c0
          have k1X2 := X2.out.c1
          have k2X2 := X2.out.c2
          have kzX2 := X2.out.lt
          have a2 := P2.out
          have a3 := P3.out
          have a4 := P4.out
          go_wp2_with fail
          refine (count_any x1.1.r x1.1.c A1 x1.1.l c1 h hh U1 _ S1.out).mono ?_
          rintro e w7 ⟨rfl, hb7⟩
          rw [show countC ⟨x1.1.r, x1.1.c, x1.1.l⟩ h = n5 from HN5.out]
          clear k0X1 k1X1 k2X1 kzX1 k0X2 k1X2 k2X2 kzX2
          replace S1 := Lib.hid (S1.out.later hb7)
          replace S2 := Lib.hid (S2.out.later hb7)
          replace X1 := Lib.hid (X1.out.later hb7)
          replace X2 := Lib.hid (X2.out.later hb7)
          replace T := Below.two T hb7
          clear hb7
          have k0X1 := X1.out.c0
          have k1X1 := X1.out.c1
          have k2X1 := X1.out.c2
          have kzX1 := X1.out.lt
          have k0X2 := X2.out.c0
          have k1X2 := X2.out.c1
          have k2X2 := X2.out.c2
          have kzX2 := X2.out.lt
          go_wp2_with fail
          refine (count_any x2.1.r x2.1.c A2 x2.1.l c2 h hh U2 _ S2.out).mono ?_
          rintro e w8 ⟨rfl, hb8⟩
          rw [show countC ⟨x2.1.r, x2.1.c, x2.1.l⟩ h = 0 from P5.out]
          clear k0X1 k1X1 k2X1 kzX1 k0X2 k1X2 k2X2 kzX2
          replace S1 := Lib.hid (S1.out.later hb8)
          replace S2 := Lib.hid (S2.out.later hb8)
          replace X1 := Lib.hid (X1.out.later hb8)
          replace X2 := Lib.hid (X2.out.later hb8)
          replace T := Below.two T hb8
          clear hb8
          have k0X1 := X1.out.c0
          have k1X1 := X1.out.c1
          have k2X1 := X1.out.c2
          have kzX1 := X1.out.lt
          have k0X2 := X2.out.c0
          have k1X2 := X2.out.c1
          have k2X2 := X2.out.c2
          have kzX2 := X2.out.lt
          go_wp2_with fail
          go_ret
          exact ⟨rfl, T⟩
end Go.Proofs.Ythjdonhabenmcaa

/-
  The walk of the law aviarylaw08.CmsParts: call by call, each callee by its contract.
-/
import Derived.Test.YthjdonhabenmcaaCmsShown
import Derived.Test.YthjdonhabenmcaaCmsLaws4
namespace Go.Proofs.Ythjdonhabenmcaa
open Go.RowKit
set_option linter.unusedVariables false
theorem Try.infoItem : (Try.prog.info? 43).map (fun i => (i.zero, i.size, i.bytes)) = some (some (.agg #[.int .u64 0, .int .u64 0]), 2, 16) := by kernel_rfl
theorem of_n (r c : Int) (A : Option Addr) (l : List (Int × Int)) (n cap : Nat) (hn : l.length = n) (hU : UI l) (hl : l.length ≤ 65536) (w : World) (hS : Si w w.heap.size A l) :
    Calls Try.prog 23 #[.int .i64 r, .int .i64 c, .slice A n cap] w (CRes w (ofC r c l)) := by subst hn; exact of_any r c A l cap hU hl w hS
theorem one_flat {l : List (Int × Int)} : ∀ u ∈ flat l, u.oneCell' = true := by
  intro u hu
  obtain ⟨x, _, h⟩ := List.mem_flatMap.1 hu
  simp at h
  rcases h with rfl | rfl <;> rfl
theorem own_base' {w : World} {base n : Nat} {e : TypeId} {size : Nat} {v : Value} {xs : List Value} (h : w.ownsRow base e size v n xs) (j : Nat) (hj : v.ownBlock = some j) : base ≤ j := by
  obtain ⟨A, c, rfl, _, _, hb⟩ := owns_form h
  cases A with
  | none => cases hj
  | some ad => cases hj; exact (hb ad rfl).1
set_option maxHeartbeats 4000000 in
theorem parts_A (w : World) (rows cols at_ : Int) (K : Nat) (nl capl : Nat) (al : Option Addr) (l : List (Int × Int)) (hU : UI l) (hsl : Si w w.heap.size al l)
    (hk : (if (100 : Int) < (nl : Int) then (100 : Int) else (nl : Int)) = (l.length : Int)) (hq : l.length ≤ capl) (hm : capl ≤ 9223372036854775807) (h100 : l.length ≤ 100) (hK : K ≤ l.length) (y : Int) (hy : (if (l.length : Int) < at_ then (l.length : Int) else at_) = y) (hyK : (if (0 : Int) < y then y else 0) = (K : Int)) (hcK : capl = K) :
    Calls Try.prog 6 #[.int .i64 rows, .int .i64 cols, .slice al nl capl, .int .i64 at_] w fun e w' => e = .returned (.bool true) ∧ Below w.heap.size w w' := by
  subst hcK
  have T := below_0 w
  have SL := Lib.hid hsl
  clear hsl
  obtain ⟨i0, hi0, hz0, hz1, hz2⟩ := info_parts Try.infoItem
  have HLT : Hid ((l.take capl).length = capl) := by show _ = _; rw [List.length_take]; omega
  have HLD : Hid ((l.drop capl).length = l.length - capl) := by show _ = _; rw [List.length_drop]
  go_enter Try.func6, Try.ntmps6
  go_wp2_with fail
  refine (shown_any _).mono ?_
  rintro e w90 ⟨rfl, hb90⟩
  replace SL := Lib.hid (SL.out.later hb90)
  replace T := Below.two T hb90
  clear hb90
  go_wp2_with fail
  clear hk hy hyK
  refine (of_any rows cols al l capl hU (by omega) _ SL.out).mono ?_
  rintro e w1 ⟨hb1, v1, rfl, hh1⟩
  obtain ⟨A1, c1, rfl, hc1, hA1, hS1, hF1⟩ := hh1
  replace SL := Lib.hid (SL.out.later hb1)
  replace T := Below.two T hb1
  obtain ⟨x1, hx1⟩ : ∃ x, ofC rows cols l = x := ⟨_, rfl⟩
  rw [hx1] at hS1 hc1 ⊢
  have HX1 := Lib.hid hx1
  clear hx1
  have S1 := Lib.hid hS1
  have F1 := Lib.hid hF1
  clear hS1 hF1 hA1 hb1
  go_wp2_with fail
  have X1 := Lib.hid (Blk.new w1 24 #[.int .i64 x1.1.r, .int .i64 x1.1.c, .slice A1 x1.1.l.length c1])
  replace SL := Lib.hid (SL.out.later (below_al (below_0 _) (.cells #[.int .i64 x1.1.r, .int .i64 x1.1.c, .slice A1 x1.1.l.length c1] 24)))
  replace S1 := Lib.hid (S1.out.later (below_al (below_0 _) (.cells #[.int .i64 x1.1.r, .int .i64 x1.1.c, .slice A1 x1.1.l.length c1] 24)))
  replace T := below_al T (.cells #[.int .i64 x1.1.r, .int .i64 x1.1.c, .slice A1 x1.1.l.length c1] 24)
  generalize w1.alloc (.cells #[.int .i64 x1.1.r, .int .i64 x1.1.c, .slice A1 x1.1.l.length c1] 24) = V1 at *
  have SK := Lib.hid (SL.out.take capl)
  have SD : Hid (Si V1 V1.heap.size al (l.drop capl)) := by show Si _ _ _ _; rw [List.drop_eq_nil_of_le hq]; exact Rd.none_
  refine (of_n rows cols al (l.take capl) capl capl HLT.out (hU.take _) (by rw [HLT.out]; omega) _ SK.out).mono ?_
  rintro e w2 ⟨hb2, v2, rfl, hh2⟩
  obtain ⟨A2, c2, rfl, hc2, hA2, hS2, hF2⟩ := hh2
  replace SL := Lib.hid (SL.out.later hb2)
  replace S1 := Lib.hid (S1.out.later hb2)
  replace SK := Lib.hid (SK.out.later hb2)
  replace SD := Lib.hid (SD.out.later hb2)
  replace X1 := Lib.hid (X1.out.later hb2)
  replace T := Below.two T hb2
  obtain ⟨x2, hx2⟩ : ∃ x, ofC rows cols (l.take capl) = x := ⟨_, rfl⟩
  rw [hx2] at hS2 hc2 ⊢
  have HX2 := Lib.hid hx2
  clear hx2
  have S2 := Lib.hid hS2
  have F2 := Lib.hid hF2
  clear hS2 hF2 hA2 hb2
  have k0X1 := X1.out.c0
  have k1X1 := X1.out.c1
  have k2X1 := X1.out.c2
  have kzX1 := X1.out.lt
  go_wp2_with fail
  clear k0X1 k1X1 k2X1 kzX1
  have X2 := Lib.hid (Blk.new w2 24 #[.int .i64 x2.1.r, .int .i64 x2.1.c, .slice A2 x2.1.l.length c2])
  replace SL := Lib.hid (SL.out.later (below_al (below_0 _) (.cells #[.int .i64 x2.1.r, .int .i64 x2.1.c, .slice A2 x2.1.l.length c2] 24)))
  replace S1 := Lib.hid (S1.out.later (below_al (below_0 _) (.cells #[.int .i64 x2.1.r, .int .i64 x2.1.c, .slice A2 x2.1.l.length c2] 24)))
  replace SK := Lib.hid (SK.out.later (below_al (below_0 _) (.cells #[.int .i64 x2.1.r, .int .i64 x2.1.c, .slice A2 x2.1.l.length c2] 24)))
  replace SD := Lib.hid (SD.out.later (below_al (below_0 _) (.cells #[.int .i64 x2.1.r, .int .i64 x2.1.c, .slice A2 x2.1.l.length c2] 24)))
  replace S2 := Lib.hid (S2.out.later (below_al (below_0 _) (.cells #[.int .i64 x2.1.r, .int .i64 x2.1.c, .slice A2 x2.1.l.length c2] 24)))
  replace X1 := Lib.hid (X1.out.alloc (.cells #[.int .i64 x2.1.r, .int .i64 x2.1.c, .slice A2 x2.1.l.length c2] 24))
  replace T := below_al T (.cells #[.int .i64 x2.1.r, .int .i64 x2.1.c, .slice A2 x2.1.l.length c2] 24)
  generalize w2.alloc (.cells #[.int .i64 x2.1.r, .int .i64 x2.1.c, .slice A2 x2.1.l.length c2] 24) = V2 at *
  refine (of_n rows cols al (l.drop capl) 0 0 (by rw [List.length_drop]; omega) (hU.drop _) (by rw [List.length_drop]; omega) _ SD.out).mono ?_
  rintro e w3 ⟨hb3, v3, rfl, hh3⟩
  obtain ⟨A3, c3, rfl, hc3, hA3, hS3, hF3⟩ := hh3
  replace SL := Lib.hid (SL.out.later hb3)
  replace S1 := Lib.hid (S1.out.later hb3)
  replace SK := Lib.hid (SK.out.later hb3)
  replace SD := Lib.hid (SD.out.later hb3)
  replace S2 := Lib.hid (S2.out.later hb3)
  replace X1 := Lib.hid (X1.out.later hb3)
  replace X2 := Lib.hid (X2.out.later hb3)
  replace T := Below.two T hb3
  obtain ⟨x3, hx3⟩ : ∃ x, ofC rows cols (l.drop capl) = x := ⟨_, rfl⟩
  rw [hx3] at hS3 hc3 ⊢
  have HX3 := Lib.hid hx3
  clear hx3
  have S3 := Lib.hid hS3
  have F3 := Lib.hid hF3
  clear hS3 hF3 hA3 hb3
  have k0X1 := X1.out.c0
  have k1X1 := X1.out.c1
  have k2X1 := X1.out.c2
  have kzX1 := X1.out.lt
  have k0X2 := X2.out.c0
  have k1X2 := X2.out.c1
  have k2X2 := X2.out.c2
  have kzX2 := X2.out.lt
  by_cases he1 : ¬ x1.2 = 0
  · have d1 : (x1.2 != 0) = true := by simp [he1]
    have e80 : x1.2 = 80 := by
      have := ofC_err hU (by rw [HX1.out]; exact he1)
      rw [HX1.out] at this
      rw [this]
    clear he1
    go_wp2_with fail
    go_ret
    exact ⟨rfl, below_al T _⟩
  replace he1 := Classical.not_not.1 he1
  have d1 : (x1.2 != 0) = false := by simp [he1]
  have HE1 := Lib.hid he1
  clear he1
  go_wp2_with fail
  clear k0X1 k1X1 k2X1 kzX1 k0X2 k1X2 k2X2 kzX2
  have X3 := Lib.hid (Blk.new w3 24 #[.int .i64 x3.1.r, .int .i64 x3.1.c, .slice A3 x3.1.l.length c3])
  replace SL := Lib.hid (SL.out.later (below_al (below_0 _) (.cells #[.int .i64 x3.1.r, .int .i64 x3.1.c, .slice A3 x3.1.l.length c3] 24)))
  replace S1 := Lib.hid (S1.out.later (below_al (below_0 _) (.cells #[.int .i64 x3.1.r, .int .i64 x3.1.c, .slice A3 x3.1.l.length c3] 24)))
  replace SK := Lib.hid (SK.out.later (below_al (below_0 _) (.cells #[.int .i64 x3.1.r, .int .i64 x3.1.c, .slice A3 x3.1.l.length c3] 24)))
  replace SD := Lib.hid (SD.out.later (below_al (below_0 _) (.cells #[.int .i64 x3.1.r, .int .i64 x3.1.c, .slice A3 x3.1.l.length c3] 24)))
  replace S2 := Lib.hid (S2.out.later (below_al (below_0 _) (.cells #[.int .i64 x3.1.r, .int .i64 x3.1.c, .slice A3 x3.1.l.length c3] 24)))
  replace S3 := Lib.hid (S3.out.later (below_al (below_0 _) (.cells #[.int .i64 x3.1.r, .int .i64 x3.1.c, .slice A3 x3.1.l.length c3] 24)))
  replace X1 := Lib.hid (X1.out.alloc (.cells #[.int .i64 x3.1.r, .int .i64 x3.1.c, .slice A3 x3.1.l.length c3] 24))
  replace X2 := Lib.hid (X2.out.alloc (.cells #[.int .i64 x3.1.r, .int .i64 x3.1.c, .slice A3 x3.1.l.length c3] 24))
  replace T := below_al T (.cells #[.int .i64 x3.1.r, .int .i64 x3.1.c, .slice A3 x3.1.l.length c3] 24)
  generalize w3.alloc (.cells #[.int .i64 x3.1.r, .int .i64 x3.1.c, .slice A3 x3.1.l.length c3] 24) = V3 at *
  clear d1
  obtain ⟨p2, p3, p4, p5, p6⟩ := parts_law hU (by rw [HX1.out]; exact HE1.out) capl
  rw [HX1.out, HX2.out, HX3.out] at p5 p6
  rw [HX2.out] at p2
  rw [HX3.out] at p3
  rw [HX1.out] at p4
  have P2 := Lib.hid p2
  have P3 := Lib.hid p3
  have P4 := Lib.hid p4
  have P5 := Lib.hid p5
  have P6 := Lib.hid p6
  clear p2 p3 p4 p5 p6
  have U1 : Us x1.1.l := by rw [← HX1.out]; exact ofC_us _ _ hU
  have L1 : x1.1.l.length ≤ 128 := by rw [← HX1.out]; exact ofC_len _ _ _
  have U2 : Us x2.1.l := by rw [← HX2.out]; exact ofC_us _ _ (hU.take _)
  have U3 : Us x3.1.l := by rw [← HX3.out]; exact ofC_us _ _ (hU.drop _)
  go_loopw [16, 17] (fun v i wr => ∃ j : Nat, j ≤ l.length ∧ i = .int .i64 ((j : Int) - 1) ∧ wr.ownsRow V3.heap.size 43 2 v (l.length - j) (flat (l.reverse.take (l.length - j))) ∧ Below V3.heap.size V3 wr) (fun _ i _ => (intOf i + 1).toNat)
  case atStart => exact ⟨l.length, Nat.le_refl _, rfl, by rw [Nat.sub_self]; exact World.ownsRow_nil _ _ _ _, below_0 _⟩
  case round =>
    obtain ⟨j, hj, rfl, hown, hb⟩ := hrel
    cases j with
    | succ j =>
      have hji : ((j + 1 : Nat) : Int) - 1 = (j : Int) := by omega
      rw [hji]
      clear hji
      obtain ⟨b9, off9, rfl, hb9, hcs⟩ := SL.out.at_ (by omega)
      obtain ⟨i1, i2⟩ := hcs j (by omega)
      have j1 := (hb.cell (p := ⟨b9, off9 + j * 2, none⟩) hb9).trans i1
      have j2 := (hb.cell (p := ⟨b9, off9 + j * 2 + 1, none⟩) hb9).trans i2
      have hrt : l.reverse.take (l.length - j) = l.reverse.take (l.length - (j + 1)) ++ [ith l j] := by
        have := rev_take_succ (l := l) (k := l.length - (j + 1)) (by omega)
        rw [show l.length - (j + 1) + 1 = l.length - j by omega, show l.length - 1 - (l.length - (j + 1)) = j by omega] at this
        exact this
      have HRT : Hid (flat (l.reverse.take (l.length - j)) = flat (l.reverse.take (l.length - (j + 1))) ++ [.int .u64 (ith l j).1, .int .u64 (ith l j).2]) := by
        show _ = _
        rw [hrt, flat_append]; rfl
      have HNN : Hid (l.length - (j + 1) + 1 = l.length - j) := by show _ = _; omega
      have HO := Lib.hid (hown.alloc (.cells #[.int .u64 (ith l j).1, .int .u64 (ith l j).2] 43))
      have HR : Hid (Rd (wr.alloc (.cells #[.int .u64 (ith l j).1, .int .u64 (ith l j).2] 43)) (wr.heap.size + 1) (some ⟨wr.heap.size, 0, none⟩) [.int .u64 (ith l j).1, .int .u64 (ith l j).2]) := fun _ =>
        ⟨wr.heap.size, 0, rfl, by omega, fun i u hu => by rw [Nat.zero_add, (Blk.new wr 43 #[.int .u64 (ith l j).1, .int .u64 (ith l j).2]).cell]; simpa using hu⟩
      have hbz := hb.size
      have hnb : l.length - (j + 1) + 1 ≤ 200 := by omega
      clear hcs i1 i2 hrt hown
      go_wp2_with (
        at_builtin
        refine wpList_append_rd _ rfl (.tmp 74) (.tmp 79) 37 rfl V3.heap.size 43 i0 (.agg #[.int .u64 0, .int .u64 0]) 2 16 Try.underlying37 hi0 hz0 hz1 hz2 rfl (by decide) _ (l.length - (j + 1)) _ rfl HO.out (wr.heap.size + 1) (some ⟨wr.heap.size, 0, none⟩) 1 1 [.int .u64 (ith l j).1, .int .u64 (ith l j).2] rfl (by simp) HR.out (by intro u hu; simp at hu; rcases hu with rfl | rfl <;> rfl) (by unfold maxLen; omega) (by omega) (by simp; omega) ?_
        intro v2 w2 hown2 hg2 _
        rw [← HRT.out, HNN.out] at hown2
        have hb2 : Below V3.heap.size V3 w2 := (below_al hb (.cells #[.int .u64 (ith l j).1, .int .u64 (ith l j).2] 43)).grown hg2 (by simp; omega) (fun q e => own_base' HO.out q e)
        have HO2 := Lib.hid hown2
        clear hown2 hg2)
      go_roundw
      case rel => exact ⟨j, by omega, rfl, HO2.out, hb2⟩
      case measure => simp [intOf]
    | zero =>
      rw [Nat.sub_zero, List.take_of_length_le (by simp)] at hown
      obtain ⟨A7, c7, rfl, hc7, hR7, hF7⟩ := owns_form hown
      have S7 : Hid (Si wr wr.heap.size A7 l.reverse) := hR7
      clear hown hR7 hF7
      replace SL := Lib.hid (SL.out.later hb)
      replace S1 := Lib.hid (S1.out.later hb)
      replace SK := Lib.hid (SK.out.later hb)
      replace SD := Lib.hid (SD.out.later hb)
      replace S2 := Lib.hid (S2.out.later hb)
      replace S3 := Lib.hid (S3.out.later hb)
      replace X1 := Lib.hid (X1.out.later hb)
      replace X2 := Lib.hid (X2.out.later hb)
      replace X3 := Lib.hid (X3.out.later hb)
      replace T := Below.two T hb
      have k0X1 := X1.out.c0
      have k1X1 := X1.out.c1
      have k2X1 := X1.out.c2
      have kzX1 := X1.out.lt
      have k0X2 := X2.out.c0
      have k1X2 := X2.out.c1
      have k2X2 := X2.out.c2
      have kzX2 := X2.out.lt
      have k0X3 := X3.out.c0
      have k1X3 := X3.out.c1
      have k2X3 := X3.out.c2
      have kzX3 := X3.out.lt
      go_wp2_with fail
      refine (of_n rows cols A7 l.reverse l.length c7 (by simp) hU.reverse (by simp; omega) _ S7.out).mono ?_
      rintro e w4 ⟨hb4, v4, rfl, hh4⟩
      obtain ⟨A4, c4, rfl, hc4, hA4, hS4, hF4⟩ := hh4
      clear k0X1 k1X1 k2X1 kzX1 k0X2 k1X2 k2X2 kzX2 k0X3 k1X3 k2X3 kzX3
      replace SL := Lib.hid (SL.out.later hb4)
      replace S1 := Lib.hid (S1.out.later hb4)
      replace SK := Lib.hid (SK.out.later hb4)
      replace SD := Lib.hid (SD.out.later hb4)
      replace S2 := Lib.hid (S2.out.later hb4)
      replace S3 := Lib.hid (S3.out.later hb4)
      replace S7 := Lib.hid (S7.out.later hb4)
      replace X1 := Lib.hid (X1.out.later hb4)
      replace X2 := Lib.hid (X2.out.later hb4)
      replace X3 := Lib.hid (X3.out.later hb4)
      replace T := Below.two T hb4
      obtain ⟨x4, hx4⟩ : ∃ x, ofC rows cols l.reverse = x := ⟨_, rfl⟩
      rw [hx4] at hS4 hc4 ⊢
      have HX4 := Lib.hid hx4
      clear hx4
      have S4 := Lib.hid hS4
      have F4 := Lib.hid hF4
      clear hS4 hF4 hA4 hb4
      have k0X1 := X1.out.c0
      have k1X1 := X1.out.c1
      have k2X1 := X1.out.c2
      have kzX1 := X1.out.lt
      have k0X2 := X2.out.c0
      have k1X2 := X2.out.c1
      have k2X2 := X2.out.c2
      have kzX2 := X2.out.lt
      have k0X3 := X3.out.c0
      have k1X3 := X3.out.c1
      have k2X3 := X3.out.c2
      have kzX3 := X3.out.lt
      go_wp2_with fail
      clear k0X1 k1X1 k2X1 kzX1 k0X2 k1X2 k2X2 kzX2 k0X3 k1X3 k2X3 kzX3
      have X4 := Lib.hid (Blk.new w4 24 #[.int .i64 x4.1.r, .int .i64 x4.1.c, .slice A4 x4.1.l.length c4])
      replace SL := Lib.hid (SL.out.later (below_al (below_0 _) (.cells #[.int .i64 x4.1.r, .int .i64 x4.1.c, .slice A4 x4.1.l.length c4] 24)))
      replace S1 := Lib.hid (S1.out.later (below_al (below_0 _) (.cells #[.int .i64 x4.1.r, .int .i64 x4.1.c, .slice A4 x4.1.l.length c4] 24)))
      replace SK := Lib.hid (SK.out.later (below_al (below_0 _) (.cells #[.int .i64 x4.1.r, .int .i64 x4.1.c, .slice A4 x4.1.l.length c4] 24)))
      replace SD := Lib.hid (SD.out.later (below_al (below_0 _) (.cells #[.int .i64 x4.1.r, .int .i64 x4.1.c, .slice A4 x4.1.l.length c4] 24)))
      replace S2 := Lib.hid (S2.out.later (below_al (below_0 _) (.cells #[.int .i64 x4.1.r, .int .i64 x4.1.c, .slice A4 x4.1.l.length c4] 24)))
      replace S3 := Lib.hid (S3.out.later (below_al (below_0 _) (.cells #[.int .i64 x4.1.r, .int .i64 x4.1.c, .slice A4 x4.1.l.length c4] 24)))
      replace S7 := Lib.hid (S7.out.later (below_al (below_0 _) (.cells #[.int .i64 x4.1.r, .int .i64 x4.1.c, .slice A4 x4.1.l.length c4] 24)))
      replace S4 := Lib.hid (S4.out.later (below_al (below_0 _) (.cells #[.int .i64 x4.1.r, .int .i64 x4.1.c, .slice A4 x4.1.l.length c4] 24)))
      replace X1 := Lib.hid (X1.out.alloc (.cells #[.int .i64 x4.1.r, .int .i64 x4.1.c, .slice A4 x4.1.l.length c4] 24))
      replace X2 := Lib.hid (X2.out.alloc (.cells #[.int .i64 x4.1.r, .int .i64 x4.1.c, .slice A4 x4.1.l.length c4] 24))
      replace X3 := Lib.hid (X3.out.alloc (.cells #[.int .i64 x4.1.r, .int .i64 x4.1.c, .slice A4 x4.1.l.length c4] 24))
      replace T := below_al T (.cells #[.int .i64 x4.1.r, .int .i64 x4.1.c, .slice A4 x4.1.l.length c4] 24)
      generalize w4.alloc (.cells #[.int .i64 x4.1.r, .int .i64 x4.1.c, .slice A4 x4.1.l.length c4] 24) = V4 at *
      refine (merge_any x2.1.r x2.1.c x3.1.r x3.1.c A2 A3 x2.1.l x3.1.l c2 c3 _ S2.out S3.out U2 U3).mono ?_
      rintro e w5 ⟨hb5, v5, rfl, hh5⟩
      obtain ⟨A5, c5, rfl, hc5, hA5, hS5, hF5⟩ := hh5
      replace SL := Lib.hid (SL.out.later hb5)
      replace S1 := Lib.hid (S1.out.later hb5)
      replace SK := Lib.hid (SK.out.later hb5)
      replace SD := Lib.hid (SD.out.later hb5)
      replace S2 := Lib.hid (S2.out.later hb5)
      replace S3 := Lib.hid (S3.out.later hb5)
      replace S7 := Lib.hid (S7.out.later hb5)
      replace S4 := Lib.hid (S4.out.later hb5)
      replace X1 := Lib.hid (X1.out.later hb5)
      replace X2 := Lib.hid (X2.out.later hb5)
      replace X3 := Lib.hid (X3.out.later hb5)
      replace X4 := Lib.hid (X4.out.later hb5)
      replace T := Below.two T hb5
      obtain ⟨x5, hx5⟩ : ∃ x, mergeC x2.1 x3.1 = x := ⟨_, rfl⟩
      rw [hx5] at hS5 hc5 ⊢
      have HX5 := Lib.hid hx5
      clear hx5
      have S5 := Lib.hid hS5
      have F5 := Lib.hid hF5
      clear hS5 hF5 hA5 hb5
      have k0X1 := X1.out.c0
      have k1X1 := X1.out.c1
      have k2X1 := X1.out.c2
      have kzX1 := X1.out.lt
      have k0X2 := X2.out.c0
      have k1X2 := X2.out.c1
      have k2X2 := X2.out.c2
      have kzX2 := X2.out.lt
      have k0X3 := X3.out.c0
      have k1X3 := X3.out.c1
      have k2X3 := X3.out.c2
      have kzX3 := X3.out.lt
      have k0X4 := X4.out.c0
      have k1X4 := X4.out.c1
      have k2X4 := X4.out.c2
      have kzX4 := X4.out.lt
      go_wp2_with fail
      clear k0X1 k1X1 k2X1 kzX1 k0X2 k1X2 k2X2 kzX2 k0X3 k1X3 k2X3 kzX3 k0X4 k1X4 k2X4 kzX4
      have X5 := Lib.hid (Blk.new w5 24 #[.int .i64 x5.1.r, .int .i64 x5.1.c, .slice A5 x5.1.l.length c5])
      replace SL := Lib.hid (SL.out.later (below_al (below_0 _) (.cells #[.int .i64 x5.1.r, .int .i64 x5.1.c, .slice A5 x5.1.l.length c5] 24)))
      replace S1 := Lib.hid (S1.out.later (below_al (below_0 _) (.cells #[.int .i64 x5.1.r, .int .i64 x5.1.c, .slice A5 x5.1.l.length c5] 24)))
      replace SK := Lib.hid (SK.out.later (below_al (below_0 _) (.cells #[.int .i64 x5.1.r, .int .i64 x5.1.c, .slice A5 x5.1.l.length c5] 24)))
      replace SD := Lib.hid (SD.out.later (below_al (below_0 _) (.cells #[.int .i64 x5.1.r, .int .i64 x5.1.c, .slice A5 x5.1.l.length c5] 24)))
      replace S2 := Lib.hid (S2.out.later (below_al (below_0 _) (.cells #[.int .i64 x5.1.r, .int .i64 x5.1.c, .slice A5 x5.1.l.length c5] 24)))
      replace S3 := Lib.hid (S3.out.later (below_al (below_0 _) (.cells #[.int .i64 x5.1.r, .int .i64 x5.1.c, .slice A5 x5.1.l.length c5] 24)))
      replace S7 := Lib.hid (S7.out.later (below_al (below_0 _) (.cells #[.int .i64 x5.1.r, .int .i64 x5.1.c, .slice A5 x5.1.l.length c5] 24)))
      replace S4 := Lib.hid (S4.out.later (below_al (below_0 _) (.cells #[.int .i64 x5.1.r, .int .i64 x5.1.c, .slice A5 x5.1.l.length c5] 24)))
      replace S5 := Lib.hid (S5.out.later (below_al (below_0 _) (.cells #[.int .i64 x5.1.r, .int .i64 x5.1.c, .slice A5 x5.1.l.length c5] 24)))
      replace X1 := Lib.hid (X1.out.alloc (.cells #[.int .i64 x5.1.r, .int .i64 x5.1.c, .slice A5 x5.1.l.length c5] 24))
      replace X2 := Lib.hid (X2.out.alloc (.cells #[.int .i64 x5.1.r, .int .i64 x5.1.c, .slice A5 x5.1.l.length c5] 24))
      replace X3 := Lib.hid (X3.out.alloc (.cells #[.int .i64 x5.1.r, .int .i64 x5.1.c, .slice A5 x5.1.l.length c5] 24))
      replace X4 := Lib.hid (X4.out.alloc (.cells #[.int .i64 x5.1.r, .int .i64 x5.1.c, .slice A5 x5.1.l.length c5] 24))
      replace T := below_al T (.cells #[.int .i64 x5.1.r, .int .i64 x5.1.c, .slice A5 x5.1.l.length c5] 24)
      generalize w5.alloc (.cells #[.int .i64 x5.1.r, .int .i64 x5.1.c, .slice A5 x5.1.l.length c5] 24) = V5 at *
      refine (merge_any x3.1.r x3.1.c x2.1.r x2.1.c A3 A2 x3.1.l x2.1.l c3 c2 _ S3.out S2.out U3 U2).mono ?_
      rintro e w6 ⟨hb6, v6, rfl, hh6⟩
      obtain ⟨A6, c6, rfl, hc6, hA6, hS6, hF6⟩ := hh6
      replace SL := Lib.hid (SL.out.later hb6)
      replace S1 := Lib.hid (S1.out.later hb6)
      replace SK := Lib.hid (SK.out.later hb6)
      replace SD := Lib.hid (SD.out.later hb6)
      replace S2 := Lib.hid (S2.out.later hb6)
      replace S3 := Lib.hid (S3.out.later hb6)
      replace S7 := Lib.hid (S7.out.later hb6)
      replace S4 := Lib.hid (S4.out.later hb6)
      replace S5 := Lib.hid (S5.out.later hb6)
      replace X1 := Lib.hid (X1.out.later hb6)
      replace X2 := Lib.hid (X2.out.later hb6)
      replace X3 := Lib.hid (X3.out.later hb6)
      replace X4 := Lib.hid (X4.out.later hb6)
      replace X5 := Lib.hid (X5.out.later hb6)
      replace T := Below.two T hb6
      obtain ⟨x6, hx6⟩ : ∃ x, mergeC x3.1 x2.1 = x := ⟨_, rfl⟩
      rw [hx6] at hS6 hc6 ⊢
      have HX6 := Lib.hid hx6
      clear hx6
      have S6 := Lib.hid hS6
      have F6 := Lib.hid hF6
      clear hS6 hF6 hA6 hb6
      have k0X1 := X1.out.c0
      have k1X1 := X1.out.c1
      have k2X1 := X1.out.c2
      have kzX1 := X1.out.lt
      have k0X2 := X2.out.c0
      have k1X2 := X2.out.c1
      have k2X2 := X2.out.c2
      have kzX2 := X2.out.lt
      have k0X3 := X3.out.c0
      have k1X3 := X3.out.c1
      have k2X3 := X3.out.c2
      have kzX3 := X3.out.lt
      have k0X4 := X4.out.c0
      have k1X4 := X4.out.c1
      have k2X4 := X4.out.c2
      have kzX4 := X4.out.lt
      have k0X5 := X5.out.c0
      have k1X5 := X5.out.c1
      have k2X5 := X5.out.c2
      have kzX5 := X5.out.lt
      have e4 : x4 = x1 := HX4.out.symm.trans P4.out
      have e5 : x5 = x1 := HX5.out.symm.trans P5.out
      have e6 : x6 = x1 := HX6.out.symm.trans P6.out
      subst e4 e5 e6
      have a1 := HE1.out
      have a2 := P2.out
      have a3 := P3.out
      go_wp2_with fail
      clear k0X1 k1X1 k2X1 kzX1 k0X2 k1X2 k2X2 kzX2 k0X3 k1X3 k2X3 kzX3 k0X4 k1X4 k2X4 kzX4 k0X5 k1X5 k2X5 kzX5
      have X6 := Lib.hid (Blk.new w6 24 #[.int .i64 x6.1.r, .int .i64 x6.1.c, .slice A6 x6.1.l.length c6])
      replace SL := Lib.hid (SL.out.later (below_al (below_0 _) (.cells #[.int .i64 x6.1.r, .int .i64 x6.1.c, .slice A6 x6.1.l.length c6] 24)))
      replace S1 := Lib.hid (S1.out.later (below_al (below_0 _) (.cells #[.int .i64 x6.1.r, .int .i64 x6.1.c, .slice A6 x6.1.l.length c6] 24)))
      replace SK := Lib.hid (SK.out.later (below_al (below_0 _) (.cells #[.int .i64 x6.1.r, .int .i64 x6.1.c, .slice A6 x6.1.l.length c6] 24)))
      replace SD := Lib.hid (SD.out.later (below_al (below_0 _) (.cells #[.int .i64 x6.1.r, .int .i64 x6.1.c, .slice A6 x6.1.l.length c6] 24)))
      replace S2 := Lib.hid (S2.out.later (below_al (below_0 _) (.cells #[.int .i64 x6.1.r, .int .i64 x6.1.c, .slice A6 x6.1.l.length c6] 24)))
      replace S3 := Lib.hid (S3.out.later (below_al (below_0 _) (.cells #[.int .i64 x6.1.r, .int .i64 x6.1.c, .slice A6 x6.1.l.length c6] 24)))
      replace S7 := Lib.hid (S7.out.later (below_al (below_0 _) (.cells #[.int .i64 x6.1.r, .int .i64 x6.1.c, .slice A6 x6.1.l.length c6] 24)))
      replace S4 := Lib.hid (S4.out.later (below_al (below_0 _) (.cells #[.int .i64 x6.1.r, .int .i64 x6.1.c, .slice A6 x6.1.l.length c6] 24)))
      replace S5 := Lib.hid (S5.out.later (below_al (below_0 _) (.cells #[.int .i64 x6.1.r, .int .i64 x6.1.c, .slice A6 x6.1.l.length c6] 24)))
      replace S6 := Lib.hid (S6.out.later (below_al (below_0 _) (.cells #[.int .i64 x6.1.r, .int .i64 x6.1.c, .slice A6 x6.1.l.length c6] 24)))
      replace X1 := Lib.hid (X1.out.alloc (.cells #[.int .i64 x6.1.r, .int .i64 x6.1.c, .slice A6 x6.1.l.length c6] 24))
      replace X2 := Lib.hid (X2.out.alloc (.cells #[.int .i64 x6.1.r, .int .i64 x6.1.c, .slice A6 x6.1.l.length c6] 24))
      replace X3 := Lib.hid (X3.out.alloc (.cells #[.int .i64 x6.1.r, .int .i64 x6.1.c, .slice A6 x6.1.l.length c6] 24))
      replace X4 := Lib.hid (X4.out.alloc (.cells #[.int .i64 x6.1.r, .int .i64 x6.1.c, .slice A6 x6.1.l.length c6] 24))
      replace X5 := Lib.hid (X5.out.alloc (.cells #[.int .i64 x6.1.r, .int .i64 x6.1.c, .slice A6 x6.1.l.length c6] 24))
      replace T := below_al T (.cells #[.int .i64 x6.1.r, .int .i64 x6.1.c, .slice A6 x6.1.l.length c6] 24)
      generalize w6.alloc (.cells #[.int .i64 x6.1.r, .int .i64 x6.1.c, .slice A6 x6.1.l.length c6] 24) = V6 at *
      refine (same_any x6.1.r x6.1.c x6.1.r x6.1.c A5 A1 x6.1.l x6.1.l c5 c1 _ S5.out S1.out (by omega) (by omega)).mono ?_
      rintro e w8 ⟨rfl, hb8⟩
      rw [sameB_self]
      replace SL := Lib.hid (SL.out.later hb8)
      replace S1 := Lib.hid (S1.out.later hb8)
      replace SK := Lib.hid (SK.out.later hb8)
      replace SD := Lib.hid (SD.out.later hb8)
      replace S2 := Lib.hid (S2.out.later hb8)
      replace S3 := Lib.hid (S3.out.later hb8)
      replace S7 := Lib.hid (S7.out.later hb8)
      replace S4 := Lib.hid (S4.out.later hb8)
      replace S5 := Lib.hid (S5.out.later hb8)
      replace S6 := Lib.hid (S6.out.later hb8)
      replace X1 := Lib.hid (X1.out.later hb8)
      replace X2 := Lib.hid (X2.out.later hb8)
      replace X3 := Lib.hid (X3.out.later hb8)
      replace X4 := Lib.hid (X4.out.later hb8)
      replace X5 := Lib.hid (X5.out.later hb8)
      replace X6 := Lib.hid (X6.out.later hb8)
      replace T := Below.two T hb8
      clear hb8
      have k0X1 := X1.out.c0
      have k1X1 := X1.out.c1
      have k2X1 := X1.out.c2
      have kzX1 := X1.out.lt
      have k0X2 := X2.out.c0
      have k1X2 := X2.out.c1
      have k2X2 := X2.out.c2
      have kzX2 := X2.out.lt
      have k0X3 := X3.out.c0
      have k1X3 := X3.out.c1
      have k2X3 := X3.out.c2
      have kzX3 := X3.out.lt
      have k0X4 := X4.out.c0
      have k1X4 := X4.out.c1
      have k2X4 := X4.out.c2
      have kzX4 := X4.out.lt
      have k0X5 := X5.out.c0
      have k1X5 := X5.out.c1
      have k2X5 := X5.out.c2
      have kzX5 := X5.out.lt
      have k0X6 := X6.out.c0
      have k1X6 := X6.out.c1
      have k2X6 := X6.out.c2
      have kzX6 := X6.out.lt
      go_wp2_with fail
      refine (same_any x6.1.r x6.1.c x6.1.r x6.1.c A6 A1 x6.1.l x6.1.l c6 c1 _ S6.out S1.out (by omega) (by omega)).mono ?_
      rintro e w9 ⟨rfl, hb9⟩
      rw [sameB_self]
      clear k0X1 k1X1 k2X1 kzX1 k0X2 k1X2 k2X2 kzX2 k0X3 k1X3 k2X3 kzX3 k0X4 k1X4 k2X4 kzX4 k0X5 k1X5 k2X5 kzX5 k0X6 k1X6 k2X6 kzX6
      replace SL := Lib.hid (SL.out.later hb9)
      replace S1 := Lib.hid (S1.out.later hb9)
      replace SK := Lib.hid (SK.out.later hb9)
      replace SD := Lib.hid (SD.out.later hb9)
      replace S2 := Lib.hid (S2.out.later hb9)
      replace S3 := Lib.hid (S3.out.later hb9)
      replace S7 := Lib.hid (S7.out.later hb9)
      replace S4 := Lib.hid (S4.out.later hb9)
      replace S5 := Lib.hid (S5.out.later hb9)
      replace S6 := Lib.hid (S6.out.later hb9)
      replace X1 := Lib.hid (X1.out.later hb9)
      replace X2 := Lib.hid (X2.out.later hb9)
      replace X3 := Lib.hid (X3.out.later hb9)
      replace X4 := Lib.hid (X4.out.later hb9)
      replace X5 := Lib.hid (X5.out.later hb9)
      replace X6 := Lib.hid (X6.out.later hb9)
      replace T := Below.two T hb9
      clear hb9
      have k0X1 := X1.out.c0
      have k1X1 := X1.out.c1
      have k2X1 := X1.out.c2
      have kzX1 := X1.out.lt
      have k0X2 := X2.out.c0
      have k1X2 := X2.out.c1
      have k2X2 := X2.out.c2
      have kzX2 := X2.out.lt
      have k0X3 := X3.out.c0
      have k1X3 := X3.out.c1
      have k2X3 := X3.out.c2
      have kzX3 := X3.out.lt
      have k0X4 := X4.out.c0
      have k1X4 := X4.out.c1
      have k2X4 := X4.out.c2
      have kzX4 := X4.out.lt
      have k0X5 := X5.out.c0
      have k1X5 := X5.out.c1
      have k2X5 := X5.out.c2
      have kzX5 := X5.out.lt
      have k0X6 := X6.out.c0
      have k1X6 := X6.out.c1
      have k2X6 := X6.out.c2
      have kzX6 := X6.out.lt
      go_wp2_with fail
      refine (same_any x6.1.r x6.1.c x6.1.r x6.1.c A4 A1 x6.1.l x6.1.l c4 c1 _ S4.out S1.out (by omega) (by omega)).mono ?_
      rintro e w10 ⟨rfl, hb10⟩
      rw [sameB_self]
      clear k0X1 k1X1 k2X1 kzX1 k0X2 k1X2 k2X2 kzX2 k0X3 k1X3 k2X3 kzX3 k0X4 k1X4 k2X4 kzX4 k0X5 k1X5 k2X5 kzX5 k0X6 k1X6 k2X6 kzX6
      replace SL := Lib.hid (SL.out.later hb10)
      replace S1 := Lib.hid (S1.out.later hb10)
      replace SK := Lib.hid (SK.out.later hb10)
      replace SD := Lib.hid (SD.out.later hb10)
      replace S2 := Lib.hid (S2.out.later hb10)
      replace S3 := Lib.hid (S3.out.later hb10)
      replace S7 := Lib.hid (S7.out.later hb10)
      replace S4 := Lib.hid (S4.out.later hb10)
      replace S5 := Lib.hid (S5.out.later hb10)
      replace S6 := Lib.hid (S6.out.later hb10)
      replace X1 := Lib.hid (X1.out.later hb10)
      replace X2 := Lib.hid (X2.out.later hb10)
      replace X3 := Lib.hid (X3.out.later hb10)
      replace X4 := Lib.hid (X4.out.later hb10)
      replace X5 := Lib.hid (X5.out.later hb10)
      replace X6 := Lib.hid (X6.out.later hb10)
      replace T := Below.two T hb10
      clear hb10
      have k0X1 := X1.out.c0
      have k1X1 := X1.out.c1
      have k2X1 := X1.out.c2
      have kzX1 := X1.out.lt
      have k0X2 := X2.out.c0
      have k1X2 := X2.out.c1
      have k2X2 := X2.out.c2
      have kzX2 := X2.out.lt
      have k0X3 := X3.out.c0
      have k1X3 := X3.out.c1
      have k2X3 := X3.out.c2
      have kzX3 := X3.out.lt
      have k0X4 := X4.out.c0
      have k1X4 := X4.out.c1
      have k2X4 := X4.out.c2
      have kzX4 := X4.out.lt
      have k0X5 := X5.out.c0
      have k1X5 := X5.out.c1
      have k2X5 := X5.out.c2
      have kzX5 := X5.out.lt
      have k0X6 := X6.out.c0
      have k1X6 := X6.out.c1
      have k2X6 := X6.out.c2
      have kzX6 := X6.out.lt
      go_wp2_with fail
      go_ret
      exact ⟨rfl, T⟩
set_option maxHeartbeats 4000000 in
theorem parts_B (w : World) (rows cols at_ : Int) (K : Nat) (nl capl : Nat) (b off : Nat) (l : List (Int × Int)) (hU : UI l) (hsl : Si w w.heap.size (some ⟨b, off, none⟩) l)
    (hk : (if (100 : Int) < (nl : Int) then (100 : Int) else (nl : Int)) = (l.length : Int)) (hq : l.length ≤ capl) (hm : capl ≤ 9223372036854775807) (h100 : l.length ≤ 100) (hK : K ≤ l.length) (y : Int) (hy : (if (l.length : Int) < at_ then (l.length : Int) else at_) = y) (hyK : (if (0 : Int) < y then y else 0) = (K : Int)) (hcK : capl ≠ K) :
    Calls Try.prog 6 #[.int .i64 rows, .int .i64 cols, .slice (some ⟨b, off, none⟩) nl capl, .int .i64 at_] w fun e w' => e = .returned (.bool true) ∧ Below w.heap.size w w' := by
  have T := below_0 w
  have SL := Lib.hid hsl
  clear hsl
  obtain ⟨i0, hi0, hz0, hz1, hz2⟩ := info_parts Try.infoItem
  have HLT : Hid ((l.take K).length = K) := by show _ = _; rw [List.length_take]; omega
  have HLD : Hid ((l.drop K).length = l.length - K) := by show _ = _; rw [List.length_drop]
  go_enter Try.func6, Try.ntmps6
  go_wp2_with fail
  refine (shown_any _).mono ?_
  rintro e w90 ⟨rfl, hb90⟩
  replace SL := Lib.hid (SL.out.later hb90)
  replace T := Below.two T hb90
  clear hb90
  go_wp2_with fail
  clear hk hy hyK
  refine (of_any rows cols (some ⟨b, off, none⟩) l capl hU (by omega) _ SL.out).mono ?_
  rintro e w1 ⟨hb1, v1, rfl, hh1⟩
  obtain ⟨A1, c1, rfl, hc1, hA1, hS1, hF1⟩ := hh1
  replace SL := Lib.hid (SL.out.later hb1)
  replace T := Below.two T hb1
  obtain ⟨x1, hx1⟩ : ∃ x, ofC rows cols l = x := ⟨_, rfl⟩
  rw [hx1] at hS1 hc1 ⊢
  have HX1 := Lib.hid hx1
  clear hx1
  have S1 := Lib.hid hS1
  have F1 := Lib.hid hF1
  clear hS1 hF1 hA1 hb1
  go_wp2_with fail
  have X1 := Lib.hid (Blk.new w1 24 #[.int .i64 x1.1.r, .int .i64 x1.1.c, .slice A1 x1.1.l.length c1])
  replace SL := Lib.hid (SL.out.later (below_al (below_0 _) (.cells #[.int .i64 x1.1.r, .int .i64 x1.1.c, .slice A1 x1.1.l.length c1] 24)))
  replace S1 := Lib.hid (S1.out.later (below_al (below_0 _) (.cells #[.int .i64 x1.1.r, .int .i64 x1.1.c, .slice A1 x1.1.l.length c1] 24)))
  replace T := below_al T (.cells #[.int .i64 x1.1.r, .int .i64 x1.1.c, .slice A1 x1.1.l.length c1] 24)
  generalize w1.alloc (.cells #[.int .i64 x1.1.r, .int .i64 x1.1.c, .slice A1 x1.1.l.length c1] 24) = V1 at *
  have SK := Lib.hid (SL.out.take K)
  have SD : Hid (Si V1 V1.heap.size (some ⟨b, off + K * 2, none⟩) (l.drop K)) := SL.out.drop_ K
  refine (of_n rows cols (some ⟨b, off, none⟩) (l.take K) K capl HLT.out (hU.take _) (by rw [HLT.out]; omega) _ SK.out).mono ?_
  rintro e w2 ⟨hb2, v2, rfl, hh2⟩
  obtain ⟨A2, c2, rfl, hc2, hA2, hS2, hF2⟩ := hh2
  replace SL := Lib.hid (SL.out.later hb2)
  replace S1 := Lib.hid (S1.out.later hb2)
  replace SK := Lib.hid (SK.out.later hb2)
  replace SD := Lib.hid (SD.out.later hb2)
  replace X1 := Lib.hid (X1.out.later hb2)
  replace T := Below.two T hb2
  obtain ⟨x2, hx2⟩ : ∃ x, ofC rows cols (l.take K) = x := ⟨_, rfl⟩
  rw [hx2] at hS2 hc2 ⊢
  have HX2 := Lib.hid hx2
  clear hx2
  have S2 := Lib.hid hS2
  have F2 := Lib.hid hF2
  clear hS2 hF2 hA2 hb2
  have k0X1 := X1.out.c0
  have k1X1 := X1.out.c1
  have k2X1 := X1.out.c2
  have kzX1 := X1.out.lt
  go_wp2_with fail
  clear k0X1 k1X1 k2X1 kzX1
  have X2 := Lib.hid (Blk.new w2 24 #[.int .i64 x2.1.r, .int .i64 x2.1.c, .slice A2 x2.1.l.length c2])
  replace SL := Lib.hid (SL.out.later (below_al (below_0 _) (.cells #[.int .i64 x2.1.r, .int .i64 x2.1.c, .slice A2 x2.1.l.length c2] 24)))
  replace S1 := Lib.hid (S1.out.later (below_al (below_0 _) (.cells #[.int .i64 x2.1.r, .int .i64 x2.1.c, .slice A2 x2.1.l.length c2] 24)))
  replace SK := Lib.hid (SK.out.later (below_al (below_0 _) (.cells #[.int .i64 x2.1.r, .int .i64 x2.1.c, .slice A2 x2.1.l.length c2] 24)))
  replace SD := Lib.hid (SD.out.later (below_al (below_0 _) (.cells #[.int .i64 x2.1.r, .int .i64 x2.1.c, .slice A2 x2.1.l.length c2] 24)))
  replace S2 := Lib.hid (S2.out.later (below_al (below_0 _) (.cells #[.int .i64 x2.1.r, .int .i64 x2.1.c, .slice A2 x2.1.l.length c2] 24)))
  replace X1 := Lib.hid (X1.out.alloc (.cells #[.int .i64 x2.1.r, .int .i64 x2.1.c, .slice A2 x2.1.l.length c2] 24))
  replace T := below_al T (.cells #[.int .i64 x2.1.r, .int .i64 x2.1.c, .slice A2 x2.1.l.length c2] 24)
  generalize w2.alloc (.cells #[.int .i64 x2.1.r, .int .i64 x2.1.c, .slice A2 x2.1.l.length c2] 24) = V2 at *
  refine (of_n rows cols (some ⟨b, off + K * 2, none⟩) (l.drop K) (l.length - K) (capl - K) HLD.out (hU.drop _) (by rw [HLD.out]; omega) _ SD.out).mono ?_
  rintro e w3 ⟨hb3, v3, rfl, hh3⟩
  obtain ⟨A3, c3, rfl, hc3, hA3, hS3, hF3⟩ := hh3
  replace SL := Lib.hid (SL.out.later hb3)
  replace S1 := Lib.hid (S1.out.later hb3)
  replace SK := Lib.hid (SK.out.later hb3)
  replace SD := Lib.hid (SD.out.later hb3)
  replace S2 := Lib.hid (S2.out.later hb3)
  replace X1 := Lib.hid (X1.out.later hb3)
  replace X2 := Lib.hid (X2.out.later hb3)
  replace T := Below.two T hb3
  obtain ⟨x3, hx3⟩ : ∃ x, ofC rows cols (l.drop K) = x := ⟨_, rfl⟩
  rw [hx3] at hS3 hc3 ⊢
  have HX3 := Lib.hid hx3
  clear hx3
  have S3 := Lib.hid hS3
  have F3 := Lib.hid hF3
  clear hS3 hF3 hA3 hb3
  have k0X1 := X1.out.c0
  have k1X1 := X1.out.c1
  have k2X1 := X1.out.c2
  have kzX1 := X1.out.lt
  have k0X2 := X2.out.c0
  have k1X2 := X2.out.c1
  have k2X2 := X2.out.c2
  have kzX2 := X2.out.lt
  by_cases he1 : ¬ x1.2 = 0
  · have d1 : (x1.2 != 0) = true := by simp [he1]
    have e80 : x1.2 = 80 := by
      have := ofC_err hU (by rw [HX1.out]; exact he1)
      rw [HX1.out] at this
      rw [this]
    clear he1
    go_wp2_with fail
    go_ret
    exact ⟨rfl, below_al T _⟩
  replace he1 := Classical.not_not.1 he1
  have d1 : (x1.2 != 0) = false := by simp [he1]
  have HE1 := Lib.hid he1
  clear he1
  go_wp2_with fail
  clear k0X1 k1X1 k2X1 kzX1 k0X2 k1X2 k2X2 kzX2
  have X3 := Lib.hid (Blk.new w3 24 #[.int .i64 x3.1.r, .int .i64 x3.1.c, .slice A3 x3.1.l.length c3])
  replace SL := Lib.hid (SL.out.later (below_al (below_0 _) (.cells #[.int .i64 x3.1.r, .int .i64 x3.1.c, .slice A3 x3.1.l.length c3] 24)))
  replace S1 := Lib.hid (S1.out.later (below_al (below_0 _) (.cells #[.int .i64 x3.1.r, .int .i64 x3.1.c, .slice A3 x3.1.l.length c3] 24)))
  replace SK := Lib.hid (SK.out.later (below_al (below_0 _) (.cells #[.int .i64 x3.1.r, .int .i64 x3.1.c, .slice A3 x3.1.l.length c3] 24)))
  replace SD := Lib.hid (SD.out.later (below_al (below_0 _) (.cells #[.int .i64 x3.1.r, .int .i64 x3.1.c, .slice A3 x3.1.l.length c3] 24)))
  replace S2 := Lib.hid (S2.out.later (below_al (below_0 _) (.cells #[.int .i64 x3.1.r, .int .i64 x3.1.c, .slice A3 x3.1.l.length c3] 24)))
  replace S3 := Lib.hid (S3.out.later (below_al (below_0 _) (.cells #[.int .i64 x3.1.r, .int .i64 x3.1.c, .slice A3 x3.1.l.length c3] 24)))
  replace X1 := Lib.hid (X1.out.alloc (.cells #[.int .i64 x3.1.r, .int .i64 x3.1.c, .slice A3 x3.1.l.length c3] 24))
  replace X2 := Lib.hid (X2.out.alloc (.cells #[.int .i64 x3.1.r, .int .i64 x3.1.c, .slice A3 x3.1.l.length c3] 24))
  replace T := below_al T (.cells #[.int .i64 x3.1.r, .int .i64 x3.1.c, .slice A3 x3.1.l.length c3] 24)
  generalize w3.alloc (.cells #[.int .i64 x3.1.r, .int .i64 x3.1.c, .slice A3 x3.1.l.length c3] 24) = V3 at *
  clear d1
  obtain ⟨p2, p3, p4, p5, p6⟩ := parts_law hU (by rw [HX1.out]; exact HE1.out) K
  rw [HX1.out, HX2.out, HX3.out] at p5 p6
  rw [HX2.out] at p2
  rw [HX3.out] at p3
  rw [HX1.out] at p4
  have P2 := Lib.hid p2
  have P3 := Lib.hid p3
  have P4 := Lib.hid p4
  have P5 := Lib.hid p5
  have P6 := Lib.hid p6
  clear p2 p3 p4 p5 p6
  have U1 : Us x1.1.l := by rw [← HX1.out]; exact ofC_us _ _ hU
  have L1 : x1.1.l.length ≤ 128 := by rw [← HX1.out]; exact ofC_len _ _ _
  have U2 : Us x2.1.l := by rw [← HX2.out]; exact ofC_us _ _ (hU.take _)
  have U3 : Us x3.1.l := by rw [← HX3.out]; exact ofC_us _ _ (hU.drop _)
  go_loopw [16, 17] (fun v i wr => ∃ j : Nat, j ≤ l.length ∧ i = .int .i64 ((j : Int) - 1) ∧ wr.ownsRow V3.heap.size 43 2 v (l.length - j) (flat (l.reverse.take (l.length - j))) ∧ Below V3.heap.size V3 wr) (fun _ i _ => (intOf i + 1).toNat)
  case atStart => exact ⟨l.length, Nat.le_refl _, rfl, by rw [Nat.sub_self]; exact World.ownsRow_nil _ _ _ _, below_0 _⟩
  case round =>
    obtain ⟨j, hj, rfl, hown, hb⟩ := hrel
    cases j with
    | succ j =>
      have hji : ((j + 1 : Nat) : Int) - 1 = (j : Int) := by omega
      rw [hji]
      clear hji
      obtain ⟨b', off', e9, hb9, hcs⟩ := SL.out.at_ (by omega)
      cases e9
      obtain ⟨i1, i2⟩ := hcs j (by omega)
      have j1 := (hb.cell (p := ⟨b, off + j * 2, none⟩) hb9).trans i1
      have j2 := (hb.cell (p := ⟨b, off + j * 2 + 1, none⟩) hb9).trans i2
      have hrt : l.reverse.take (l.length - j) = l.reverse.take (l.length - (j + 1)) ++ [ith l j] := by
        have := rev_take_succ (l := l) (k := l.length - (j + 1)) (by omega)
        rw [show l.length - (j + 1) + 1 = l.length - j by omega, show l.length - 1 - (l.length - (j + 1)) = j by omega] at this
        exact this
      have HRT : Hid (flat (l.reverse.take (l.length - j)) = flat (l.reverse.take (l.length - (j + 1))) ++ [.int .u64 (ith l j).1, .int .u64 (ith l j).2]) := by
        show _ = _
        rw [hrt, flat_append]; rfl
      have HNN : Hid (l.length - (j + 1) + 1 = l.length - j) := by show _ = _; omega
      have HO := Lib.hid (hown.alloc (.cells #[.int .u64 (ith l j).1, .int .u64 (ith l j).2] 43))
      have HR : Hid (Rd (wr.alloc (.cells #[.int .u64 (ith l j).1, .int .u64 (ith l j).2] 43)) (wr.heap.size + 1) (some ⟨wr.heap.size, 0, none⟩) [.int .u64 (ith l j).1, .int .u64 (ith l j).2]) := fun _ =>
        ⟨wr.heap.size, 0, rfl, by omega, fun i u hu => by rw [Nat.zero_add, (Blk.new wr 43 #[.int .u64 (ith l j).1, .int .u64 (ith l j).2]).cell]; simpa using hu⟩
      have hbz := hb.size
      have hnb : l.length - (j + 1) + 1 ≤ 200 := by omega
      clear hcs i1 i2 hrt hown
      go_wp2_with (
        at_builtin
        refine wpList_append_rd _ rfl (.tmp 74) (.tmp 79) 37 rfl V3.heap.size 43 i0 (.agg #[.int .u64 0, .int .u64 0]) 2 16 Try.underlying37 hi0 hz0 hz1 hz2 rfl (by decide) _ (l.length - (j + 1)) _ rfl HO.out (wr.heap.size + 1) (some ⟨wr.heap.size, 0, none⟩) 1 1 [.int .u64 (ith l j).1, .int .u64 (ith l j).2] rfl (by simp) HR.out (by intro u hu; simp at hu; rcases hu with rfl | rfl <;> rfl) (by unfold maxLen; omega) (by omega) (by simp; omega) ?_
        intro v2 w2 hown2 hg2 _
        rw [← HRT.out, HNN.out] at hown2
        have hb2 : Below V3.heap.size V3 w2 := (below_al hb (.cells #[.int .u64 (ith l j).1, .int .u64 (ith l j).2] 43)).grown hg2 (by simp; omega) (fun q e => own_base' HO.out q e)
        have HO2 := Lib.hid hown2
        clear hown2 hg2)
      go_roundw
      case rel => exact ⟨j, by omega, rfl, HO2.out, hb2⟩
      case measure => simp [intOf]
    | zero =>
      rw [Nat.sub_zero, List.take_of_length_le (by simp)] at hown
      obtain ⟨A7, c7, rfl, hc7, hR7, hF7⟩ := owns_form hown
      have S7 : Hid (Si wr wr.heap.size A7 l.reverse) := hR7
      clear hown hR7 hF7
      replace SL := Lib.hid (SL.out.later hb)
      replace S1 := Lib.hid (S1.out.later hb)
      replace SK := Lib.hid (SK.out.later hb)
      replace SD := Lib.hid (SD.out.later hb)
      replace S2 := Lib.hid (S2.out.later hb)
      replace S3 := Lib.hid (S3.out.later hb)
      replace X1 := Lib.hid (X1.out.later hb)
      replace X2 := Lib.hid (X2.out.later hb)
      replace X3 := Lib.hid (X3.out.later hb)
      replace T := Below.two T hb
      have k0X1 := X1.out.c0
      have k1X1 := X1.out.c1
      have k2X1 := X1.out.c2
      have kzX1 := X1.out.lt
      have k0X2 := X2.out.c0
      have k1X2 := X2.out.c1
      have k2X2 := X2.out.c2
      have kzX2 := X2.out.lt
      have k0X3 := X3.out.c0
      have k1X3 := X3.out.c1
      have k2X3 := X3.out.c2
      have kzX3 := X3.out.lt
      go_wp2_with fail
      refine (of_n rows cols A7 l.reverse l.length c7 (by simp) hU.reverse (by simp; omega) _ S7.out).mono ?_
      rintro e w4 ⟨hb4, v4, rfl, hh4⟩
      obtain ⟨A4, c4, rfl, hc4, hA4, hS4, hF4⟩ := hh4
      clear k0X1 k1X1 k2X1 kzX1 k0X2 k1X2 k2X2 kzX2 k0X3 k1X3 k2X3 kzX3
      replace SL := Lib.hid (SL.out.later hb4)
      replace S1 := Lib.hid (S1.out.later hb4)
      replace SK := Lib.hid (SK.out.later hb4)
      replace SD := Lib.hid (SD.out.later hb4)
      replace S2 := Lib.hid (S2.out.later hb4)
      replace S3 := Lib.hid (S3.out.later hb4)
      replace S7 := Lib.hid (S7.out.later hb4)
      replace X1 := Lib.hid (X1.out.later hb4)
      replace X2 := Lib.hid (X2.out.later hb4)
      replace X3 := Lib.hid (X3.out.later hb4)
      replace T := Below.two T hb4
      obtain ⟨x4, hx4⟩ : ∃ x, ofC rows cols l.reverse = x := ⟨_, rfl⟩
      rw [hx4] at hS4 hc4 ⊢
      have HX4 := Lib.hid hx4
      clear hx4
      have S4 := Lib.hid hS4
      have F4 := Lib.hid hF4
      clear hS4 hF4 hA4 hb4
      have k0X1 := X1.out.c0
      have k1X1 := X1.out.c1
      have k2X1 := X1.out.c2
      have kzX1 := X1.out.lt
      have k0X2 := X2.out.c0
      have k1X2 := X2.out.c1
      have k2X2 := X2.out.c2
      have kzX2 := X2.out.lt
      have k0X3 := X3.out.c0
      have k1X3 := X3.out.c1
      have k2X3 := X3.out.c2
      have kzX3 := X3.out.lt
      go_wp2_with fail
      clear k0X1 k1X1 k2X1 kzX1 k0X2 k1X2 k2X2 kzX2 k0X3 k1X3 k2X3 kzX3
      have X4 := Lib.hid (Blk.new w4 24 #[.int .i64 x4.1.r, .int .i64 x4.1.c, .slice A4 x4.1.l.length c4])
      replace SL := Lib.hid (SL.out.later (below_al (below_0 _) (.cells #[.int .i64 x4.1.r, .int .i64 x4.1.c, .slice A4 x4.1.l.length c4] 24)))
      replace S1 := Lib.hid (S1.out.later (below_al (below_0 _) (.cells #[.int .i64 x4.1.r, .int .i64 x4.1.c, .slice A4 x4.1.l.length c4] 24)))
      replace SK := Lib.hid (SK.out.later (below_al (below_0 _) (.cells #[.int .i64 x4.1.r, .int .i64 x4.1.c, .slice A4 x4.1.l.length c4] 24)))
      replace SD := Lib.hid (SD.out.later (below_al (below_0 _) (.cells #[.int .i64 x4.1.r, .int .i64 x4.1.c, .slice A4 x4.1.l.length c4] 24)))
      replace S2 := Lib.hid (S2.out.later (below_al (below_0 _) (.cells #[.int .i64 x4.1.r, .int .i64 x4.1.c, .slice A4 x4.1.l.length c4] 24)))
      replace S3 := Lib.hid (S3.out.later (below_al (below_0 _) (.cells #[.int .i64 x4.1.r, .int .i64 x4.1.c, .slice A4 x4.1.l.length c4] 24)))
      replace S7 := Lib.hid (S7.out.later (below_al (below_0 _) (.cells #[.int .i64 x4.1.r, .int .i64 x4.1.c, .slice A4 x4.1.l.length c4] 24)))
      replace S4 := Lib.hid (S4.out.later (below_al (below_0 _) (.cells #[.int .i64 x4.1.r, .int .i64 x4.1.c, .slice A4 x4.1.l.length c4] 24)))
      replace X1 := Lib.hid (X1.out.alloc (.cells #[.int .i64 x4.1.r, .int .i64 x4.1.c, .slice A4 x4.1.l.length c4] 24))
      replace X2 := Lib.hid (X2.out.alloc (.cells #[.int .i64 x4.1.r, .int .i64 x4.1.c, .slice A4 x4.1.l.length c4] 24))
      replace X3 := Lib.hid (X3.out.alloc (.cells #[.int .i64 x4.1.r, .int .i64 x4.1.c, .slice A4 x4.1.l.length c4] 24))
      replace T := below_al T (.cells #[.int .i64 x4.1.r, .int .i64 x4.1.c, .slice A4 x4.1.l.length c4] 24)
      generalize w4.alloc (.cells #[.int .i64 x4.1.r, .int .i64 x4.1.c, .slice A4 x4.1.l.length c4] 24) = V4 at *
      refine (merge_any x2.1.r x2.1.c x3.1.r x3.1.c A2 A3 x2.1.l x3.1.l c2 c3 _ S2.out S3.out U2 U3).mono ?_
      rintro e w5 ⟨hb5, v5, rfl, hh5⟩
      obtain ⟨A5, c5, rfl, hc5, hA5, hS5, hF5⟩ := hh5
      replace SL := Lib.hid (SL.out.later hb5)
      replace S1 := Lib.hid (S1.out.later hb5)
      replace SK := Lib.hid (SK.out.later hb5)
      replace SD := Lib.hid (SD.out.later hb5)
      replace S2 := Lib.hid (S2.out.later hb5)
      replace S3 := Lib.hid (S3.out.later hb5)
      replace S7 := Lib.hid (S7.out.later hb5)
      replace S4 := Lib.hid (S4.out.later hb5)
      replace X1 := Lib.hid (X1.out.later hb5)
      replace X2 := Lib.hid (X2.out.later hb5)
      replace X3 := Lib.hid (X3.out.later hb5)
      replace X4 := Lib.hid (X4.out.later hb5)
      replace T := Below.two T hb5
      obtain ⟨x5, hx5⟩ : ∃ x, mergeC x2.1 x3.1 = x := ⟨_, rfl⟩
      rw [hx5] at hS5 hc5 ⊢
      have HX5 := Lib.hid hx5
      clear hx5
      have S5 := Lib.hid hS5
      have F5 := Lib.hid hF5
      clear hS5 hF5 hA5 hb5
      have k0X1 := X1.out.c0
      have k1X1 := X1.out.c1
      have k2X1 := X1.out.c2
      have kzX1 := X1.out.lt
      have k0X2 := X2.out.c0
      have k1X2 := X2.out.c1
      have k2X2 := X2.out.c2
      have kzX2 := X2.out.lt
      have k0X3 := X3.out.c0
      have k1X3 := X3.out.c1
      have k2X3 := X3.out.c2
      have kzX3 := X3.out.lt
      have k0X4 := X4.out.c0
      have k1X4 := X4.out.c1
      have k2X4 := X4.out.c2
      have kzX4 := X4.out.lt
      go_wp2_with fail
      clear k0X1 k1X1 k2X1 kzX1 k0X2 k1X2 k2X2 kzX2 k0X3 k1X3 k2X3 kzX3 k0X4 k1X4 k2X4 kzX4
      have X5 := Lib.hid (Blk.new w5 24 #[.int .i64 x5.1.r, .int .i64 x5.1.c, .slice A5 x5.1.l.length c5])
      replace SL := Lib.hid (SL.out.later (below_al (below_0 _) (.cells #[.int .i64 x5.1.r, .int .i64 x5.1.c, .slice A5 x5.1.l.length c5] 24)))
      replace S1 := Lib.hid (S1.out.later (below_al (below_0 _) (.cells #[.int .i64 x5.1.r, .int .i64 x5.1.c, .slice A5 x5.1.l.length c5] 24)))
      replace SK := Lib.hid (SK.out.later (below_al (below_0 _) (.cells #[.int .i64 x5.1.r, .int .i64 x5.1.c, .slice A5 x5.1.l.length c5] 24)))
      replace SD := Lib.hid (SD.out.later (below_al (below_0 _) (.cells #[.int .i64 x5.1.r, .int .i64 x5.1.c, .slice A5 x5.1.l.length c5] 24)))
      replace S2 := Lib.hid (S2.out.later (below_al (below_0 _) (.cells #[.int .i64 x5.1.r, .int .i64 x5.1.c, .slice A5 x5.1.l.length c5] 24)))
      replace S3 := Lib.hid (S3.out.later (below_al (below_0 _) (.cells #[.int .i64 x5.1.r, .int .i64 x5.1.c, .slice A5 x5.1.l.length c5] 24)))
      replace S7 := Lib.hid (S7.out.later (below_al (below_0 _) (.cells #[.int .i64 x5.1.r, .int .i64 x5.1.c, .slice A5 x5.1.l.length c5] 24)))
      replace S4 := Lib.hid (S4.out.later (below_al (below_0 _) (.cells #[.int .i64 x5.1.r, .int .i64 x5.1.c, .slice A5 x5.1.l.length c5] 24)))
      replace S5 := Lib.hid (S5.out.later (below_al (below_0 _) (.cells #[.int .i64 x5.1.r, .int .i64 x5.1.c, .slice A5 x5.1.l.length c5] 24)))
      replace X1 := Lib.hid (X1.out.alloc (.cells #[.int .i64 x5.1.r, .int .i64 x5.1.c, .slice A5 x5.1.l.length c5] 24))
      replace X2 := Lib.hid (X2.out.alloc (.cells #[.int .i64 x5.1.r, .int .i64 x5.1.c, .slice A5 x5.1.l.length c5] 24))
      replace X3 := Lib.hid (X3.out.alloc (.cells #[.int .i64 x5.1.r, .int .i64 x5.1.c, .slice A5 x5.1.l.length c5] 24))
      replace X4 := Lib.hid (X4.out.alloc (.cells #[.int .i64 x5.1.r, .int .i64 x5.1.c, .slice A5 x5.1.l.length c5] 24))
      replace T := below_al T (.cells #[.int .i64 x5.1.r, .int .i64 x5.1.c, .slice A5 x5.1.l.length c5] 24)
      generalize w5.alloc (.cells #[.int .i64 x5.1.r, .int .i64 x5.1.c, .slice A5 x5.1.l.length c5] 24) = V5 at *
      refine (merge_any x3.1.r x3.1.c x2.1.r x2.1.c A3 A2 x3.1.l x2.1.l c3 c2 _ S3.out S2.out U3 U2).mono ?_
      rintro e w6 ⟨hb6, v6, rfl, hh6⟩
      obtain ⟨A6, c6, rfl, hc6, hA6, hS6, hF6⟩ := hh6
      replace SL := Lib.hid (SL.out.later hb6)
      replace S1 := Lib.hid (S1.out.later hb6)
      replace SK := Lib.hid (SK.out.later hb6)
      replace SD := Lib.hid (SD.out.later hb6)
      replace S2 := Lib.hid (S2.out.later hb6)
      replace S3 := Lib.hid (S3.out.later hb6)
      replace S7 := Lib.hid (S7.out.later hb6)
      replace S4 := Lib.hid (S4.out.later hb6)
      replace S5 := Lib.hid (S5.out.later hb6)
      replace X1 := Lib.hid (X1.out.later hb6)
      replace X2 := Lib.hid (X2.out.later hb6)
      replace X3 := Lib.hid (X3.out.later hb6)
      replace X4 := Lib.hid (X4.out.later hb6)
      replace X5 := Lib.hid (X5.out.later hb6)
      replace T := Below.two T hb6
      obtain ⟨x6, hx6⟩ : ∃ x, mergeC x3.1 x2.1 = x := ⟨_, rfl⟩
      rw [hx6] at hS6 hc6 ⊢
      have HX6 := Lib.hid hx6
      clear hx6
      have S6 := Lib.hid hS6
      have F6 := Lib.hid hF6
      clear hS6 hF6 hA6 hb6
      have k0X1 := X1.out.c0
      have k1X1 := X1.out.c1
      have k2X1 := X1.out.c2
      have kzX1 := X1.out.lt
      have k0X2 := X2.out.c0
      have k1X2 := X2.out.c1
      have k2X2 := X2.out.c2
      have kzX2 := X2.out.lt
      have k0X3 := X3.out.c0
      have k1X3 := X3.out.c1
      have k2X3 := X3.out.c2
      have kzX3 := X3.out.lt
      have k0X4 := X4.out.c0
      have k1X4 := X4.out.c1
      have k2X4 := X4.out.c2
      have kzX4 := X4.out.lt
      have k0X5 := X5.out.c0
      have k1X5 := X5.out.c1
      have k2X5 := X5.out.c2
      have kzX5 := X5.out.lt
      have e4 : x4 = x1 := HX4.out.symm.trans P4.out
      have e5 : x5 = x1 := HX5.out.symm.trans P5.out
      have e6 : x6 = x1 := HX6.out.symm.trans P6.out
      subst e4 e5 e6
      have a1 := HE1.out
      have a2 := P2.out
      have a3 := P3.out
      go_wp2_with fail
      clear k0X1 k1X1 k2X1 kzX1 k0X2 k1X2 k2X2 kzX2 k0X3 k1X3 k2X3 kzX3 k0X4 k1X4 k2X4 kzX4 k0X5 k1X5 k2X5 kzX5
      have X6 := Lib.hid (Blk.new w6 24 #[.int .i64 x6.1.r, .int .i64 x6.1.c, .slice A6 x6.1.l.length c6])
      replace SL := Lib.hid (SL.out.later (below_al (below_0 _) (.cells #[.int .i64 x6.1.r, .int .i64 x6.1.c, .slice A6 x6.1.l.length c6] 24)))
      replace S1 := Lib.hid (S1.out.later (below_al (below_0 _) (.cells #[.int .i64 x6.1.r, .int .i64 x6.1.c, .slice A6 x6.1.l.length c6] 24)))
      replace SK := Lib.hid (SK.out.later (below_al (below_0 _) (.cells #[.int .i64 x6.1.r, .int .i64 x6.1.c, .slice A6 x6.1.l.length c6] 24)))
      replace SD := Lib.hid (SD.out.later (below_al (below_0 _) (.cells #[.int .i64 x6.1.r, .int .i64 x6.1.c, .slice A6 x6.1.l.length c6] 24)))
      replace S2 := Lib.hid (S2.out.later (below_al (below_0 _) (.cells #[.int .i64 x6.1.r, .int .i64 x6.1.c, .slice A6 x6.1.l.length c6] 24)))
      replace S3 := Lib.hid (S3.out.later (below_al (below_0 _) (.cells #[.int .i64 x6.1.r, .int .i64 x6.1.c, .slice A6 x6.1.l.length c6] 24)))
      replace S7 := Lib.hid (S7.out.later (below_al (below_0 _) (.cells #[.int .i64 x6.1.r, .int .i64 x6.1.c, .slice A6 x6.1.l.length c6] 24)))
      replace S4 := Lib.hid (S4.out.later (below_al (below_0 _) (.cells #[.int .i64 x6.1.r, .int .i64 x6.1.c, .slice A6 x6.1.l.length c6] 24)))
      replace S5 := Lib.hid (S5.out.later (below_al (below_0 _) (.cells #[.int .i64 x6.1.r, .int .i64 x6.1.c, .slice A6 x6.1.l.length c6] 24)))
      replace S6 := Lib.hid (S6.out.later (below_al (below_0 _) (.cells #[.int .i64 x6.1.r, .int .i64 x6.1.c, .slice A6 x6.1.l.length c6] 24)))
      replace X1 := Lib.hid (X1.out.alloc (.cells #[.int .i64 x6.1.r, .int .i64 x6.1.c, .slice A6 x6.1.l.length c6] 24))
      replace X2 := Lib.hid (X2.out.alloc (.cells #[.int .i64 x6.1.r, .int .i64 x6.1.c, .slice A6 x6.1.l.length c6] 24))
      replace X3 := Lib.hid (X3.out.alloc (.cells #[.int .i64 x6.1.r, .int .i64 x6.1.c, .slice A6 x6.1.l.length c6] 24))
      replace X4 := Lib.hid (X4.out.alloc (.cells #[.int .i64 x6.1.r, .int .i64 x6.1.c, .slice A6 x6.1.l.length c6] 24))
      replace X5 := Lib.hid (X5.out.alloc (.cells #[.int .i64 x6.1.r, .int .i64 x6.1.c, .slice A6 x6.1.l.length c6] 24))
      replace T := below_al T (.cells #[.int .i64 x6.1.r, .int .i64 x6.1.c, .slice A6 x6.1.l.length c6] 24)
      generalize w6.alloc (.cells #[.int .i64 x6.1.r, .int .i64 x6.1.c, .slice A6 x6.1.l.length c6] 24) = V6 at *
      refine (same_any x6.1.r x6.1.c x6.1.r x6.1.c A5 A1 x6.1.l x6.1.l c5 c1 _ S5.out S1.out (by omega) (by omega)).mono ?_
      rintro e w8 ⟨rfl, hb8⟩
      rw [sameB_self]
      replace SL := Lib.hid (SL.out.later hb8)
      replace S1 := Lib.hid (S1.out.later hb8)
      replace SK := Lib.hid (SK.out.later hb8)
      replace SD := Lib.hid (SD.out.later hb8)
      replace S2 := Lib.hid (S2.out.later hb8)
      replace S3 := Lib.hid (S3.out.later hb8)
      replace S7 := Lib.hid (S7.out.later hb8)
      replace S4 := Lib.hid (S4.out.later hb8)
      replace S5 := Lib.hid (S5.out.later hb8)
      replace S6 := Lib.hid (S6.out.later hb8)
      replace X1 := Lib.hid (X1.out.later hb8)
      replace X2 := Lib.hid (X2.out.later hb8)
      replace X3 := Lib.hid (X3.out.later hb8)
      replace X4 := Lib.hid (X4.out.later hb8)
      replace X5 := Lib.hid (X5.out.later hb8)
      replace X6 := Lib.hid (X6.out.later hb8)
      replace T := Below.two T hb8
      clear hb8
      have k0X1 := X1.out.c0
      have k1X1 := X1.out.c1
      have k2X1 := X1.out.c2
      have kzX1 := X1.out.lt
      have k0X2 := X2.out.c0
      have k1X2 := X2.out.c1
      have k2X2 := X2.out.c2
      have kzX2 := X2.out.lt
      have k0X3 := X3.out.c0
      have k1X3 := X3.out.c1
      have k2X3 := X3.out.c2
      have kzX3 := X3.out.lt
      have k0X4 := X4.out.c0
      have k1X4 := X4.out.c1
      have k2X4 := X4.out.c2
      have kzX4 := X4.out.lt
      have k0X5 := X5.out.c0
      have k1X5 := X5.out.c1
      have k2X5 := X5.out.c2
      have kzX5 := X5.out.lt
      have k0X6 := X6.out.c0
      have k1X6 := X6.out.c1
      have k2X6 := X6.out.c2
      have kzX6 := X6.out.lt
      go_wp2_with fail
      refine (same_any x6.1.r x6.1.c x6.1.r x6.1.c A6 A1 x6.1.l x6.1.l c6 c1 _ S6.out S1.out (by omega) (by omega)).mono ?_
      rintro e w9 ⟨rfl, hb9⟩
      rw [sameB_self]
      clear k0X1 k1X1 k2X1 kzX1 k0X2 k1X2 k2X2 kzX2 k0X3 k1X3 k2X3 kzX3 k0X4 k1X4 k2X4 kzX4 k0X5 k1X5 k2X5 kzX5 k0X6 k1X6 k2X6 kzX6
      replace SL := Lib.hid (SL.out.later hb9)
      replace S1 := Lib.hid (S1.out.later hb9)
      replace SK := Lib.hid (SK.out.later hb9)
      replace SD := Lib.hid (SD.out.later hb9)
      replace S2 := Lib.hid (S2.out.later hb9)
      replace S3 := Lib.hid (S3.out.later hb9)
      replace S7 := Lib.hid (S7.out.later hb9)
      replace S4 := Lib.hid (S4.out.later hb9)
      replace S5 := Lib.hid (S5.out.later hb9)
      replace S6 := Lib.hid (S6.out.later hb9)
      replace X1 := Lib.hid (X1.out.later hb9)
      replace X2 := Lib.hid (X2.out.later hb9)
      replace X3 := Lib.hid (X3.out.later hb9)
      replace X4 := Lib.hid (X4.out.later hb9)
      replace X5 := Lib.hid (X5.out.later hb9)
      replace X6 := Lib.hid (X6.out.later hb9)
      replace T := Below.two T hb9
      clear hb9
      have k0X1 := X1.out.c0
      have k1X1 := X1.out.c1
      have k2X1 := X1.out.c2
      have kzX1 := X1.out.lt
      have k0X2 := X2.out.c0
      have k1X2 := X2.out.c1
      have k2X2 := X2.out.c2
      have kzX2 := X2.out.lt
      have k0X3 := X3.out.c0
      have k1X3 := X3.out.c1
      have k2X3 := X3.out.c2
      have kzX3 := X3.out.lt
      have k0X4 := X4.out.c0
      have k1X4 := X4.out.c1
      have k2X4 := X4.out.c2
      have kzX4 := X4.out.lt
      have k0X5 := X5.out.c0
      have k1X5 := X5.out.c1
      have k2X5 := X5.out.c2
      have kzX5 := X5.out.lt
      have k0X6 := X6.out.c0
      have k1X6 := X6.out.c1
      have k2X6 := X6.out.c2
      have kzX6 := X6.out.lt
      go_wp2_with fail
      refine (same_any x6.1.r x6.1.c x6.1.r x6.1.c A4 A1 x6.1.l x6.1.l c4 c1 _ S4.out S1.out (by omega) (by omega)).mono ?_
      rintro e w10 ⟨rfl, hb10⟩
      rw [sameB_self]
      clear k0X1 k1X1 k2X1 kzX1 k0X2 k1X2 k2X2 kzX2 k0X3 k1X3 k2X3 kzX3 k0X4 k1X4 k2X4 kzX4 k0X5 k1X5 k2X5 kzX5 k0X6 k1X6 k2X6 kzX6
      replace SL := Lib.hid (SL.out.later hb10)
      replace S1 := Lib.hid (S1.out.later hb10)
      replace SK := Lib.hid (SK.out.later hb10)
      replace SD := Lib.hid (SD.out.later hb10)
      replace S2 := Lib.hid (S2.out.later hb10)
      replace S3 := Lib.hid (S3.out.later hb10)
      replace S7 := Lib.hid (S7.out.later hb10)
      replace S4 := Lib.hid (S4.out.later hb10)
      replace S5 := Lib.hid (S5.out.later hb10)
      replace S6 := Lib.hid (S6.out.later hb10)
      replace X1 := Lib.hid (X1.out.later hb10)
      replace X2 := Lib.hid (X2.out.later hb10)
      replace X3 := Lib.hid (X3.out.later hb10)
      replace X4 := Lib.hid (X4.out.later hb10)
      replace X5 := Lib.hid (X5.out.later hb10)
      replace X6 := Lib.hid (X6.out.later hb10)
      replace T := Below.two T hb10
      clear hb10
      have k0X1 := X1.out.c0
      have k1X1 := X1.out.c1
      have k2X1 := X1.out.c2
      have kzX1 := X1.out.lt
      have k0X2 := X2.out.c0
      have k1X2 := X2.out.c1
      have k2X2 := X2.out.c2
      have kzX2 := X2.out.lt
      have k0X3 := X3.out.c0
      have k1X3 := X3.out.c1
      have k2X3 := X3.out.c2
      have kzX3 := X3.out.lt
      have k0X4 := X4.out.c0
      have k1X4 := X4.out.c1
      have k2X4 := X4.out.c2
      have kzX4 := X4.out.lt
      have k0X5 := X5.out.c0
      have k1X5 := X5.out.c1
      have k2X5 := X5.out.c2
      have kzX5 := X5.out.lt
      have k0X6 := X6.out.c0
      have k1X6 := X6.out.c1
      have k2X6 := X6.out.c2
      have kzX6 := X6.out.lt
      go_wp2_with fail
      go_ret
      exact ⟨rfl, T⟩
end Go.Proofs.Ythjdonhabenmcaa

/-
  The walk of the law aviarylaw08.CmsCounts: call by call, each callee by its contract.
-/
import Derived.Test.YthjdonhabenmcaaCmsShown
import Derived.Test.YthjdonhabenmcaaCmsLaws3
namespace Go.Proofs.Ythjdonhabenmcaa
open Go.RowKit
set_option linter.unusedVariables false
set_option maxHeartbeats 4000000 in
theorem counts_walk (w : World) (rows cols h : Int) (nl capl : Nat) (al : Option Addr) (l : List (Int × Int)) (hU : UI l) (hh : U h) (hsl : Si w w.heap.size al l)
    (hk : (if (100 : Int) < (nl : Int) then (100 : Int) else (nl : Int)) = (l.length : Int)) (hq : l.length ≤ capl) (hm : capl ≤ 9223372036854775807) (h100 : l.length ≤ 100) :
    Calls Try.prog 5 #[.int .i64 rows, .int .i64 cols, .slice al nl capl, .int .u64 h] w fun e w' => e = .returned (.bool true) ∧ Below w.heap.size w w' := by
  have T := below_0 w
  have SL := Lib.hid hsl
  clear hsl
  go_enter Try.func5, Try.ntmps5
  go_wp2_with fail
  refine (shown_any _).mono ?_
  rintro e w90 ⟨rfl, hb90⟩
  replace SL := Lib.hid (SL.out.later hb90)
  replace T := Below.two T hb90
  clear hb90
  go_wp2_with fail
  clear hk
  refine (of_any rows cols al l capl hU (by omega) _ SL.out).mono ?_
  rintro e w1 ⟨hb1, v1, rfl, hh1⟩
  obtain ⟨A1, c1, rfl, hc1, hA1, hS1, hF1⟩ := hh1
  replace SL := Lib.hid (SL.out.later hb1)
  replace T := Below.two T hb1
  obtain ⟨x1, hx1⟩ : ∃ x, ofC rows cols l = x := ⟨_, rfl⟩
  rw [hx1] at hS1 hc1 ⊢
  have HX1 := Lib.hid hx1
  clear hx1
  have S1 := Lib.hid hS1
  have F1 := Lib.hid hF1
  clear hS1 hF1 hA1 hb1
  by_cases he1 : ¬ x1.2 = 0
  · have d1 : (x1.2 != 0) = true := by simp [he1]
    clear he1
    go_wp2_with fail
    go_ret
    exact ⟨rfl, below_al T _⟩
  replace he1 := Classical.not_not.1 he1
  have d1 : (x1.2 != 0) = false := by simp [he1]
  have HE1 := Lib.hid he1
  clear he1
  go_wp2_with fail
  clear d1
  have X1 := Lib.hid (Blk.new w1 24 #[.int .i64 x1.1.r, .int .i64 x1.1.c, .slice A1 x1.1.l.length c1])
  replace SL := Lib.hid (SL.out.later (below_al (below_0 _) (.cells #[.int .i64 x1.1.r, .int .i64 x1.1.c, .slice A1 x1.1.l.length c1] 24)))
  replace S1 := Lib.hid (S1.out.later (below_al (below_0 _) (.cells #[.int .i64 x1.1.r, .int .i64 x1.1.c, .slice A1 x1.1.l.length c1] 24)))
  replace T := below_al T (.cells #[.int .i64 x1.1.r, .int .i64 x1.1.c, .slice A1 x1.1.l.length c1] 24)
  generalize w1.alloc (.cells #[.int .i64 x1.1.r, .int .i64 x1.1.c, .slice A1 x1.1.l.length c1] 24) = V1 at *
  obtain ⟨p1, p2, p3⟩ := counts_law hU (by rw [HX1.out]; exact HE1.out) h
  rw [HX1.out] at p1 p2 p3
  have U1 : Us x1.1.l := by rw [← HX1.out]; exact ofC_us _ _ hU
  have P1 := Lib.hid p1
  have P2 := Lib.hid p2
  have P3 := Lib.hid p3
  clear p1 p2 p3
  go_loop [12, 13, 14] (fun o a i => ∃ k : Nat, k ≤ l.length ∧ i = .int .i64 k ∧ o = .int .u64 (ownF h (l.take k)) ∧ a = .int .u64 (allF (l.take k))) (fun _ _ i => l.length - (intOf i).toNat)
  case atStart => exact ⟨0, Nat.zero_le _, rfl, rfl, rfl⟩
  case round =>
    obtain ⟨k, hkk, rfl, rfl, rfl⟩ := hrel
    by_cases hlt : k < l.length
    · obtain ⟨b, off, rfl, hb, hcs⟩ := SL.out.at_ (by omega)
      obtain ⟨i1, i2⟩ := hcs k hlt
      obtain ⟨u1, u2⟩ := ith_U hU k
      have uo := ownF_U (h := h) (hU.take k)
      have ua := allF_U (hU.take k)
      have HO : Hid (ownF h (l.take (k + 1)) = if (ith l k).1 = h then sat (ownF h (l.take k)) (ith l k).2 else ownF h (l.take k)) := by show _ = _; rw [take_ith_succ hlt, ownF_snoc]
      have HA : Hid (allF (l.take (k + 1)) = sat (allF (l.take k)) (ith l k).2) := by show _ = _; rw [take_ith_succ hlt, allF_snoc]
      generalize ownF h (l.take k) = o at *
      generalize allF (l.take k) = a at *
      generalize ith l k = it at *
      clear hcs
      by_cases he : it.1 = h
      · have d1 : (it.1 == h) = true := by simp [he]
        rw [if_pos he] at HO
        clear he
        go_wp2_with (go_at_call 25; first | (with_reducible refine (plus_any a it.2 ua u2 _).mono ?_; rintro e w' ⟨rfl, rfl⟩) | (with_reducible refine (plus_any o it.2 uo u2 _).mono ?_; rintro e w' ⟨rfl, rfl⟩))
        go_round
        case rel => exact ⟨k + 1, by omega, by go_num, by rw [HO.out], by rw [HA.out]⟩
        case measure => simp [intOf]; omega
      · have d1 : (it.1 == h) = false := by simp [he]
        rw [if_neg he] at HO
        clear he
        go_wp2_with (go_at_call 25; first | (with_reducible refine (plus_any a it.2 ua u2 _).mono ?_; rintro e w' ⟨rfl, rfl⟩) | (with_reducible refine (plus_any o it.2 uo u2 _).mono ?_; rintro e w' ⟨rfl, rfl⟩))
        go_round
        case rel => exact ⟨k + 1, by omega, by go_num, by rw [HO.out], by rw [HA.out]⟩
        case measure => simp [intOf]; omega
    · obtain rfl : k = l.length := by omega
      rw [List.take_of_length_le (Nat.le_refl _)]
      have k0X1 := X1.out.c0
      have k1X1 := X1.out.c1
      have k2X1 := X1.out.c2
      have kzX1 := X1.out.lt
      go_wp2_with fail
      obtain ⟨n5, hn5⟩ : ∃ n, countC x1.1 h = n := ⟨_, rfl⟩
      rw [hn5] at P1 P2 P3
      refine (count_any x1.1.r x1.1.c A1 x1.1.l c1 h hh U1 _ S1.out).mono ?_
      rintro e w5 ⟨rfl, hb5⟩
      rw [show countC ⟨x1.1.r, x1.1.c, x1.1.l⟩ h = n5 from hn5]
      clear k0X1 k1X1 k2X1 kzX1
      replace SL := Lib.hid (SL.out.later hb5)
      replace S1 := Lib.hid (S1.out.later hb5)
      replace X1 := Lib.hid (X1.out.later hb5)
      replace T := Below.two T hb5
      clear hb5
      have k0X1 := X1.out.c0
      have k1X1 := X1.out.c1
      have k2X1 := X1.out.c2
      have kzX1 := X1.out.lt
      go_wp2_with fail
      refine (lower_any x1.1.r x1.1.c A1 x1.1.l c1 U1 _ S1.out).mono ?_
      rintro e w6 ⟨hb6, v6, rfl, hh6⟩
      obtain ⟨A6, c6, rfl, hc6, hA6, hS6, hF6⟩ := hh6
      clear k0X1 k1X1 k2X1 kzX1
      replace SL := Lib.hid (SL.out.later hb6)
      replace S1 := Lib.hid (S1.out.later hb6)
      replace X1 := Lib.hid (X1.out.later hb6)
      replace T := Below.two T hb6
      obtain ⟨x6, hx6⟩ : ∃ x, lowerC x1.1 = x := ⟨_, rfl⟩
      rw [hx6] at hS6 hc6 ⊢
      have HX6 := Lib.hid hx6
      clear hx6
      have S6 := Lib.hid hS6
      have F6 := Lib.hid hF6
      clear hS6 hF6 hA6 hb6
      have k0X1 := X1.out.c0
      have k1X1 := X1.out.c1
      have k2X1 := X1.out.c2
      have kzX1 := X1.out.lt
      go_wp2_with fail
      clear k0X1 k1X1 k2X1 kzX1
      have X6 := Lib.hid (Blk.new w6 24 #[.int .i64 x6.1.r, .int .i64 x6.1.c, .slice A6 x6.1.l.length c6])
      replace SL := Lib.hid (SL.out.later (below_al (below_0 _) (.cells #[.int .i64 x6.1.r, .int .i64 x6.1.c, .slice A6 x6.1.l.length c6] 24)))
      replace S1 := Lib.hid (S1.out.later (below_al (below_0 _) (.cells #[.int .i64 x6.1.r, .int .i64 x6.1.c, .slice A6 x6.1.l.length c6] 24)))
      replace S6 := Lib.hid (S6.out.later (below_al (below_0 _) (.cells #[.int .i64 x6.1.r, .int .i64 x6.1.c, .slice A6 x6.1.l.length c6] 24)))
      replace X1 := Lib.hid (X1.out.alloc (.cells #[.int .i64 x6.1.r, .int .i64 x6.1.c, .slice A6 x6.1.l.length c6] 24))
      replace T := below_al T (.cells #[.int .i64 x6.1.r, .int .i64 x6.1.c, .slice A6 x6.1.l.length c6] 24)
      generalize w6.alloc (.cells #[.int .i64 x6.1.r, .int .i64 x6.1.c, .slice A6 x6.1.l.length c6] 24) = V6 at *
      have U6 : Us x6.1.l := by rw [← HX6.out]; exact lowerC_us U1
      rw [HX6.out] at P3
      obtain ⟨m7, hm7⟩ : ∃ n, countC x6.1 h = n := ⟨_, rfl⟩
      rw [hm7] at P3
      refine (count_any x6.1.r x6.1.c A6 x6.1.l c6 h hh U6 _ S6.out).mono ?_
      rintro e w7 ⟨rfl, hb7⟩
      rw [show countC ⟨x6.1.r, x6.1.c, x6.1.l⟩ h = m7 from hm7]
      replace SL := Lib.hid (SL.out.later hb7)
      replace S1 := Lib.hid (S1.out.later hb7)
      replace S6 := Lib.hid (S6.out.later hb7)
      replace X1 := Lib.hid (X1.out.later hb7)
      replace X6 := Lib.hid (X6.out.later hb7)
      replace T := Below.two T hb7
      clear hb7
      have k0X1 := X1.out.c0
      have k1X1 := X1.out.c1
      have k2X1 := X1.out.c2
      have kzX1 := X1.out.lt
      have k0X6 := X6.out.c0
      have k1X6 := X6.out.c1
      have k2X6 := X6.out.c2
      have kzX6 := X6.out.lt
      have q1 := P1.out
      have q2 := P2.out
      clear hn5 hm7
      by_cases hz : x6.2 = 0
      · obtain ⟨q3, q4⟩ := P3.out hz
        have d6 : (x6.2 != 0) = false := by simp [hz]
        clear hz
        go_wp2_with fail
        go_ret
        exact ⟨rfl, T⟩
      · have d6 : (x6.2 != 0) = true := by simp [hz]
        clear hz
        go_wp2_with fail
        go_ret
        exact ⟨rfl, T⟩
end Go.Proofs.Ythjdonhabenmcaa

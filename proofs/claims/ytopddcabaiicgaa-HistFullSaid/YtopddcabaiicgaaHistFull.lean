/-
  The walk of the law aviarylaw09.HistFull: call by call, each callee by its contract.
-/
import Derived.Test.YtopddcabaiicgaaHistShown
import Derived.Test.YtopddcabaiicgaaHistSame
import Derived.Test.YtopddcabaiicgaaHistLaws
namespace Go.Proofs.Ytopddcabaiicgaa
open Go.RowKit
set_option linter.unusedVariables false
set_option linter.unusedSimpArgs false
theorem Sb.after {w w' : World} {A : Option Addr} {l : Bins} (h : Sb w w.heap.size A l) (hb : Below w.heap.size w w') : Sb w' w'.heap.size A l := Sb.later h hb
set_option maxHeartbeats 1000000 in
theorem histFull_bad (f v n m : Int) (w : World) (hf : fineB f = false) :
    Calls Try.prog 8 #[.int .i64 f, .int .u64 v, .int .u64 n, .int .u64 m] w fun e w' => e = .returned (.bool true) ∧ Below w.heap.size w w' := by
  have hc : f < 0 ∨ (0 ≤ f ∧ 3 < f) := by simp [fineB] at hf; omega
  clear hf
  rcases hc with h | ⟨h1, h⟩
  all_goals
    go_enter Try.func8, Try.ntmps8
    go_wp2_with fail
    refine (shown_any _).mono ?_
    rintro e w1 ⟨rfl, T⟩
    go_wp2_with fail
    go_ret
    exact ⟨rfl, T⟩
set_option maxRecDepth 100000 in
set_option maxHeartbeats 4000000 in
theorem histFull_good (f v n m : Int) (hv : U v) (hn : U n) (hm : U m) (hf : fineB f = true) (w : World) :
    Calls Try.prog 8 #[.int .i64 f, .int .u64 v, .int .u64 n, .int .u64 m] w fun e w' => e = .returned (.bool true) ∧ Below w.heap.size w w' := by
  obtain ⟨x, y, z, e1, e2, e3, u1, u2, u3, l1, l2, l3, t1, t2, t3⟩ := full_law hf hv hn hm
  obtain ⟨f1, f2⟩ := fine_of hf
  have E1 := Lib.hid e1
  have E2 := Lib.hid e2
  have E3 := Lib.hid e3
  have T1 := Lib.hid t1
  have T2 := Lib.hid t2
  have T3 := Lib.hid t3
  have us := sat_U hn hm
  have us2 := sat_U us us
  clear e1 e2 e3 t1 t2 t3
  have T := below_0 w
  go_enter Try.func8, Try.ntmps8
  go_wp2_with fail
  refine (shown_any _).mono ?_
  rintro e w90 ⟨rfl, hb90⟩
  replace T := Below.two T hb90
  clear hb90
  go_wp2_with fail
  refine (add_any f none [] 0 v n hv hn (fun _ h => by simp at h) (by simp) _ Rd.none_).mono ?_
  rintro e w1 ⟨hb1, v1, rfl, hh1⟩
  rw [E1.out] at hh1 ⊢
  obtain ⟨A1, c1, rfl, hc1, _, hS1, _⟩ := hh1
  simp only at hc1 hS1 ⊢
  replace T := Below.two T hb1
  have S1 := Lib.hid hS1
  clear hS1 hb1 hc1
  go_wp2_with fail
  have X1 := Lib.hid (Blk.new w1 25 #[.int .i64 f, .slice A1 x.length c1])
  have hba := below_al (below_0 w1) (.cells #[.int .i64 f, .slice A1 x.length c1] 25)
  replace S1 := Lib.hid (S1.out.later hba)
  replace T := Below.two T hba
  clear hba
  generalize w1.alloc (.cells #[.int .i64 f, .slice A1 x.length c1] 25) = V1 at *
  have k0X1 := X1.out.d0
  have k1X1 := X1.out.d1
  have kzX1 := X1.out.lt
  refine (add_any f A1 x c1 v m hv hm u1 (by omega) _ S1.out).mono ?_
  rintro e w2 ⟨hb2, v2, rfl, hh2⟩
  rw [E2.out] at hh2 ⊢
  obtain ⟨A2, c2, rfl, hc2, _, hS2, _⟩ := hh2
  simp only at hc2 hS2 ⊢
  clear k0X1 k1X1 kzX1
  replace S1 := Lib.hid (S1.out.later hb2)
  replace X1 := Lib.hid (X1.out.later hb2)
  replace T := Below.two T hb2
  have S2 := Lib.hid hS2
  clear hS2 hb2 hc2
  have k0X1 := X1.out.d0
  have k1X1 := X1.out.d1
  have kzX1 := X1.out.lt
  go_wp2_with fail
  clear k0X1 k1X1 kzX1
  have X2 := Lib.hid (Blk.new w2 25 #[.int .i64 f, .slice A2 y.length c2])
  have hba := below_al (below_0 w2) (.cells #[.int .i64 f, .slice A2 y.length c2] 25)
  replace S1 := Lib.hid (S1.out.later hba)
  replace S2 := Lib.hid (S2.out.later hba)
  replace X1 := Lib.hid (X1.out.later hba)
  replace T := Below.two T hba
  clear hba
  generalize w2.alloc (.cells #[.int .i64 f, .slice A2 y.length c2] 25) = V2 at *
  have k0X1 := X1.out.d0
  have k1X1 := X1.out.d1
  have kzX1 := X1.out.lt
  have k0X2 := X2.out.d0
  have k1X2 := X2.out.d1
  have kzX2 := X2.out.lt
  refine (merge_any f f A2 A2 y y c2 c2 u2 u2 (by omega) (by omega) _ S2.out S2.out).mono ?_
  rintro e w3 ⟨hb3, v3, rfl, hh3⟩
  rw [E3.out] at hh3 ⊢
  obtain ⟨A3, c3, rfl, hc3, _, hS3, _⟩ := hh3
  simp only at hc3 hS3 ⊢
  clear k0X1 k1X1 kzX1 k0X2 k1X2 kzX2
  replace S1 := Lib.hid (S1.out.later hb3)
  replace S2 := Lib.hid (S2.out.later hb3)
  replace X1 := Lib.hid (X1.out.later hb3)
  replace X2 := Lib.hid (X2.out.later hb3)
  replace T := Below.two T hb3
  have S3 := Lib.hid hS3
  clear hS3 hb3 hc3
  have k0X1 := X1.out.d0
  have k1X1 := X1.out.d1
  have kzX1 := X1.out.lt
  have k0X2 := X2.out.d0
  have k1X2 := X2.out.d1
  have kzX2 := X2.out.lt
  go_wp2_with fail
  clear k0X1 k1X1 kzX1 k0X2 k1X2 kzX2
  have X3 := Lib.hid (Blk.new w3 25 #[.int .i64 f, .slice A3 z.length c3])
  have hba := below_al (below_0 w3) (.cells #[.int .i64 f, .slice A3 z.length c3] 25)
  replace S1 := Lib.hid (S1.out.later hba)
  replace S2 := Lib.hid (S2.out.later hba)
  replace S3 := Lib.hid (S3.out.later hba)
  replace X1 := Lib.hid (X1.out.later hba)
  replace X2 := Lib.hid (X2.out.later hba)
  replace T := Below.two T hba
  clear hba
  generalize w3.alloc (.cells #[.int .i64 f, .slice A3 z.length c3] 25) = V3 at *
  have k0X1 := X1.out.d0
  have k1X1 := X1.out.d1
  have kzX1 := X1.out.lt
  have k0X2 := X2.out.d0
  have k1X2 := X2.out.d1
  have kzX2 := X2.out.lt
  have k0X3 := X3.out.d0
  have k1X3 := X3.out.d1
  have kzX3 := X3.out.lt
  refine (plus_any n m hn hm _).mono ?_
  rintro e w4 ⟨rfl, rfl⟩
  go_wp2_with fail
  refine (total_any f A2 y c2 u2 (by omega) _ S2.out).mono ?_
  rintro e w5 ⟨rfl, hb5⟩
  rw [T1.out]
  clear k0X1 k1X1 kzX1 k0X2 k1X2 kzX2 k0X3 k1X3 kzX3
  replace S1 := Lib.hid (S1.out.later hb5)
  replace S2 := Lib.hid (S2.out.later hb5)
  replace S3 := Lib.hid (S3.out.later hb5)
  replace X1 := Lib.hid (X1.out.later hb5)
  replace X2 := Lib.hid (X2.out.later hb5)
  replace X3 := Lib.hid (X3.out.later hb5)
  replace T := Below.two T hb5
  clear hb5
  have k0X1 := X1.out.d0
  have k1X1 := X1.out.d1
  have kzX1 := X1.out.lt
  have k0X2 := X2.out.d0
  have k1X2 := X2.out.d1
  have kzX2 := X2.out.lt
  have k0X3 := X3.out.d0
  have k1X3 := X3.out.d1
  have kzX3 := X3.out.lt
  go_wp2_with fail
  refine (rank_any f A2 y c2 v hv u2 (by omega) _ S2.out).mono ?_
  rintro e w6 ⟨rfl, hb6⟩
  rw [T2.out]
  clear k0X1 k1X1 kzX1 k0X2 k1X2 kzX2 k0X3 k1X3 kzX3
  replace S1 := Lib.hid (S1.out.later hb6)
  replace S2 := Lib.hid (S2.out.later hb6)
  replace S3 := Lib.hid (S3.out.later hb6)
  replace X1 := Lib.hid (X1.out.later hb6)
  replace X2 := Lib.hid (X2.out.later hb6)
  replace X3 := Lib.hid (X3.out.later hb6)
  replace T := Below.two T hb6
  clear hb6
  have k0X1 := X1.out.d0
  have k1X1 := X1.out.d1
  have kzX1 := X1.out.lt
  have k0X2 := X2.out.d0
  have k1X2 := X2.out.d1
  have kzX2 := X2.out.lt
  have k0X3 := X3.out.d0
  have k1X3 := X3.out.d1
  have kzX3 := X3.out.lt
  go_wp2_with fail
  refine (total_any f A3 z c3 u3 (by omega) _ S3.out).mono ?_
  rintro e w7 ⟨rfl, hb7⟩
  rw [T3.out]
  clear k0X1 k1X1 kzX1 k0X2 k1X2 kzX2 k0X3 k1X3 kzX3
  replace S1 := Lib.hid (S1.out.later hb7)
  replace S2 := Lib.hid (S2.out.later hb7)
  replace S3 := Lib.hid (S3.out.later hb7)
  replace X1 := Lib.hid (X1.out.later hb7)
  replace X2 := Lib.hid (X2.out.later hb7)
  replace X3 := Lib.hid (X3.out.later hb7)
  replace T := Below.two T hb7
  clear hb7
  have k0X1 := X1.out.d0
  have k1X1 := X1.out.d1
  have kzX1 := X1.out.lt
  have k0X2 := X2.out.d0
  have k1X2 := X2.out.d1
  have kzX2 := X2.out.lt
  have k0X3 := X3.out.d0
  have k1X3 := X3.out.d1
  have kzX3 := X3.out.lt
  go_wp2_with fail
  refine (plus_any (sat n m) (sat n m) us us _).mono ?_
  rintro e w8 ⟨rfl, rfl⟩
  go_wp2_with fail
  go_ret
  exact ⟨ret_bool (by simp; omega), T⟩
theorem histFull_walk (f v n m : Int) (hv : U v) (hn : U n) (hm : U m) (w : World) :
    Calls Try.prog 8 #[.int .i64 f, .int .u64 v, .int .u64 n, .int .u64 m] w fun e w' => e = .returned (.bool true) ∧ Below w.heap.size w w' := by
  cases hf : fineB f with
  | false => exact histFull_bad f v n m w hf
  | true => exact histFull_good f v n m hv hn hm hf w
end Go.Proofs.Ytopddcabaiicgaa

/-
  The walk of the law aviarylaw09.HistBuckets: call by call, each callee by its contract.
-/
import Derived.Test.YtopddcabaiicgaaHistShown
import Derived.Test.YtopddcabaiicgaaHistSame
import Derived.Test.YtopddcabaiicgaaHistLaws
import Derived.Test.YtopddcabaiicgaaHistRef5
import Derived.Test.YtopddcabaiicgaaHistFacts
import Derived.Test.YtopddcabaiicgaaQuiet
namespace Go.Proofs.Ytopddcabaiicgaa
open Go.RowKit
set_option linter.unusedVariables false
set_option linter.unusedSimpArgs false
theorem Sb.after {w w' : World} {A : Option Addr} {l : Bins} (h : Sb w w.heap.size A l) (hb : Below w.heap.size w w') : Sb w' w'.heap.size A l := Sb.later h hb
theorem drew_below {f : FuncId} {vs : Array Value} {w : World} {v : Value} (h : Calls Try.prog f vs w fun e w' => e = .returned v ∧ ∃ n, w' = w.drewN n) : Calls Try.prog f vs w fun e w' => e = .returned v ∧ Below w.heap.size w w' :=
  h.mono fun _ _ ⟨h1, n, h2⟩ => ⟨h1, h2 ▸ below_drewN (below_0 _) n⟩
theorem addH_len {f : Int} {l : Bins} {v n F E : Int} {L : Bins} (h : addH f l v n = (F, L, E)) (hl : l.length ≤ 300) : L.length ≤ 400 := by
  unfold addH at h
  split at h
  · injection h with _ h; injection h with h _
    rw [← h]; unfold addL; split
    · omega
    · have := putL_length l (bucketF f v) n; omega
  · injection h with _ h; injection h with h _
    rw [← h]; simp
set_option maxRecDepth 100000 in
set_option maxHeartbeats 8000000 in
theorem histBuckets_walk (w : World) (f v at_ g n : Int) (al : Option Addr) (l : Bins) (nl cap : Nat) (hv : U v) (ha : I64 at_) (hn : U n) (hU : UBs l) (hsl : Sb w w.heap.size al l) (hk : l.length = min nl 300) (hc : nl ≤ cap) (hA : cap ≠ 0 → ∃ b off, al = some ⟨b, off, none⟩) :
    Calls Try.prog 3 #[.int .i64 f, .int .u64 v, .int .i64 at_, .agg #[.int .i64 g, .slice al nl cap], .int .u64 n] w fun e w' => e = .returned (.bool true) ∧ Below w.heap.size w w' := by
  have hba := below_al (below_0 w) (.cells #[.int .i64 g, .slice al nl cap] 25)
  have T : Below w.heap.size w (w.alloc (.cells #[.int .i64 g, .slice al nl cap] 25)) := hba
  have X0 := Lib.hid (Blk.new w 25 #[.int .i64 g, .slice al nl cap])
  have SL := Lib.hid (Sb.later hsl hba)
  have hl3 : l.length ≤ 300 := by omega
  have hlc : l.length ≤ cap := by omega
  obtain ⟨q, hq⟩ : ∃ q, boundsF f at_ = q := ⟨_, rfl⟩
  obtain ⟨bb, hbb⟩ : ∃ b, bucketF f v = b := ⟨_, rfl⟩
  obtain ⟨rr, hrr⟩ : ∃ r, rightB g l = r := ⟨_, rfl⟩
  obtain ⟨F, L, E, hE⟩ : ∃ F L E, addH g l v n = (F, L, E) := ⟨_, _, _, rfl⟩
  have hL := addH_len hE hl3
  have HQ := Lib.hid hq
  have HB := Lib.hid hbb
  have HRR := Lib.hid hrr
  have HE := Lib.hid hE
  have HA := Lib.hid hA
  have HSM : Hid (sameH F L F L = true) := by show _ = _; simp [sameH]
  have HK := Lib.hid hk
  have HC := Lib.hid hc
  clear hsl hba hq hbb hrr hE hA hk hc
  go_enter Try.func3, Try.ntmps3
  go_wp2_with fail
  generalize w.alloc (.cells #[.int .i64 g, .slice al nl cap] 25) = V0 at *
  refine (shown_any _).mono ?_
  rintro e w90 ⟨rfl, hb90⟩
  replace SL := Lib.hid (SL.out.later hb90)
  replace X0 := Lib.hid (X0.out.later hb90)
  replace T := Below.two T hb90
  clear hb90
  have k0X0 := X0.out.d0
  have k1X0 := X0.out.d1
  have kzX0 := X0.out.lt
  go_wp2_with fail
  refine (few_any g al l nl cap HK.out HC.out _).mono ?_
  rintro e w91 ⟨rfl, hb91⟩
  clear k0X0 k1X0 kzX0
  replace SL := Lib.hid (SL.out.later hb91)
  replace X0 := Lib.hid (X0.out.later hb91)
  replace T := Below.two T hb91
  clear hb91
  have k0X0 := X0.out.d0
  have k1X0 := X0.out.d1
  have kzX0 := X0.out.lt
  have fz0 := X0.out.frozen 0
  have fz1 := X0.out.frozen 1
  go_wp2_with fail
  clear k0X0 k1X0 kzX0
  clear fz0 fz1
  replace SL := Lib.hid (sb_turned SL.out X0.out no_u64 (grow_set2 w91 w.heap.size (.int .i64 g) (.slice al l.length cap)))
  replace T := below_set2 T (Nat.le_refl _) (.int .i64 g) (.slice al l.length cap)
  replace X0 := Lib.hid (X0.out.set2 (x := .int .i64 g) (y := .slice al l.length cap))
  generalize (w91.setCell ⟨w.heap.size, 0, none⟩ (.int .i64 g)).setCell ⟨w.heap.size, 1, none⟩ (.slice al l.length cap) = V91 at *
  have k0X0 := X0.out.d0
  have k1X0 := X0.out.d1
  have kzX0 := X0.out.lt
  refine (bounds_any f at_ ha _).mono ?_
  rintro e w92 ⟨rfl, n92, rfl⟩
  have hb92 := below_drewN (below_0 V91) n92
  clear k0X0 k1X0 kzX0
  replace SL := Lib.hid (SL.out.later hb92)
  replace X0 := Lib.hid (X0.out.later hb92)
  replace T := Below.two T hb92
  clear hb92
  generalize V91.drewN n92 = w92 at *
  rw [HQ.out, bdV]
  have k0X0 := X0.out.d0
  have k1X0 := X0.out.d1
  have kzX0 := X0.out.lt
  go_wp2_with fail
  refine (rbounds_any f at_ ha _).mono ?_
  rintro e w93 ⟨rfl, n93, rfl⟩
  have hb93 := below_drewN (below_0 w92) n93
  clear k0X0 k1X0 kzX0
  replace SL := Lib.hid (SL.out.later hb93)
  replace X0 := Lib.hid (X0.out.later hb93)
  replace T := Below.two T hb93
  clear hb93
  generalize w92.drewN n93 = w93 at *
  rw [HQ.out, bdV]
  have k0X0 := X0.out.d0
  have k1X0 := X0.out.d1
  have kzX0 := X0.out.lt
  go_wp2_with fail
  refine (add_any g al l cap v n hv hn hU (by omega) _ SL.out).mono ?_
  rintro e w1 ⟨hb1, v1, rfl, hh1⟩
  rw [HE.out] at hh1 ⊢
  obtain ⟨A1, c1, rfl, hc1, _, hS1, _⟩ := hh1
  simp only at hc1 hS1 ⊢
  clear k0X0 k1X0 kzX0
  replace SL := Lib.hid (SL.out.later hb1)
  replace X0 := Lib.hid (X0.out.later hb1)
  replace T := Below.two T hb1
  have S1 := Lib.hid hS1
  clear hS1 hb1 hc1
  have k0X0 := X0.out.d0
  have k1X0 := X0.out.d1
  have kzX0 := X0.out.lt
  go_wp2_with fail
  clear k0X0 k1X0 kzX0
  have X1 := Lib.hid (Blk.new w1 25 #[.int .i64 F, .slice A1 L.length c1])
  have hba := below_al (below_0 w1) (.cells #[.int .i64 F, .slice A1 L.length c1] 25)
  replace SL := Lib.hid (SL.out.later hba)
  replace S1 := Lib.hid (S1.out.later hba)
  replace X0 := Lib.hid (X0.out.later hba)
  replace T := Below.two T hba
  clear hba
  generalize w1.alloc (.cells #[.int .i64 F, .slice A1 L.length c1] 25) = V1 at *
  have k0X0 := X0.out.d0
  have k1X0 := X0.out.d1
  have kzX0 := X0.out.lt
  have k0X1 := X1.out.d0
  have k1X1 := X1.out.d1
  have kzX1 := X1.out.lt
  go_wp2_with fail
  refine (radd_any g al l cap v n hv hn hU (by omega) hlc HA.out _ SL.out).mono ?_
  rintro e w2 ⟨hb2, v2, rfl, hh2⟩
  rw [HE.out] at hh2 ⊢
  obtain ⟨A2, c2, rfl, hc2, _, hS2⟩ := hh2
  simp only at hc2 hS2 ⊢
  clear k0X0 k1X0 kzX0 k0X1 k1X1 kzX1
  replace SL := Lib.hid (SL.out.later hb2)
  replace S1 := Lib.hid (S1.out.later hb2)
  replace X0 := Lib.hid (X0.out.later hb2)
  replace X1 := Lib.hid (X1.out.later hb2)
  replace T := Below.two T hb2
  have S2 := Lib.hid hS2
  clear hS2 hb2 hc2
  have k0X0 := X0.out.d0
  have k1X0 := X0.out.d1
  have kzX0 := X0.out.lt
  have k0X1 := X1.out.d0
  have k1X1 := X1.out.d1
  have kzX1 := X1.out.lt
  go_wp2_with fail
  clear k0X0 k1X0 kzX0 k0X1 k1X1 kzX1
  have X2 := Lib.hid (Blk.new w2 25 #[.int .i64 F, .slice A2 L.length c2])
  have hba := below_al (below_0 w2) (.cells #[.int .i64 F, .slice A2 L.length c2] 25)
  replace SL := Lib.hid (SL.out.later hba)
  replace S1 := Lib.hid (S1.out.later hba)
  replace S2 := Lib.hid (S2.out.later hba)
  replace X0 := Lib.hid (X0.out.later hba)
  replace X1 := Lib.hid (X1.out.later hba)
  replace T := Below.two T hba
  clear hba
  generalize w2.alloc (.cells #[.int .i64 F, .slice A2 L.length c2] 25) = V2 at *
  have k0X0 := X0.out.d0
  have k1X0 := X0.out.d1
  have kzX0 := X0.out.lt
  have k0X1 := X1.out.d0
  have k1X1 := X1.out.d1
  have kzX1 := X1.out.lt
  have k0X2 := X2.out.d0
  have k1X2 := X2.out.d1
  have kzX2 := X2.out.lt
  go_wp2_with fail
  have F0X0 := After.cell X0.out.d0 X0.out.lt
  have F1X0 := After.cell X0.out.d1 X0.out.lt
  have F0X1 := After.cell X1.out.d0 X1.out.lt
  have F1X1 := After.cell X1.out.d1 X1.out.lt
  have F0X2 := After.cell X2.out.d0 X2.out.lt
  have F1X2 := After.cell X2.out.d1 X2.out.lt
  haveI := After.some V2
  have C1 : Hid (∀ y : After V2, Calls Try.prog 17 #[.int .i64 f, .int .u64 v] y.at_ fun e w' => e = .returned (.int .i64 bb) ∧ Below y.at_.heap.size y.at_ w') := fun y => by have h := drew_below (bucket_any f v hv y.at_); rw [HB.out] at h; exact h
  have C2 : Hid (∀ y : After V2, Calls Try.prog 18 #[.int .i64 f, .int .u64 v] y.at_ fun e w' => e = .returned (.int .i64 bb) ∧ Below y.at_.heap.size y.at_ w') := fun y => by have h := rbucket_any f v hv y.at_; rw [HB.out] at h; exact h.mono fun _ _ ⟨h1, h2⟩ => ⟨h1, h2 ▸ below_0 _⟩
  have C3 : Hid (∀ y : After V2, Calls Try.prog 19 #[.agg #[.int .i64 g, .slice al l.length cap]] y.at_ fun e w' => e = .returned (.bool rr) ∧ Below y.at_.heap.size y.at_ w') := fun y => by have h := right_any g al l cap hU (by omega) y.at_ (SL.out.after y.is); rw [HRR.out] at h; exact h
  have C4 : Hid (∀ y : After V2, Calls Try.prog 20 #[.agg #[.int .i64 g, .slice al l.length cap]] y.at_ fun e w' => e = .returned (.bool rr) ∧ Below y.at_.heap.size y.at_ w') := fun y => by have h := rright_any g al l cap hU (by omega) y.at_ (SL.out.after y.is); rw [HRR.out] at h; exact h
  have C5 : Hid (∀ y : After V2, Calls Try.prog 21 #[.agg #[.int .i64 F, .slice A1 L.length c1], .agg #[.int .i64 F, .slice A2 L.length c2]] y.at_ fun e w' => e = .returned (.bool true) ∧ Below y.at_.heap.size y.at_ w') := fun y => by have h := rsame_any F F A1 A2 L L c1 c2 (by omega) (by omega) y.at_ (S1.out.after y.is) (S2.out.after y.is); rw [HSM.out] at h; exact h
  clear k0X0 k1X0 kzX0 k0X1 k1X1 kzX1 k0X2 k1X2 kzX2
  refine wp_region_below (by kernel_rfl) (by kernel_rfl) ?_
  repeat (go_big_quiet_step (first | with_reducible exact after_calls (C1.out _) | with_reducible exact after_calls (C2.out _) | with_reducible exact after_calls (C3.out _) | with_reducible exact after_calls (C4.out _) | with_reducible exact after_calls (C5.out _)))
  refine wpQuiet_nil ?_
  rintro _ ⟨⟨w9, hb9⟩, rfl⟩
  go_wp2_with fail
  go_ret
  exact ⟨ret_bool (by first | rfl | (simp; omega)), Below.two T hb9⟩
end Go.Proofs.Ytopddcabaiicgaa

/-
  The walk of the law aviarylaw09.HistMerges: call by call, each callee by its contract.
-/
import Derived.Test.YtopddcabaiicgaaHistShown
import Derived.Test.YtopddcabaiicgaaHistSame
import Derived.Test.YtopddcabaiicgaaHistLaws
import Derived.Test.YtopddcabaiicgaaHistRef5
import Derived.Test.YtopddcabaiicgaaHistRef6
import Derived.Test.YtopddcabaiicgaaHistRef8
import Derived.Test.YtopddcabaiicgaaHistRef9
import Derived.Test.YtopddcabaiicgaaHistSelect
import Derived.Test.YtopddcabaiicgaaHistFacts
import Derived.Test.YtopddcabaiicgaaQuiet
namespace Go.Proofs.Ytopddcabaiicgaa
open Go.RowKit
set_option linter.unusedVariables false
set_option linter.unusedSimpArgs false
theorem Sb.after {w w' : World} {A : Option Addr} {l : Bins} (h : Sb w w.heap.size A l) (hb : Below w.heap.size w w') : Sb w' w'.heap.size A l := Sb.later h hb
theorem mergeH_ub {f g : Int} {l m : Bins} {F E : Int} {L : Bins} (h : mergeH f l g m = (F, L, E)) (hl : l.length ≤ 300) (hm : m.length ≤ 300) : L.length ≤ 600 := by
  unfold mergeH at h
  split at h
  · injection h with _ h; injection h with h _
    rw [← h]; have := putAll_length m l; omega
  · injection h with _ h; injection h with h _
    rw [← h]; simp
theorem lowerH_ub {f : Int} {l : Bins} {F E : Int} {L : Bins} (h : lowerH f l = (F, L, E)) (hl : l.length ≤ 300) : L.length ≤ 600 := by
  unfold lowerH at h
  split at h
  · injection h with _ h; injection h with h _
    rw [← h]; have := putAll_length (l.map (lowB f)) []; simp at this; omega
  · injection h with _ h; injection h with h _
    rw [← h]; simp
set_option maxRecDepth 100000 in
set_option maxHeartbeats 8000000 in
theorem histMerges_walk (w : World) (f g v place : Int) (al am : Option Addr) (l m : Bins) (nl capl nm capm : Nat) (hv : U v) (hU : UBs l) (hV : UBs m) (hsl : Sb w w.heap.size al l) (hsm : Sb w w.heap.size am m) (hk : l.length = min nl 300) (hc : nl ≤ capl) (hA : capl ≠ 0 → ∃ b off, al = some ⟨b, off, none⟩) (hk2 : m.length = min nm 300) (hc2 : nm ≤ capm) (hA2 : capm ≠ 0 → ∃ b off, am = some ⟨b, off, none⟩) :
    Calls Try.prog 10 #[.agg #[.int .i64 f, .slice al nl capl], .agg #[.int .i64 g, .slice am nm capm], .int .u64 v, .int .u64 place] w fun e w' => e = .returned (.bool true) ∧ Below w.heap.size w w' := by
  have T : Below w.heap.size w ((w.alloc (.cells #[.int .i64 f, .slice al nl capl] 25)).alloc (.cells #[.int .i64 g, .slice am nm capm] 25)) := below_al (below_al (below_0 _) _) _
  have X90 := Lib.hid ((Blk.new w 25 #[.int .i64 f, .slice al nl capl]).alloc (.cells #[.int .i64 g, .slice am nm capm] 25))
  have X91 := Lib.hid (Blk.new2 w (.cells #[.int .i64 f, .slice al nl capl] 25) 25 #[.int .i64 g, .slice am nm capm])
  have SL := Lib.hid (Sb.later hsl T)
  have SM := Lib.hid (Sb.later hsm T)
  have hl3 : l.length ≤ 300 := by omega
  have hm3 : m.length ≤ 300 := by omega
  have hlc : l.length ≤ capl := by omega
  have hmc : m.length ≤ capm := by omega
  obtain ⟨F1, L1, E1, hM⟩ : ∃ F L E, mergeH f l g m = (F, L, E) := ⟨_, _, _, rfl⟩
  obtain ⟨F3, L3, E3, hL⟩ : ∃ F L E, lowerH f l = (F, L, E) := ⟨_, _, _, rfl⟩
  have hL1 := mergeH_ub hM hl3 hm3
  have hL3 := lowerH_ub hL hl3
  obtain ⟨q, hq⟩ : ∃ q, selectF f l place = q := ⟨_, rfl⟩
  obtain ⟨tt, htt⟩ : ∃ t, totalF f l = t := ⟨_, rfl⟩
  obtain ⟨rr, hrr⟩ : ∃ t, rankF f l v = t := ⟨_, rfl⟩
  obtain ⟨ss, hss⟩ : ∃ t, sameH f l g m = t := ⟨_, rfl⟩
  have HTP : Hid (rankF f l 18446744073709551615 = tt) := by show _ = _; rw [rank_top hU, htt]
  have HM := Lib.hid hM
  have HL := Lib.hid hL
  have HQ := Lib.hid hq
  have HTT := Lib.hid htt
  have HRR := Lib.hid hrr
  have HSS := Lib.hid hss
  have HA := Lib.hid hA
  have HA2 := Lib.hid hA2
  have HK := Lib.hid hk
  have HC := Lib.hid hc
  have HK2 := Lib.hid hk2
  have HC2 := Lib.hid hc2
  have HS1 : Hid (sameH F1 L1 F1 L1 = true) := by show _ = _; simp [sameH]
  have HS3 : Hid (sameH F3 L3 F3 L3 = true) := by show _ = _; simp [sameH]
  have HS0 : Hid (sameH f l f l = true) := by show _ = _; simp [sameH]
  clear hsl hsm hM hL hq htt hrr hss hA hA2 hk hc hk2 hc2
  go_enter Try.func10, Try.ntmps10
  go_wp2_with fail
  generalize (w.alloc (.cells #[.int .i64 f, .slice al nl capl] 25)).alloc (.cells #[.int .i64 g, .slice am nm capm] 25) = V0 at *
  refine (shown_any _).mono ?_
  rintro e w90 ⟨rfl, hb90⟩
  replace SL := Lib.hid (SL.out.later hb90)
  replace SM := Lib.hid (SM.out.later hb90)
  replace X90 := Lib.hid (X90.out.later hb90)
  replace X91 := Lib.hid (X91.out.later hb90)
  replace T := Below.two T hb90
  clear hb90
  have k0X90 := X90.out.d0
  have k1X90 := X90.out.d1
  have kzX90 := X90.out.lt
  have k0X91 := X91.out.d0
  have k1X91 := X91.out.d1
  have kzX91 := X91.out.lt
  go_wp2_with fail
  refine (few_any f al l nl capl HK.out HC.out _).mono ?_
  rintro e w91 ⟨rfl, hb91⟩
  clear k0X90 k1X90 kzX90 k0X91 k1X91 kzX91
  replace SL := Lib.hid (SL.out.later hb91)
  replace SM := Lib.hid (SM.out.later hb91)
  replace X90 := Lib.hid (X90.out.later hb91)
  replace X91 := Lib.hid (X91.out.later hb91)
  replace T := Below.two T hb91
  clear hb91
  have k0X90 := X90.out.d0
  have k1X90 := X90.out.d1
  have kzX90 := X90.out.lt
  have k0X91 := X91.out.d0
  have k1X91 := X91.out.d1
  have kzX91 := X91.out.lt
  have fz0 := X90.out.frozen 0
  have fz1 := X90.out.frozen 1
  go_wp2_with fail
  clear k0X90 k1X90 kzX90 k0X91 k1X91 kzX91
  clear fz0 fz1
  replace SL := Lib.hid (sb_turned SL.out X90.out no_u64 (grow_set2 w91 w.heap.size (.int .i64 f) (.slice al l.length capl)))
  replace SM := Lib.hid (sb_turned SM.out X90.out no_u64 (grow_set2 w91 w.heap.size (.int .i64 f) (.slice al l.length capl)))
  replace X91 := Lib.hid (X91.out.grown (grow_set2 w91 w.heap.size (.int .i64 f) (.slice al l.length capl)) (by intro e; injection e with e; omega))
  replace T := below_set2 T (Nat.le_refl _) (.int .i64 f) (.slice al l.length capl)
  replace X90 := Lib.hid (X90.out.set2 (x := .int .i64 f) (y := .slice al l.length capl))
  generalize (w91.setCell ⟨w.heap.size, 0, none⟩ (.int .i64 f)).setCell ⟨w.heap.size, 1, none⟩ (.slice al l.length capl) = V91 at *
  have k0X90 := X90.out.d0
  have k1X90 := X90.out.d1
  have kzX90 := X90.out.lt
  have k0X91 := X91.out.d0
  have k1X91 := X91.out.d1
  have kzX91 := X91.out.lt
  go_wp2_with fail
  refine (few_any g am m nm capm HK2.out HC2.out _).mono ?_
  rintro e w92 ⟨rfl, hb92⟩
  clear k0X90 k1X90 kzX90 k0X91 k1X91 kzX91
  replace SL := Lib.hid (SL.out.later hb92)
  replace SM := Lib.hid (SM.out.later hb92)
  replace X90 := Lib.hid (X90.out.later hb92)
  replace X91 := Lib.hid (X91.out.later hb92)
  replace T := Below.two T hb92
  clear hb92
  have k0X90 := X90.out.d0
  have k1X90 := X90.out.d1
  have kzX90 := X90.out.lt
  have k0X91 := X91.out.d0
  have k1X91 := X91.out.d1
  have kzX91 := X91.out.lt
  have fz0 := X91.out.frozen 0
  have fz1 := X91.out.frozen 1
  go_wp2_with fail
  clear k0X90 k1X90 kzX90 k0X91 k1X91 kzX91
  clear fz0 fz1
  replace SL := Lib.hid (sb_turned SL.out X91.out no_u64 (grow_set2 w92 (w.heap.size + 1) (.int .i64 g) (.slice am m.length capm)))
  replace SM := Lib.hid (sb_turned SM.out X91.out no_u64 (grow_set2 w92 (w.heap.size + 1) (.int .i64 g) (.slice am m.length capm)))
  replace X90 := Lib.hid (X90.out.grown (grow_set2 w92 (w.heap.size + 1) (.int .i64 g) (.slice am m.length capm)) (by intro e; injection e with e; omega))
  replace T := below_set2 T (Nat.le_succ _) (.int .i64 g) (.slice am m.length capm)
  replace X91 := Lib.hid (X91.out.set2 (x := .int .i64 g) (y := .slice am m.length capm))
  generalize (w92.setCell ⟨(w.heap.size + 1), 0, none⟩ (.int .i64 g)).setCell ⟨(w.heap.size + 1), 1, none⟩ (.slice am m.length capm) = V92 at *
  have k0X90 := X90.out.d0
  have k1X90 := X90.out.d1
  have kzX90 := X90.out.lt
  have k0X91 := X91.out.d0
  have k1X91 := X91.out.d1
  have kzX91 := X91.out.lt
  go_wp2_with fail
  refine (merge_any f g al am l m capl capm hU hV (by omega) (by omega) _ SL.out SM.out).mono ?_
  rintro e w1 ⟨hb1, v1, rfl, hh1⟩
  rw [HM.out] at hh1 ⊢
  obtain ⟨A1, c1, rfl, hc1, _, hS1, _⟩ := hh1
  simp only at hc1 hS1 ⊢
  clear k0X90 k1X90 kzX90 k0X91 k1X91 kzX91
  replace SL := Lib.hid (SL.out.later hb1)
  replace SM := Lib.hid (SM.out.later hb1)
  replace X90 := Lib.hid (X90.out.later hb1)
  replace X91 := Lib.hid (X91.out.later hb1)
  replace T := Below.two T hb1
  have S1 := Lib.hid hS1
  clear hS1 hb1 hc1
  have k0X90 := X90.out.d0
  have k1X90 := X90.out.d1
  have kzX90 := X90.out.lt
  have k0X91 := X91.out.d0
  have k1X91 := X91.out.d1
  have kzX91 := X91.out.lt
  go_wp2_with fail
  clear k0X90 k1X90 kzX90 k0X91 k1X91 kzX91
  have X1 := Lib.hid (Blk.new w1 25 #[.int .i64 F1, .slice A1 L1.length c1])
  have hba := below_al (below_0 w1) (.cells #[.int .i64 F1, .slice A1 L1.length c1] 25)
  replace SL := Lib.hid (SL.out.later hba)
  replace SM := Lib.hid (SM.out.later hba)
  replace S1 := Lib.hid (S1.out.later hba)
  replace X90 := Lib.hid (X90.out.later hba)
  replace X91 := Lib.hid (X91.out.later hba)
  replace T := Below.two T hba
  clear hba
  generalize w1.alloc (.cells #[.int .i64 F1, .slice A1 L1.length c1] 25) = V1 at *
  have k0X90 := X90.out.d0
  have k1X90 := X90.out.d1
  have kzX90 := X90.out.lt
  have k0X91 := X91.out.d0
  have k1X91 := X91.out.d1
  have kzX91 := X91.out.lt
  have k0X1 := X1.out.d0
  have k1X1 := X1.out.d1
  have kzX1 := X1.out.lt
  go_wp2_with fail
  refine (rmerge_any f g al am l m capl capm hU hV (by omega) (by omega) hlc HA.out _ SL.out SM.out).mono ?_
  rintro e w2 ⟨hb2, v2, rfl, hh2⟩
  rw [HM.out] at hh2 ⊢
  obtain ⟨A2, c2, rfl, hc2, _, hS2⟩ := hh2
  simp only at hc2 hS2 ⊢
  clear k0X90 k1X90 kzX90 k0X91 k1X91 kzX91 k0X1 k1X1 kzX1
  replace SL := Lib.hid (SL.out.later hb2)
  replace SM := Lib.hid (SM.out.later hb2)
  replace S1 := Lib.hid (S1.out.later hb2)
  replace X90 := Lib.hid (X90.out.later hb2)
  replace X91 := Lib.hid (X91.out.later hb2)
  replace X1 := Lib.hid (X1.out.later hb2)
  replace T := Below.two T hb2
  have S2 := Lib.hid hS2
  clear hS2 hb2 hc2
  have k0X90 := X90.out.d0
  have k1X90 := X90.out.d1
  have kzX90 := X90.out.lt
  have k0X91 := X91.out.d0
  have k1X91 := X91.out.d1
  have kzX91 := X91.out.lt
  have k0X1 := X1.out.d0
  have k1X1 := X1.out.d1
  have kzX1 := X1.out.lt
  go_wp2_with fail
  clear k0X90 k1X90 kzX90 k0X91 k1X91 kzX91 k0X1 k1X1 kzX1
  have X2 := Lib.hid (Blk.new w2 25 #[.int .i64 F1, .slice A2 L1.length c2])
  have hba := below_al (below_0 w2) (.cells #[.int .i64 F1, .slice A2 L1.length c2] 25)
  replace SL := Lib.hid (SL.out.later hba)
  replace SM := Lib.hid (SM.out.later hba)
  replace S1 := Lib.hid (S1.out.later hba)
  replace S2 := Lib.hid (S2.out.later hba)
  replace X90 := Lib.hid (X90.out.later hba)
  replace X91 := Lib.hid (X91.out.later hba)
  replace X1 := Lib.hid (X1.out.later hba)
  replace T := Below.two T hba
  clear hba
  generalize w2.alloc (.cells #[.int .i64 F1, .slice A2 L1.length c2] 25) = V2 at *
  have k0X90 := X90.out.d0
  have k1X90 := X90.out.d1
  have kzX90 := X90.out.lt
  have k0X91 := X91.out.d0
  have k1X91 := X91.out.d1
  have kzX91 := X91.out.lt
  have k0X1 := X1.out.d0
  have k1X1 := X1.out.d1
  have kzX1 := X1.out.lt
  have k0X2 := X2.out.d0
  have k1X2 := X2.out.d1
  have kzX2 := X2.out.lt
  go_wp2_with fail
  refine (lower_any f al l capl hU (by omega) _ SL.out).mono ?_
  rintro e w3 ⟨hb3, v3, rfl, hh3⟩
  rw [HL.out] at hh3 ⊢
  obtain ⟨A3, c3, rfl, hc3, _, hS3, _⟩ := hh3
  simp only at hc3 hS3 ⊢
  clear k0X90 k1X90 kzX90 k0X91 k1X91 kzX91 k0X1 k1X1 kzX1 k0X2 k1X2 kzX2
  replace SL := Lib.hid (SL.out.later hb3)
  replace SM := Lib.hid (SM.out.later hb3)
  replace S1 := Lib.hid (S1.out.later hb3)
  replace S2 := Lib.hid (S2.out.later hb3)
  replace X90 := Lib.hid (X90.out.later hb3)
  replace X91 := Lib.hid (X91.out.later hb3)
  replace X1 := Lib.hid (X1.out.later hb3)
  replace X2 := Lib.hid (X2.out.later hb3)
  replace T := Below.two T hb3
  have S3 := Lib.hid hS3
  clear hS3 hb3 hc3
  have k0X90 := X90.out.d0
  have k1X90 := X90.out.d1
  have kzX90 := X90.out.lt
  have k0X91 := X91.out.d0
  have k1X91 := X91.out.d1
  have kzX91 := X91.out.lt
  have k0X1 := X1.out.d0
  have k1X1 := X1.out.d1
  have kzX1 := X1.out.lt
  have k0X2 := X2.out.d0
  have k1X2 := X2.out.d1
  have kzX2 := X2.out.lt
  go_wp2_with fail
  clear k0X90 k1X90 kzX90 k0X91 k1X91 kzX91 k0X1 k1X1 kzX1 k0X2 k1X2 kzX2
  have X3 := Lib.hid (Blk.new w3 25 #[.int .i64 F3, .slice A3 L3.length c3])
  have hba := below_al (below_0 w3) (.cells #[.int .i64 F3, .slice A3 L3.length c3] 25)
  replace SL := Lib.hid (SL.out.later hba)
  replace SM := Lib.hid (SM.out.later hba)
  replace S1 := Lib.hid (S1.out.later hba)
  replace S2 := Lib.hid (S2.out.later hba)
  replace S3 := Lib.hid (S3.out.later hba)
  replace X90 := Lib.hid (X90.out.later hba)
  replace X91 := Lib.hid (X91.out.later hba)
  replace X1 := Lib.hid (X1.out.later hba)
  replace X2 := Lib.hid (X2.out.later hba)
  replace T := Below.two T hba
  clear hba
  generalize w3.alloc (.cells #[.int .i64 F3, .slice A3 L3.length c3] 25) = V3 at *
  have k0X90 := X90.out.d0
  have k1X90 := X90.out.d1
  have kzX90 := X90.out.lt
  have k0X91 := X91.out.d0
  have k1X91 := X91.out.d1
  have kzX91 := X91.out.lt
  have k0X1 := X1.out.d0
  have k1X1 := X1.out.d1
  have kzX1 := X1.out.lt
  have k0X2 := X2.out.d0
  have k1X2 := X2.out.d1
  have kzX2 := X2.out.lt
  have k0X3 := X3.out.d0
  have k1X3 := X3.out.d1
  have kzX3 := X3.out.lt
  go_wp2_with fail
  refine (rlower_any f al l capl hU (by omega) _ SL.out).mono ?_
  rintro e w4 ⟨hb4, v4, rfl, hh4⟩
  rw [HL.out] at hh4 ⊢
  obtain ⟨A4, c4, rfl, hc4, _, hS4⟩ := hh4
  simp only at hc4 hS4 ⊢
  clear k0X90 k1X90 kzX90 k0X91 k1X91 kzX91 k0X1 k1X1 kzX1 k0X2 k1X2 kzX2 k0X3 k1X3 kzX3
  replace SL := Lib.hid (SL.out.later hb4)
  replace SM := Lib.hid (SM.out.later hb4)
  replace S1 := Lib.hid (S1.out.later hb4)
  replace S2 := Lib.hid (S2.out.later hb4)
  replace S3 := Lib.hid (S3.out.later hb4)
  replace X90 := Lib.hid (X90.out.later hb4)
  replace X91 := Lib.hid (X91.out.later hb4)
  replace X1 := Lib.hid (X1.out.later hb4)
  replace X2 := Lib.hid (X2.out.later hb4)
  replace X3 := Lib.hid (X3.out.later hb4)
  replace T := Below.two T hb4
  have S4 := Lib.hid hS4
  clear hS4 hb4 hc4
  have k0X90 := X90.out.d0
  have k1X90 := X90.out.d1
  have kzX90 := X90.out.lt
  have k0X91 := X91.out.d0
  have k1X91 := X91.out.d1
  have kzX91 := X91.out.lt
  have k0X1 := X1.out.d0
  have k1X1 := X1.out.d1
  have kzX1 := X1.out.lt
  have k0X2 := X2.out.d0
  have k1X2 := X2.out.d1
  have kzX2 := X2.out.lt
  have k0X3 := X3.out.d0
  have k1X3 := X3.out.d1
  have kzX3 := X3.out.lt
  go_wp2_with fail
  clear k0X90 k1X90 kzX90 k0X91 k1X91 kzX91 k0X1 k1X1 kzX1 k0X2 k1X2 kzX2 k0X3 k1X3 kzX3
  have X4 := Lib.hid (Blk.new w4 25 #[.int .i64 F3, .slice A4 L3.length c4])
  have hba := below_al (below_0 w4) (.cells #[.int .i64 F3, .slice A4 L3.length c4] 25)
  replace SL := Lib.hid (SL.out.later hba)
  replace SM := Lib.hid (SM.out.later hba)
  replace S1 := Lib.hid (S1.out.later hba)
  replace S2 := Lib.hid (S2.out.later hba)
  replace S3 := Lib.hid (S3.out.later hba)
  replace S4 := Lib.hid (S4.out.later hba)
  replace X90 := Lib.hid (X90.out.later hba)
  replace X91 := Lib.hid (X91.out.later hba)
  replace X1 := Lib.hid (X1.out.later hba)
  replace X2 := Lib.hid (X2.out.later hba)
  replace X3 := Lib.hid (X3.out.later hba)
  replace T := Below.two T hba
  clear hba
  generalize w4.alloc (.cells #[.int .i64 F3, .slice A4 L3.length c4] 25) = V4 at *
  have k0X90 := X90.out.d0
  have k1X90 := X90.out.d1
  have kzX90 := X90.out.lt
  have k0X91 := X91.out.d0
  have k1X91 := X91.out.d1
  have kzX91 := X91.out.lt
  have k0X1 := X1.out.d0
  have k1X1 := X1.out.d1
  have kzX1 := X1.out.lt
  have k0X2 := X2.out.d0
  have k1X2 := X2.out.d1
  have kzX2 := X2.out.lt
  have k0X3 := X3.out.d0
  have k1X3 := X3.out.d1
  have kzX3 := X3.out.lt
  have k0X4 := X4.out.d0
  have k1X4 := X4.out.d1
  have kzX4 := X4.out.lt
  go_wp2_with fail
  refine (select_any f al l capl place hU (by omega) _ SL.out).mono ?_
  rintro e w5 ⟨rfl, hb5⟩
  rw [HQ.out, bdV]
  clear k0X90 k1X90 kzX90 k0X91 k1X91 kzX91 k0X1 k1X1 kzX1 k0X2 k1X2 kzX2 k0X3 k1X3 kzX3 k0X4 k1X4 kzX4
  replace SL := Lib.hid (SL.out.later hb5)
  replace SM := Lib.hid (SM.out.later hb5)
  replace S1 := Lib.hid (S1.out.later hb5)
  replace S2 := Lib.hid (S2.out.later hb5)
  replace S3 := Lib.hid (S3.out.later hb5)
  replace S4 := Lib.hid (S4.out.later hb5)
  replace X90 := Lib.hid (X90.out.later hb5)
  replace X91 := Lib.hid (X91.out.later hb5)
  replace X1 := Lib.hid (X1.out.later hb5)
  replace X2 := Lib.hid (X2.out.later hb5)
  replace X3 := Lib.hid (X3.out.later hb5)
  replace X4 := Lib.hid (X4.out.later hb5)
  replace T := Below.two T hb5
  clear hb5
  have k0X90 := X90.out.d0
  have k1X90 := X90.out.d1
  have kzX90 := X90.out.lt
  have k0X91 := X91.out.d0
  have k1X91 := X91.out.d1
  have kzX91 := X91.out.lt
  have k0X1 := X1.out.d0
  have k1X1 := X1.out.d1
  have kzX1 := X1.out.lt
  have k0X2 := X2.out.d0
  have k1X2 := X2.out.d1
  have kzX2 := X2.out.lt
  have k0X3 := X3.out.d0
  have k1X3 := X3.out.d1
  have kzX3 := X3.out.lt
  have k0X4 := X4.out.d0
  have k1X4 := X4.out.d1
  have kzX4 := X4.out.lt
  go_wp2_with fail
  refine (rselect_any f al l capl place hU (by omega) _ SL.out).mono ?_
  rintro e w6 ⟨rfl, hb6⟩
  rw [HQ.out, bdV]
  clear k0X90 k1X90 kzX90 k0X91 k1X91 kzX91 k0X1 k1X1 kzX1 k0X2 k1X2 kzX2 k0X3 k1X3 kzX3 k0X4 k1X4 kzX4
  replace SL := Lib.hid (SL.out.later hb6)
  replace SM := Lib.hid (SM.out.later hb6)
  replace S1 := Lib.hid (S1.out.later hb6)
  replace S2 := Lib.hid (S2.out.later hb6)
  replace S3 := Lib.hid (S3.out.later hb6)
  replace S4 := Lib.hid (S4.out.later hb6)
  replace X90 := Lib.hid (X90.out.later hb6)
  replace X91 := Lib.hid (X91.out.later hb6)
  replace X1 := Lib.hid (X1.out.later hb6)
  replace X2 := Lib.hid (X2.out.later hb6)
  replace X3 := Lib.hid (X3.out.later hb6)
  replace X4 := Lib.hid (X4.out.later hb6)
  replace T := Below.two T hb6
  clear hb6
  have k0X90 := X90.out.d0
  have k1X90 := X90.out.d1
  have kzX90 := X90.out.lt
  have k0X91 := X91.out.d0
  have k1X91 := X91.out.d1
  have kzX91 := X91.out.lt
  have k0X1 := X1.out.d0
  have k1X1 := X1.out.d1
  have kzX1 := X1.out.lt
  have k0X2 := X2.out.d0
  have k1X2 := X2.out.d1
  have kzX2 := X2.out.lt
  have k0X3 := X3.out.d0
  have k1X3 := X3.out.d1
  have kzX3 := X3.out.lt
  have k0X4 := X4.out.d0
  have k1X4 := X4.out.d1
  have kzX4 := X4.out.lt
  go_wp2_with fail
  obtain ⟨q1, q2, q3⟩ := q
  simp only
  cases q3
  all_goals
    have F0X90 := After.cell X90.out.d0 X90.out.lt
    have F1X90 := After.cell X90.out.d1 X90.out.lt
    have F0X91 := After.cell X91.out.d0 X91.out.lt
    have F1X91 := After.cell X91.out.d1 X91.out.lt
    have F0X1 := After.cell X1.out.d0 X1.out.lt
    have F1X1 := After.cell X1.out.d1 X1.out.lt
    have F0X2 := After.cell X2.out.d0 X2.out.lt
    have F1X2 := After.cell X2.out.d1 X2.out.lt
    have F0X3 := After.cell X3.out.d0 X3.out.lt
    have F1X3 := After.cell X3.out.d1 X3.out.lt
    have F0X4 := After.cell X4.out.d0 X4.out.lt
    have F1X4 := After.cell X4.out.d1 X4.out.lt
    haveI := After.some w6
    have C1 : Hid (∀ y : After w6, Calls Try.prog 21 #[.agg #[.int .i64 F1, .slice A1 L1.length c1], .agg #[.int .i64 F1, .slice A2 L1.length c2]] y.at_ fun e w' => e = .returned (.bool true) ∧ Below y.at_.heap.size y.at_ w') := fun y => by have h := rsame_any F1 F1 A1 A2 L1 L1 c1 c2 (by omega) (by omega) y.at_ (S1.out.after y.is) (S2.out.after y.is); rw [HS1.out] at h; exact h
    have C2 : Hid (∀ y : After w6, Calls Try.prog 21 #[.agg #[.int .i64 F3, .slice A3 L3.length c3], .agg #[.int .i64 F3, .slice A4 L3.length c4]] y.at_ fun e w' => e = .returned (.bool true) ∧ Below y.at_.heap.size y.at_ w') := fun y => by have h := rsame_any F3 F3 A3 A4 L3 L3 c3 c4 (by omega) (by omega) y.at_ (S3.out.after y.is) (S4.out.after y.is); rw [HS3.out] at h; exact h
    have C3 : Hid (∀ y : After w6, Calls Try.prog 26 #[.agg #[.int .i64 f, .slice al l.length capl]] y.at_ fun e w' => e = .returned (.int .u64 tt) ∧ Below y.at_.heap.size y.at_ w') := fun y => by have h := total_any f al l capl hU (by omega) y.at_ (SL.out.after y.is); rw [HTT.out] at h; exact h
    have C4 : Hid (∀ y : After w6, Calls Try.prog 33 #[.agg #[.int .i64 f, .slice al l.length capl]] y.at_ fun e w' => e = .returned (.int .u64 tt) ∧ Below y.at_.heap.size y.at_ w') := fun y => by have h := rtotal_any f al l capl hU (by omega) y.at_ (SL.out.after y.is); rw [HTP.out] at h; exact h
    have C5 : Hid (∀ y : After w6, Calls Try.prog 27 #[.agg #[.int .i64 f, .slice al l.length capl], .int .u64 v] y.at_ fun e w' => e = .returned (.int .u64 rr) ∧ Below y.at_.heap.size y.at_ w') := fun y => by have h := rank_any f al l capl v hv hU (by omega) y.at_ (SL.out.after y.is); rw [HRR.out] at h; exact h
    have C6 : Hid (∀ y : After w6, Calls Try.prog 34 #[.agg #[.int .i64 f, .slice al l.length capl], .int .u64 v] y.at_ fun e w' => e = .returned (.int .u64 rr) ∧ Below y.at_.heap.size y.at_ w') := fun y => by have h := rrank_any f al l capl v hv hU (by omega) y.at_ (SL.out.after y.is); rw [HRR.out] at h; exact h
    have C7 : Hid (∀ y : After w6, Calls Try.prog 24 #[.agg #[.int .i64 f, .slice al l.length capl], .agg #[.int .i64 g, .slice am m.length capm]] y.at_ fun e w' => e = .returned (.bool ss) ∧ Below y.at_.heap.size y.at_ w') := fun y => by have h := same_any f g al am l m capl capm (by omega) (by omega) y.at_ (SL.out.after y.is) (SM.out.after y.is); rw [HSS.out] at h; exact h
    have C8 : Hid (∀ y : After w6, Calls Try.prog 21 #[.agg #[.int .i64 f, .slice al l.length capl], .agg #[.int .i64 g, .slice am m.length capm]] y.at_ fun e w' => e = .returned (.bool ss) ∧ Below y.at_.heap.size y.at_ w') := fun y => by have h := rsame_any f g al am l m capl capm (by omega) (by omega) y.at_ (SL.out.after y.is) (SM.out.after y.is); rw [HSS.out] at h; exact h
    have C9 : Hid (∀ y : After w6, Calls Try.prog 24 #[.agg #[.int .i64 f, .slice al l.length capl], .agg #[.int .i64 f, .slice al l.length capl]] y.at_ fun e w' => e = .returned (.bool true) ∧ Below y.at_.heap.size y.at_ w') := fun y => by have h := same_any f f al al l l capl capl (by omega) (by omega) y.at_ (SL.out.after y.is) (SL.out.after y.is); rw [HS0.out] at h; exact h
    clear k0X90 k1X90 kzX90 k0X91 k1X91 kzX91 k0X1 k1X1 kzX1 k0X2 k1X2 kzX2 k0X3 k1X3 kzX3 k0X4 k1X4 kzX4
    refine wp_region_below (by kernel_rfl) (by kernel_rfl) ?_
    simp only [List.append_eq, List.cons_append, List.nil_append]
    repeat (go_big_quiet_step (first | with_reducible exact after_calls (C1.out _) | with_reducible exact after_calls (C2.out _) | with_reducible exact after_calls (C3.out _) | with_reducible exact after_calls (C4.out _) | with_reducible exact after_calls (C5.out _) | with_reducible exact after_calls (C6.out _) | with_reducible exact after_calls (C7.out _) | with_reducible exact after_calls (C8.out _) | with_reducible exact after_calls (C9.out _)))
    refine wpQuiet_nil ?_
    rintro _ ⟨⟨w9, hb9⟩, rfl⟩
    go_wp2_with fail
    go_ret
    exact ⟨ret_bool (by first | rfl | (simp; omega)), Below.two T hb9⟩
end Go.Proofs.Ytopddcabaiicgaa

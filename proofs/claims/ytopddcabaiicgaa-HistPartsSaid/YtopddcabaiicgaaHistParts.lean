/-
  The walk of the law aviarylaw09.HistParts: call by call, each callee by its contract.
-/
import Derived.Test.YtopddcabaiicgaaHistShown
import Derived.Test.YtopddcabaiicgaaHistSame
import Derived.Test.YtopddcabaiicgaaHistLaws
namespace Go.Proofs.Ytopddcabaiicgaa
open Go.RowKit
set_option linter.unusedVariables false
set_option linter.unusedSimpArgs false
theorem Sb.after {w w' : World} {A : Option Addr} {l : Bins} (h : Sb w w.heap.size A l) (hb : Below w.heap.size w w') : Sb w' w'.heap.size A l := Sb.later h hb
set_option maxHeartbeats 1000000 in
theorem histParts_bad (f at_ : Int) (al : Option Addr) (nl capl : Nat) (w : World) (hf : fineB f = false) :
    Calls Try.prog 5 #[.int .i64 f, .slice al nl capl, .int .i64 at_] w fun e w' => e = .returned (.bool true) ∧ Below w.heap.size w w' := by
  have hc : f < 0 ∨ (0 ≤ f ∧ 3 < f) := by simp [fineB] at hf; omega
  clear hf
  rcases hc with h | ⟨h1, h⟩
  all_goals
    go_enter Try.func5, Try.ntmps5
    go_wp2_with fail
    refine (shown_any _).mono ?_
    rintro e w1 ⟨rfl, T⟩
    go_wp2_with fail
    go_ret
    exact ⟨rfl, T⟩
theorem Try.infoItem : (Try.prog.info? 40).map (fun i => (i.zero, i.size, i.bytes)) = some (some (.agg #[.int .u64 0, .int .u64 0]), 2, 16) := by kernel_rfl
theorem of_n (f : Int) (A : Option Addr) (l : List (Int × Int)) (n cap : Nat) (hn : l.length = n) (hU : UI l) (hl : l.length ≤ 30000) (w : World) (hS : Si w w.heap.size A l) :
    Calls Try.prog 22 #[.int .i64 f, .slice A n cap] w (HsRes w (ofH f l)) := by subst hn; exact of_any f A l cap hU hl w hS
theorem rev_take_succ {l : List (Int × Int)} {k : Nat} (h : k < l.length) : l.reverse.take (k + 1) = l.reverse.take k ++ [ith l (l.length - 1 - k)] := by
  rw [List.take_succ_eq_append_getElem (by simpa using h)]
  simp [ith, List.getElem_reverse]
  rw [List.getElem?_eq_getElem (by omega)]
  rfl
theorem flat_append (l m : List (Int × Int)) : flat (l ++ m) = flat l ++ flat m := by simp [flat]
theorem UI.reverse {l : List (Int × Int)} (h : UI l) : UI l.reverse := fun x hx => h x (List.mem_reverse.1 hx)
theorem toB_rev (f : Int) (l : List (Int × Int)) (p : Int → Bool) : S p (toB f l.reverse) = S p (toB f l) := by unfold toB; rw [List.map_reverse, S_rev]
theorem hof_len {f : Int} {l : List (Int × Int)} {L : Bins} (hU : UI l) (h : ofH f l = (f, L, 0)) : L.length ≤ l.length := by
  have := (ofH_facts (f := f) hU).2; rw [h] at this; exact this
theorem parts_law {f : Int} (hf : fineB f = true) {l : List (Int × Int)} (hU : UI l) (K : Nat) : ∃ L X Y : Bins, ofH f l = (f, L, 0) ∧ ofH f (l.take K) = (f, X, 0) ∧ ofH f (l.drop K) = (f, Y, 0) ∧ ofH f l.reverse = (f, L, 0) ∧
    mergeH f X f Y = (f, L, 0) ∧ mergeH f Y f X = (f, L, 0) ∧ UBs L ∧ UBs X ∧ UBs Y ∧ rightB f L = true ∧ L.length ≤ l.length ∧ X.length ≤ l.length ∧ Y.length ≤ l.length := by
  obtain ⟨L, e1, h1⟩ := of_law hf hU
  obtain ⟨X, e2, h2⟩ := of_law hf (hU.take K)
  obtain ⟨Y, e3, h3⟩ := of_law hf (hU.drop K)
  obtain ⟨Z, e4, h4⟩ := of_law hf hU.reverse
  have m1 := hof_merge h2 h3 (hU.take K) (hU.drop K)
  have m2 := hof_merge h3 h2 (hU.drop K) (hU.take K)
  rw [List.take_append_drop] at m1
  have q1 : Z = L := hof_eq h4 h1 (fun p => by rw [toB_rev])
  have q2 : putAll X Y = L := hof_eq m1 h1 (fun p => rfl)
  have q3 : putAll Y X = L := hof_eq m2 h1 (fun p => by
    conv => rhs; rw [← List.take_append_drop K l]
    unfold toB
    rw [List.map_append, List.map_append, S_append, S_append, Int.add_comm])
  have l2 := hof_len (hU.take K) e2
  have l3 := hof_len (hU.drop K) e3
  simp at l2 l3
  refine ⟨L, X, Y, e1, e2, e3, by rw [e4, q1], by rw [mergeH_rt h2.rt h3.rt, q2], by rw [mergeH_rt h3.rt h2.rt, q3], h1.ub, h2.ub, h3.ub, right_of_rt h1.rt, hof_len hU e1, by omega, by omega⟩
theorem sameH_self (f : Int) (l : Bins) : sameH f l f l = true := by simp [sameH]
set_option maxRecDepth 100000 in
set_option maxHeartbeats 8000000 in
theorem histParts_A (w : World) (f at_ : Int) (K : Nat) (nl capl : Nat) (al : Option Addr) (l : List (Int × Int)) (hf : fineB f = true) (hU : UI l) (hsl : Si w w.heap.size al l)
    (hk : min (nl : Int) 100 = (l.length : Int)) (hq : l.length ≤ capl) (hm : capl ≤ 9223372036854775807) (h100 : l.length ≤ 100) (hK : K ≤ l.length) (y : Int) (hy : min at_ (l.length : Int) = y) (hyK : max 0 y = (K : Int)) (hcK : capl = K) :
    Calls Try.prog 5 #[.int .i64 f, .slice al nl capl, .int .i64 at_] w fun e w' => e = .returned (.bool true) ∧ Below w.heap.size w w' := by
  subst hcK
  have T := below_0 w
  have SL := Lib.hid hsl
  clear hsl
  obtain ⟨f1, f2⟩ := fine_of hf
  obtain ⟨i0, hi0, hz0, hz1, hz2⟩ := info_parts Try.infoItem
  obtain ⟨L, X, Y, e1, e2, e3, e4, e5, e6, uL, uX, uY, rL, lL, lX, lY⟩ := parts_law hf hU capl
  have E1 := Lib.hid e1
  have E2 := Lib.hid e2
  have E3 := Lib.hid e3
  have E4 := Lib.hid e4
  have E5 := Lib.hid e5
  have E6 := Lib.hid e6
  have RL := Lib.hid rL
  clear e1 e2 e3 e4 e5 e6 rL
  have HLT : Hid ((l.take capl).length = capl) := by show _ = _; rw [List.length_take]; omega
  have HLD : Hid ((l.drop capl).length = l.length - capl) := by show _ = _; rw [List.length_drop]
  go_enter Try.func5, Try.ntmps5
  go_wp2_with fail
  refine (shown_any _).mono ?_
  rintro e w90 ⟨rfl, hb90⟩
  replace SL := Lib.hid (SL.out.later hb90)
  replace T := Below.two T hb90
  clear hb90
  go_wp2_with fail
  clear hk hy hyK
  go_loopw [8, 9] (fun v i wr => ∃ j : Nat, j ≤ l.length ∧ i = .int .i64 ((j : Int) - 1) ∧ wr.ownsRow w90.heap.size 40 2 v (l.length - j) (flat (l.reverse.take (l.length - j))) ∧ Below w90.heap.size w90 wr) (fun _ i _ => (RowKit.intOf i + 1).toNat)
  case atStart => exact ⟨l.length, Nat.le_refl _, rfl, by rw [Nat.sub_self]; exact World.ownsRow_nil _ _ _ _, below_0 _⟩
  case round =>
    obtain ⟨j, hj, rfl, hown, hb⟩ := hrel
    cases j with
    | succ j =>
      have hji : ((j + 1 : Nat) : Int) - 1 = (j : Int) := by omega
      rw [hji]
      clear hji
      obtain ⟨b9, off9, rfl, hb9, hcs⟩ := SL.out.at_ (by omega)
      obtain ⟨i1, i2⟩ := hcs j (by omega)
      have j1 := (hb.cell (p := ⟨b9, off9 + j * 2, none⟩) hb9).trans i1
      have j2 := (hb.cell (p := ⟨b9, off9 + j * 2 + 1, none⟩) hb9).trans i2
      have hrt : l.reverse.take (l.length - j) = l.reverse.take (l.length - (j + 1)) ++ [ith l j] := by
        have := rev_take_succ (l := l) (k := l.length - (j + 1)) (by omega)
        rw [show l.length - (j + 1) + 1 = l.length - j by omega, show l.length - 1 - (l.length - (j + 1)) = j by omega] at this
        exact this
      have HRT : Hid (flat (l.reverse.take (l.length - j)) = flat (l.reverse.take (l.length - (j + 1))) ++ [.int .u64 (ith l j).1, .int .u64 (ith l j).2]) := by
        show _ = _
        rw [hrt, flat_append]; rfl
      have HNN : Hid (l.length - (j + 1) + 1 = l.length - j) := by show _ = _; omega
      have HO := Lib.hid (hown.alloc (.cells #[.int .u64 (ith l j).1, .int .u64 (ith l j).2] 40))
      have HR : Hid (Rd (wr.alloc (.cells #[.int .u64 (ith l j).1, .int .u64 (ith l j).2] 40)) (wr.heap.size + 1) (some ⟨wr.heap.size, 0, none⟩) [.int .u64 (ith l j).1, .int .u64 (ith l j).2]) := fun _ =>
        ⟨wr.heap.size, 0, rfl, by omega, fun i u hu => by rw [Nat.zero_add, (Blk.new wr 40 #[.int .u64 (ith l j).1, .int .u64 (ith l j).2]).cell]; simpa using hu⟩
      have hbz := hb.size
      have hnb : l.length - (j + 1) + 1 ≤ 200 := by omega
      clear hcs i1 i2 hrt hown
      go_wp2_with (
        at_builtin
        refine wpList_append_rd _ rfl (.tmp 47) (.tmp 52) 38 rfl w90.heap.size 40 i0 (.agg #[.int .u64 0, .int .u64 0]) 2 16 Try.underlying38 hi0 hz0 hz1 hz2 rfl (by decide) _ (l.length - (j + 1)) _ rfl HO.out (wr.heap.size + 1) (some ⟨wr.heap.size, 0, none⟩) 1 1 [.int .u64 (ith l j).1, .int .u64 (ith l j).2] rfl (by simp) HR.out (by intro u hu; simp at hu; rcases hu with rfl | rfl <;> rfl) (by unfold maxLen; omega) (by omega) (by simp; omega) ?_
        intro v2 w2 hown2 hg2 _
        rw [← HRT.out, HNN.out] at hown2
        have hb2 : Below w90.heap.size w90 w2 := (below_al hb (.cells #[.int .u64 (ith l j).1, .int .u64 (ith l j).2] 40)).grown hg2 (by simp; omega) (fun q e => own_base2 HO.out q e)
        have HO2 := Lib.hid hown2
        clear hown2 hg2)
      go_roundw
      case rel => exact ⟨j, by omega, rfl, HO2.out, hb2⟩
      case measure => simp [RowKit.intOf]
    | zero =>
      rw [Nat.sub_zero, List.take_of_length_le (by simp)] at hown
      obtain ⟨A7, c7, rfl, hc7, hR7, hF7⟩ := owns_form hown
      have S7 : Hid (Si wr wr.heap.size A7 l.reverse) := hR7
      clear hown hR7 hF7
      replace SL := Lib.hid (SL.out.later hb)
      replace T := Below.two T hb
      clear hb
      go_wp2_with fail
      refine (of_any f al l capl hU (by omega) _ SL.out).mono ?_
      rintro e w1 ⟨hb1, v1, rfl, hh1⟩
      rw [E1.out] at hh1 ⊢
      obtain ⟨A1, c1, rfl, hc1, _, hS1, _⟩ := hh1
      simp only at hc1 hS1 ⊢
      replace SL := Lib.hid (SL.out.later hb1)
      replace S7 := Lib.hid (S7.out.later hb1)
      replace T := Below.two T hb1
      have S1 := Lib.hid hS1
      clear hS1 hb1 hc1
      go_wp2_with fail
      have X1 := Lib.hid (Blk.new w1 25 #[.int .i64 f, .slice A1 L.length c1])
      have hba := below_al (below_0 w1) (.cells #[.int .i64 f, .slice A1 L.length c1] 25)
      replace SL := Lib.hid (SL.out.later hba)
      replace S7 := Lib.hid (S7.out.later hba)
      replace S1 := Lib.hid (S1.out.later hba)
      replace T := Below.two T hba
      clear hba
      generalize w1.alloc (.cells #[.int .i64 f, .slice A1 L.length c1] 25) = V1 at *
      have k0X1 := X1.out.d0
      have k1X1 := X1.out.d1
      have kzX1 := X1.out.lt
      have SK := Lib.hid (SL.out.take capl)
      have SD : Hid (Si V1 V1.heap.size al (l.drop capl)) := by show Si _ _ _ _; rw [List.drop_eq_nil_of_le hq]; exact Rd.none_
      refine (of_n f al (l.take capl) capl capl HLT.out (hU.take _) (by rw [HLT.out]; omega) _ SK.out).mono ?_
      rintro e w2 ⟨hb2, v2, rfl, hh2⟩
      rw [E2.out] at hh2 ⊢
      obtain ⟨A2, c2, rfl, hc2, _, hS2, _⟩ := hh2
      simp only at hc2 hS2 ⊢
      clear k0X1 k1X1 kzX1
      replace SL := Lib.hid (SL.out.later hb2)
      replace S7 := Lib.hid (S7.out.later hb2)
      replace S1 := Lib.hid (S1.out.later hb2)
      replace SK := Lib.hid (SK.out.later hb2)
      replace SD := Lib.hid (SD.out.later hb2)
      replace X1 := Lib.hid (X1.out.later hb2)
      replace T := Below.two T hb2
      have S2 := Lib.hid hS2
      clear hS2 hb2 hc2
      have k0X1 := X1.out.d0
      have k1X1 := X1.out.d1
      have kzX1 := X1.out.lt
      go_wp2_with fail
      clear k0X1 k1X1 kzX1
      have X2 := Lib.hid (Blk.new w2 25 #[.int .i64 f, .slice A2 X.length c2])
      have hba := below_al (below_0 w2) (.cells #[.int .i64 f, .slice A2 X.length c2] 25)
      replace SL := Lib.hid (SL.out.later hba)
      replace S7 := Lib.hid (S7.out.later hba)
      replace S1 := Lib.hid (S1.out.later hba)
      replace SK := Lib.hid (SK.out.later hba)
      replace SD := Lib.hid (SD.out.later hba)
      replace S2 := Lib.hid (S2.out.later hba)
      replace X1 := Lib.hid (X1.out.later hba)
      replace T := Below.two T hba
      clear hba
      generalize w2.alloc (.cells #[.int .i64 f, .slice A2 X.length c2] 25) = V2 at *
      have k0X1 := X1.out.d0
      have k1X1 := X1.out.d1
      have kzX1 := X1.out.lt
      have k0X2 := X2.out.d0
      have k1X2 := X2.out.d1
      have kzX2 := X2.out.lt
      refine (of_n f al (l.drop capl) 0 0 (by rw [List.length_drop]; omega) (hU.drop _) (by rw [List.length_drop]; omega) _ SD.out).mono ?_
      rintro e w3 ⟨hb3, v3, rfl, hh3⟩
      rw [E3.out] at hh3 ⊢
      obtain ⟨A3, c3, rfl, hc3, _, hS3, _⟩ := hh3
      simp only at hc3 hS3 ⊢
      clear k0X1 k1X1 kzX1 k0X2 k1X2 kzX2
      replace SL := Lib.hid (SL.out.later hb3)
      replace S7 := Lib.hid (S7.out.later hb3)
      replace S1 := Lib.hid (S1.out.later hb3)
      replace SK := Lib.hid (SK.out.later hb3)
      replace SD := Lib.hid (SD.out.later hb3)
      replace S2 := Lib.hid (S2.out.later hb3)
      replace X1 := Lib.hid (X1.out.later hb3)
      replace X2 := Lib.hid (X2.out.later hb3)
      replace T := Below.two T hb3
      have S3 := Lib.hid hS3
      clear hS3 hb3 hc3
      have k0X1 := X1.out.d0
      have k1X1 := X1.out.d1
      have kzX1 := X1.out.lt
      have k0X2 := X2.out.d0
      have k1X2 := X2.out.d1
      have kzX2 := X2.out.lt
      go_wp2_with fail
      clear k0X1 k1X1 kzX1 k0X2 k1X2 kzX2
      have X3 := Lib.hid (Blk.new w3 25 #[.int .i64 f, .slice A3 Y.length c3])
      have hba := below_al (below_0 w3) (.cells #[.int .i64 f, .slice A3 Y.length c3] 25)
      replace SL := Lib.hid (SL.out.later hba)
      replace S7 := Lib.hid (S7.out.later hba)
      replace S1 := Lib.hid (S1.out.later hba)
      replace SK := Lib.hid (SK.out.later hba)
      replace SD := Lib.hid (SD.out.later hba)
      replace S2 := Lib.hid (S2.out.later hba)
      replace S3 := Lib.hid (S3.out.later hba)
      replace X1 := Lib.hid (X1.out.later hba)
      replace X2 := Lib.hid (X2.out.later hba)
      replace T := Below.two T hba
      clear hba
      generalize w3.alloc (.cells #[.int .i64 f, .slice A3 Y.length c3] 25) = V3 at *
      have k0X1 := X1.out.d0
      have k1X1 := X1.out.d1
      have kzX1 := X1.out.lt
      have k0X2 := X2.out.d0
      have k1X2 := X2.out.d1
      have kzX2 := X2.out.lt
      have k0X3 := X3.out.d0
      have k1X3 := X3.out.d1
      have kzX3 := X3.out.lt
      refine (of_n f A7 l.reverse l.length c7 (by simp) hU.reverse (by simp; omega) _ S7.out).mono ?_
      rintro e w4 ⟨hb4, v4, rfl, hh4⟩
      rw [E4.out] at hh4 ⊢
      obtain ⟨A4, c4, rfl, hc4, _, hS4, _⟩ := hh4
      simp only at hc4 hS4 ⊢
      clear k0X1 k1X1 kzX1 k0X2 k1X2 kzX2 k0X3 k1X3 kzX3
      replace SL := Lib.hid (SL.out.later hb4)
      replace S7 := Lib.hid (S7.out.later hb4)
      replace S1 := Lib.hid (S1.out.later hb4)
      replace SK := Lib.hid (SK.out.later hb4)
      replace SD := Lib.hid (SD.out.later hb4)
      replace S2 := Lib.hid (S2.out.later hb4)
      replace S3 := Lib.hid (S3.out.later hb4)
      replace X1 := Lib.hid (X1.out.later hb4)
      replace X2 := Lib.hid (X2.out.later hb4)
      replace X3 := Lib.hid (X3.out.later hb4)
      replace T := Below.two T hb4
      have S4 := Lib.hid hS4
      clear hS4 hb4 hc4
      have k0X1 := X1.out.d0
      have k1X1 := X1.out.d1
      have kzX1 := X1.out.lt
      have k0X2 := X2.out.d0
      have k1X2 := X2.out.d1
      have kzX2 := X2.out.lt
      have k0X3 := X3.out.d0
      have k1X3 := X3.out.d1
      have kzX3 := X3.out.lt
      go_wp2_with fail
      clear k0X1 k1X1 kzX1 k0X2 k1X2 kzX2 k0X3 k1X3 kzX3
      have X4 := Lib.hid (Blk.new w4 25 #[.int .i64 f, .slice A4 L.length c4])
      have hba := below_al (below_0 w4) (.cells #[.int .i64 f, .slice A4 L.length c4] 25)
      replace SL := Lib.hid (SL.out.later hba)
      replace S7 := Lib.hid (S7.out.later hba)
      replace S1 := Lib.hid (S1.out.later hba)
      replace SK := Lib.hid (SK.out.later hba)
      replace SD := Lib.hid (SD.out.later hba)
      replace S2 := Lib.hid (S2.out.later hba)
      replace S3 := Lib.hid (S3.out.later hba)
      replace S4 := Lib.hid (S4.out.later hba)
      replace X1 := Lib.hid (X1.out.later hba)
      replace X2 := Lib.hid (X2.out.later hba)
      replace X3 := Lib.hid (X3.out.later hba)
      replace T := Below.two T hba
      clear hba
      generalize w4.alloc (.cells #[.int .i64 f, .slice A4 L.length c4] 25) = V4 at *
      have k0X1 := X1.out.d0
      have k1X1 := X1.out.d1
      have kzX1 := X1.out.lt
      have k0X2 := X2.out.d0
      have k1X2 := X2.out.d1
      have kzX2 := X2.out.lt
      have k0X3 := X3.out.d0
      have k1X3 := X3.out.d1
      have kzX3 := X3.out.lt
      have k0X4 := X4.out.d0
      have k1X4 := X4.out.d1
      have kzX4 := X4.out.lt
      refine (merge_any f f A2 A3 X Y c2 c3 uX uY (by omega) (by omega) _ S2.out S3.out).mono ?_
      rintro e w5 ⟨hb5, v5, rfl, hh5⟩
      rw [E5.out] at hh5 ⊢
      obtain ⟨A5, c5, rfl, hc5, _, hS5, _⟩ := hh5
      simp only at hc5 hS5 ⊢
      clear k0X1 k1X1 kzX1 k0X2 k1X2 kzX2 k0X3 k1X3 kzX3 k0X4 k1X4 kzX4
      replace SL := Lib.hid (SL.out.later hb5)
      replace S7 := Lib.hid (S7.out.later hb5)
      replace S1 := Lib.hid (S1.out.later hb5)
      replace SK := Lib.hid (SK.out.later hb5)
      replace SD := Lib.hid (SD.out.later hb5)
      replace S2 := Lib.hid (S2.out.later hb5)
      replace S3 := Lib.hid (S3.out.later hb5)
      replace S4 := Lib.hid (S4.out.later hb5)
      replace X1 := Lib.hid (X1.out.later hb5)
      replace X2 := Lib.hid (X2.out.later hb5)
      replace X3 := Lib.hid (X3.out.later hb5)
      replace X4 := Lib.hid (X4.out.later hb5)
      replace T := Below.two T hb5
      have S5 := Lib.hid hS5
      clear hS5 hb5 hc5
      have k0X1 := X1.out.d0
      have k1X1 := X1.out.d1
      have kzX1 := X1.out.lt
      have k0X2 := X2.out.d0
      have k1X2 := X2.out.d1
      have kzX2 := X2.out.lt
      have k0X3 := X3.out.d0
      have k1X3 := X3.out.d1
      have kzX3 := X3.out.lt
      have k0X4 := X4.out.d0
      have k1X4 := X4.out.d1
      have kzX4 := X4.out.lt
      go_wp2_with fail
      clear k0X1 k1X1 kzX1 k0X2 k1X2 kzX2 k0X3 k1X3 kzX3 k0X4 k1X4 kzX4
      have X5 := Lib.hid (Blk.new w5 25 #[.int .i64 f, .slice A5 L.length c5])
      have hba := below_al (below_0 w5) (.cells #[.int .i64 f, .slice A5 L.length c5] 25)
      replace SL := Lib.hid (SL.out.later hba)
      replace S7 := Lib.hid (S7.out.later hba)
      replace S1 := Lib.hid (S1.out.later hba)
      replace SK := Lib.hid (SK.out.later hba)
      replace SD := Lib.hid (SD.out.later hba)
      replace S2 := Lib.hid (S2.out.later hba)
      replace S3 := Lib.hid (S3.out.later hba)
      replace S4 := Lib.hid (S4.out.later hba)
      replace S5 := Lib.hid (S5.out.later hba)
      replace X1 := Lib.hid (X1.out.later hba)
      replace X2 := Lib.hid (X2.out.later hba)
      replace X3 := Lib.hid (X3.out.later hba)
      replace X4 := Lib.hid (X4.out.later hba)
      replace T := Below.two T hba
      clear hba
      generalize w5.alloc (.cells #[.int .i64 f, .slice A5 L.length c5] 25) = V5 at *
      have k0X1 := X1.out.d0
      have k1X1 := X1.out.d1
      have kzX1 := X1.out.lt
      have k0X2 := X2.out.d0
      have k1X2 := X2.out.d1
      have kzX2 := X2.out.lt
      have k0X3 := X3.out.d0
      have k1X3 := X3.out.d1
      have kzX3 := X3.out.lt
      have k0X4 := X4.out.d0
      have k1X4 := X4.out.d1
      have kzX4 := X4.out.lt
      have k0X5 := X5.out.d0
      have k1X5 := X5.out.d1
      have kzX5 := X5.out.lt
      refine (merge_any f f A3 A2 Y X c3 c2 uY uX (by omega) (by omega) _ S3.out S2.out).mono ?_
      rintro e w6 ⟨hb6, v6, rfl, hh6⟩
      rw [E6.out] at hh6 ⊢
      obtain ⟨A6, c6, rfl, hc6, _, hS6, _⟩ := hh6
      simp only at hc6 hS6 ⊢
      clear k0X1 k1X1 kzX1 k0X2 k1X2 kzX2 k0X3 k1X3 kzX3 k0X4 k1X4 kzX4 k0X5 k1X5 kzX5
      replace SL := Lib.hid (SL.out.later hb6)
      replace S7 := Lib.hid (S7.out.later hb6)
      replace S1 := Lib.hid (S1.out.later hb6)
      replace SK := Lib.hid (SK.out.later hb6)
      replace SD := Lib.hid (SD.out.later hb6)
      replace S2 := Lib.hid (S2.out.later hb6)
      replace S3 := Lib.hid (S3.out.later hb6)
      replace S4 := Lib.hid (S4.out.later hb6)
      replace S5 := Lib.hid (S5.out.later hb6)
      replace X1 := Lib.hid (X1.out.later hb6)
      replace X2 := Lib.hid (X2.out.later hb6)
      replace X3 := Lib.hid (X3.out.later hb6)
      replace X4 := Lib.hid (X4.out.later hb6)
      replace X5 := Lib.hid (X5.out.later hb6)
      replace T := Below.two T hb6
      have S6 := Lib.hid hS6
      clear hS6 hb6 hc6
      have k0X1 := X1.out.d0
      have k1X1 := X1.out.d1
      have kzX1 := X1.out.lt
      have k0X2 := X2.out.d0
      have k1X2 := X2.out.d1
      have kzX2 := X2.out.lt
      have k0X3 := X3.out.d0
      have k1X3 := X3.out.d1
      have kzX3 := X3.out.lt
      have k0X4 := X4.out.d0
      have k1X4 := X4.out.d1
      have kzX4 := X4.out.lt
      have k0X5 := X5.out.d0
      have k1X5 := X5.out.d1
      have kzX5 := X5.out.lt
      go_wp2_with fail
      clear k0X1 k1X1 kzX1 k0X2 k1X2 kzX2 k0X3 k1X3 kzX3 k0X4 k1X4 kzX4 k0X5 k1X5 kzX5
      have X6 := Lib.hid (Blk.new w6 25 #[.int .i64 f, .slice A6 L.length c6])
      have hba := below_al (below_0 w6) (.cells #[.int .i64 f, .slice A6 L.length c6] 25)
      replace SL := Lib.hid (SL.out.later hba)
      replace S7 := Lib.hid (S7.out.later hba)
      replace S1 := Lib.hid (S1.out.later hba)
      replace SK := Lib.hid (SK.out.later hba)
      replace SD := Lib.hid (SD.out.later hba)
      replace S2 := Lib.hid (S2.out.later hba)
      replace S3 := Lib.hid (S3.out.later hba)
      replace S4 := Lib.hid (S4.out.later hba)
      replace S5 := Lib.hid (S5.out.later hba)
      replace S6 := Lib.hid (S6.out.later hba)
      replace X1 := Lib.hid (X1.out.later hba)
      replace X2 := Lib.hid (X2.out.later hba)
      replace X3 := Lib.hid (X3.out.later hba)
      replace X4 := Lib.hid (X4.out.later hba)
      replace X5 := Lib.hid (X5.out.later hba)
      replace T := Below.two T hba
      clear hba
      generalize w6.alloc (.cells #[.int .i64 f, .slice A6 L.length c6] 25) = V6 at *
      have k0X1 := X1.out.d0
      have k1X1 := X1.out.d1
      have kzX1 := X1.out.lt
      have k0X2 := X2.out.d0
      have k1X2 := X2.out.d1
      have kzX2 := X2.out.lt
      have k0X3 := X3.out.d0
      have k1X3 := X3.out.d1
      have kzX3 := X3.out.lt
      have k0X4 := X4.out.d0
      have k1X4 := X4.out.d1
      have kzX4 := X4.out.lt
      have k0X5 := X5.out.d0
      have k1X5 := X5.out.d1
      have kzX5 := X5.out.lt
      have k0X6 := X6.out.d0
      have k1X6 := X6.out.d1
      have kzX6 := X6.out.lt
      go_wp2_with fail
      refine (same_any f f A5 A1 L L c5 c1 (by omega) (by omega) _ S5.out S1.out).mono ?_
      rintro e w8 ⟨rfl, hb8⟩
      rw [sameH_self]
      clear k0X1 k1X1 kzX1 k0X2 k1X2 kzX2 k0X3 k1X3 kzX3 k0X4 k1X4 kzX4 k0X5 k1X5 kzX5 k0X6 k1X6 kzX6
      replace SL := Lib.hid (SL.out.later hb8)
      replace S7 := Lib.hid (S7.out.later hb8)
      replace S1 := Lib.hid (S1.out.later hb8)
      replace SK := Lib.hid (SK.out.later hb8)
      replace SD := Lib.hid (SD.out.later hb8)
      replace S2 := Lib.hid (S2.out.later hb8)
      replace S3 := Lib.hid (S3.out.later hb8)
      replace S4 := Lib.hid (S4.out.later hb8)
      replace S5 := Lib.hid (S5.out.later hb8)
      replace S6 := Lib.hid (S6.out.later hb8)
      replace X1 := Lib.hid (X1.out.later hb8)
      replace X2 := Lib.hid (X2.out.later hb8)
      replace X3 := Lib.hid (X3.out.later hb8)
      replace X4 := Lib.hid (X4.out.later hb8)
      replace X5 := Lib.hid (X5.out.later hb8)
      replace X6 := Lib.hid (X6.out.later hb8)
      replace T := Below.two T hb8
      clear hb8
      have k0X1 := X1.out.d0
      have k1X1 := X1.out.d1
      have kzX1 := X1.out.lt
      have k0X2 := X2.out.d0
      have k1X2 := X2.out.d1
      have kzX2 := X2.out.lt
      have k0X3 := X3.out.d0
      have k1X3 := X3.out.d1
      have kzX3 := X3.out.lt
      have k0X4 := X4.out.d0
      have k1X4 := X4.out.d1
      have kzX4 := X4.out.lt
      have k0X5 := X5.out.d0
      have k1X5 := X5.out.d1
      have kzX5 := X5.out.lt
      have k0X6 := X6.out.d0
      have k1X6 := X6.out.d1
      have kzX6 := X6.out.lt
      go_wp2_with fail
      refine (same_any f f A6 A1 L L c6 c1 (by omega) (by omega) _ S6.out S1.out).mono ?_
      rintro e w9 ⟨rfl, hb9⟩
      rw [sameH_self]
      clear k0X1 k1X1 kzX1 k0X2 k1X2 kzX2 k0X3 k1X3 kzX3 k0X4 k1X4 kzX4 k0X5 k1X5 kzX5 k0X6 k1X6 kzX6
      replace SL := Lib.hid (SL.out.later hb9)
      replace S7 := Lib.hid (S7.out.later hb9)
      replace S1 := Lib.hid (S1.out.later hb9)
      replace SK := Lib.hid (SK.out.later hb9)
      replace SD := Lib.hid (SD.out.later hb9)
      replace S2 := Lib.hid (S2.out.later hb9)
      replace S3 := Lib.hid (S3.out.later hb9)
      replace S4 := Lib.hid (S4.out.later hb9)
      replace S5 := Lib.hid (S5.out.later hb9)
      replace S6 := Lib.hid (S6.out.later hb9)
      replace X1 := Lib.hid (X1.out.later hb9)
      replace X2 := Lib.hid (X2.out.later hb9)
      replace X3 := Lib.hid (X3.out.later hb9)
      replace X4 := Lib.hid (X4.out.later hb9)
      replace X5 := Lib.hid (X5.out.later hb9)
      replace X6 := Lib.hid (X6.out.later hb9)
      replace T := Below.two T hb9
      clear hb9
      have k0X1 := X1.out.d0
      have k1X1 := X1.out.d1
      have kzX1 := X1.out.lt
      have k0X2 := X2.out.d0
      have k1X2 := X2.out.d1
      have kzX2 := X2.out.lt
      have k0X3 := X3.out.d0
      have k1X3 := X3.out.d1
      have kzX3 := X3.out.lt
      have k0X4 := X4.out.d0
      have k1X4 := X4.out.d1
      have kzX4 := X4.out.lt
      have k0X5 := X5.out.d0
      have k1X5 := X5.out.d1
      have kzX5 := X5.out.lt
      have k0X6 := X6.out.d0
      have k1X6 := X6.out.d1
      have kzX6 := X6.out.lt
      go_wp2_with fail
      refine (same_any f f A4 A1 L L c4 c1 (by omega) (by omega) _ S4.out S1.out).mono ?_
      rintro e w10 ⟨rfl, hb10⟩
      rw [sameH_self]
      clear k0X1 k1X1 kzX1 k0X2 k1X2 kzX2 k0X3 k1X3 kzX3 k0X4 k1X4 kzX4 k0X5 k1X5 kzX5 k0X6 k1X6 kzX6
      replace SL := Lib.hid (SL.out.later hb10)
      replace S7 := Lib.hid (S7.out.later hb10)
      replace S1 := Lib.hid (S1.out.later hb10)
      replace SK := Lib.hid (SK.out.later hb10)
      replace SD := Lib.hid (SD.out.later hb10)
      replace S2 := Lib.hid (S2.out.later hb10)
      replace S3 := Lib.hid (S3.out.later hb10)
      replace S4 := Lib.hid (S4.out.later hb10)
      replace S5 := Lib.hid (S5.out.later hb10)
      replace S6 := Lib.hid (S6.out.later hb10)
      replace X1 := Lib.hid (X1.out.later hb10)
      replace X2 := Lib.hid (X2.out.later hb10)
      replace X3 := Lib.hid (X3.out.later hb10)
      replace X4 := Lib.hid (X4.out.later hb10)
      replace X5 := Lib.hid (X5.out.later hb10)
      replace X6 := Lib.hid (X6.out.later hb10)
      replace T := Below.two T hb10
      clear hb10
      have k0X1 := X1.out.d0
      have k1X1 := X1.out.d1
      have kzX1 := X1.out.lt
      have k0X2 := X2.out.d0
      have k1X2 := X2.out.d1
      have kzX2 := X2.out.lt
      have k0X3 := X3.out.d0
      have k1X3 := X3.out.d1
      have kzX3 := X3.out.lt
      have k0X4 := X4.out.d0
      have k1X4 := X4.out.d1
      have kzX4 := X4.out.lt
      have k0X5 := X5.out.d0
      have k1X5 := X5.out.d1
      have kzX5 := X5.out.lt
      have k0X6 := X6.out.d0
      have k1X6 := X6.out.d1
      have kzX6 := X6.out.lt
      go_wp2_with fail
      refine (right_any f A1 L c1 uL (by omega) _ S1.out).mono ?_
      rintro e w11 ⟨rfl, hb11⟩
      rw [RL.out]
      clear k0X1 k1X1 kzX1 k0X2 k1X2 kzX2 k0X3 k1X3 kzX3 k0X4 k1X4 kzX4 k0X5 k1X5 kzX5 k0X6 k1X6 kzX6
      replace SL := Lib.hid (SL.out.later hb11)
      replace S7 := Lib.hid (S7.out.later hb11)
      replace S1 := Lib.hid (S1.out.later hb11)
      replace SK := Lib.hid (SK.out.later hb11)
      replace SD := Lib.hid (SD.out.later hb11)
      replace S2 := Lib.hid (S2.out.later hb11)
      replace S3 := Lib.hid (S3.out.later hb11)
      replace S4 := Lib.hid (S4.out.later hb11)
      replace S5 := Lib.hid (S5.out.later hb11)
      replace S6 := Lib.hid (S6.out.later hb11)
      replace X1 := Lib.hid (X1.out.later hb11)
      replace X2 := Lib.hid (X2.out.later hb11)
      replace X3 := Lib.hid (X3.out.later hb11)
      replace X4 := Lib.hid (X4.out.later hb11)
      replace X5 := Lib.hid (X5.out.later hb11)
      replace X6 := Lib.hid (X6.out.later hb11)
      replace T := Below.two T hb11
      clear hb11
      have k0X1 := X1.out.d0
      have k1X1 := X1.out.d1
      have kzX1 := X1.out.lt
      have k0X2 := X2.out.d0
      have k1X2 := X2.out.d1
      have kzX2 := X2.out.lt
      have k0X3 := X3.out.d0
      have k1X3 := X3.out.d1
      have kzX3 := X3.out.lt
      have k0X4 := X4.out.d0
      have k1X4 := X4.out.d1
      have kzX4 := X4.out.lt
      have k0X5 := X5.out.d0
      have k1X5 := X5.out.d1
      have kzX5 := X5.out.lt
      have k0X6 := X6.out.d0
      have k1X6 := X6.out.d1
      have kzX6 := X6.out.lt
      go_wp2_with fail
      go_ret
      exact ⟨rfl, T⟩
set_option maxRecDepth 100000 in
set_option maxHeartbeats 8000000 in
theorem histParts_B (w : World) (f at_ : Int) (K : Nat) (nl capl : Nat) (b off : Nat) (l : List (Int × Int)) (hf : fineB f = true) (hU : UI l) (hsl : Si w w.heap.size (some ⟨b, off, none⟩) l)
    (hk : min (nl : Int) 100 = (l.length : Int)) (hq : l.length ≤ capl) (hm : capl ≤ 9223372036854775807) (h100 : l.length ≤ 100) (hK : K ≤ l.length) (y : Int) (hy : min at_ (l.length : Int) = y) (hyK : max 0 y = (K : Int)) (hcK : capl ≠ K) :
    Calls Try.prog 5 #[.int .i64 f, .slice (some ⟨b, off, none⟩) nl capl, .int .i64 at_] w fun e w' => e = .returned (.bool true) ∧ Below w.heap.size w w' := by
  have T := below_0 w
  have SL := Lib.hid hsl
  clear hsl
  obtain ⟨f1, f2⟩ := fine_of hf
  obtain ⟨i0, hi0, hz0, hz1, hz2⟩ := info_parts Try.infoItem
  obtain ⟨L, X, Y, e1, e2, e3, e4, e5, e6, uL, uX, uY, rL, lL, lX, lY⟩ := parts_law hf hU K
  have E1 := Lib.hid e1
  have E2 := Lib.hid e2
  have E3 := Lib.hid e3
  have E4 := Lib.hid e4
  have E5 := Lib.hid e5
  have E6 := Lib.hid e6
  have RL := Lib.hid rL
  clear e1 e2 e3 e4 e5 e6 rL
  have HLT : Hid ((l.take K).length = K) := by show _ = _; rw [List.length_take]; omega
  have HLD : Hid ((l.drop K).length = l.length - K) := by show _ = _; rw [List.length_drop]
  go_enter Try.func5, Try.ntmps5
  go_wp2_with fail
  refine (shown_any _).mono ?_
  rintro e w90 ⟨rfl, hb90⟩
  replace SL := Lib.hid (SL.out.later hb90)
  replace T := Below.two T hb90
  clear hb90
  go_wp2_with fail
  clear hk hy hyK
  go_loopw [8, 9] (fun v i wr => ∃ j : Nat, j ≤ l.length ∧ i = .int .i64 ((j : Int) - 1) ∧ wr.ownsRow w90.heap.size 40 2 v (l.length - j) (flat (l.reverse.take (l.length - j))) ∧ Below w90.heap.size w90 wr) (fun _ i _ => (RowKit.intOf i + 1).toNat)
  case atStart => exact ⟨l.length, Nat.le_refl _, rfl, by rw [Nat.sub_self]; exact World.ownsRow_nil _ _ _ _, below_0 _⟩
  case round =>
    obtain ⟨j, hj, rfl, hown, hb⟩ := hrel
    cases j with
    | succ j =>
      have hji : ((j + 1 : Nat) : Int) - 1 = (j : Int) := by omega
      rw [hji]
      clear hji
      obtain ⟨b', off', e9, hb9, hcs⟩ := SL.out.at_ (by omega)
      cases e9
      obtain ⟨i1, i2⟩ := hcs j (by omega)
      have j1 := (hb.cell (p := ⟨b, off + j * 2, none⟩) hb9).trans i1
      have j2 := (hb.cell (p := ⟨b, off + j * 2 + 1, none⟩) hb9).trans i2
      have hrt : l.reverse.take (l.length - j) = l.reverse.take (l.length - (j + 1)) ++ [ith l j] := by
        have := rev_take_succ (l := l) (k := l.length - (j + 1)) (by omega)
        rw [show l.length - (j + 1) + 1 = l.length - j by omega, show l.length - 1 - (l.length - (j + 1)) = j by omega] at this
        exact this
      have HRT : Hid (flat (l.reverse.take (l.length - j)) = flat (l.reverse.take (l.length - (j + 1))) ++ [.int .u64 (ith l j).1, .int .u64 (ith l j).2]) := by
        show _ = _
        rw [hrt, flat_append]; rfl
      have HNN : Hid (l.length - (j + 1) + 1 = l.length - j) := by show _ = _; omega
      have HO := Lib.hid (hown.alloc (.cells #[.int .u64 (ith l j).1, .int .u64 (ith l j).2] 40))
      have HR : Hid (Rd (wr.alloc (.cells #[.int .u64 (ith l j).1, .int .u64 (ith l j).2] 40)) (wr.heap.size + 1) (some ⟨wr.heap.size, 0, none⟩) [.int .u64 (ith l j).1, .int .u64 (ith l j).2]) := fun _ =>
        ⟨wr.heap.size, 0, rfl, by omega, fun i u hu => by rw [Nat.zero_add, (Blk.new wr 40 #[.int .u64 (ith l j).1, .int .u64 (ith l j).2]).cell]; simpa using hu⟩
      have hbz := hb.size
      have hnb : l.length - (j + 1) + 1 ≤ 200 := by omega
      clear hcs i1 i2 hrt hown
      go_wp2_with (
        at_builtin
        refine wpList_append_rd _ rfl (.tmp 47) (.tmp 52) 38 rfl w90.heap.size 40 i0 (.agg #[.int .u64 0, .int .u64 0]) 2 16 Try.underlying38 hi0 hz0 hz1 hz2 rfl (by decide) _ (l.length - (j + 1)) _ rfl HO.out (wr.heap.size + 1) (some ⟨wr.heap.size, 0, none⟩) 1 1 [.int .u64 (ith l j).1, .int .u64 (ith l j).2] rfl (by simp) HR.out (by intro u hu; simp at hu; rcases hu with rfl | rfl <;> rfl) (by unfold maxLen; omega) (by omega) (by simp; omega) ?_
        intro v2 w2 hown2 hg2 _
        rw [← HRT.out, HNN.out] at hown2
        have hb2 : Below w90.heap.size w90 w2 := (below_al hb (.cells #[.int .u64 (ith l j).1, .int .u64 (ith l j).2] 40)).grown hg2 (by simp; omega) (fun q e => own_base2 HO.out q e)
        have HO2 := Lib.hid hown2
        clear hown2 hg2)
      go_roundw
      case rel => exact ⟨j, by omega, rfl, HO2.out, hb2⟩
      case measure => simp [RowKit.intOf]
    | zero =>
      rw [Nat.sub_zero, List.take_of_length_le (by simp)] at hown
      obtain ⟨A7, c7, rfl, hc7, hR7, hF7⟩ := owns_form hown
      have S7 : Hid (Si wr wr.heap.size A7 l.reverse) := hR7
      clear hown hR7 hF7
      replace SL := Lib.hid (SL.out.later hb)
      replace T := Below.two T hb
      clear hb
      go_wp2_with fail
      refine (of_any f (some ⟨b, off, none⟩) l capl hU (by omega) _ SL.out).mono ?_
      rintro e w1 ⟨hb1, v1, rfl, hh1⟩
      rw [E1.out] at hh1 ⊢
      obtain ⟨A1, c1, rfl, hc1, _, hS1, _⟩ := hh1
      simp only at hc1 hS1 ⊢
      replace SL := Lib.hid (SL.out.later hb1)
      replace S7 := Lib.hid (S7.out.later hb1)
      replace T := Below.two T hb1
      have S1 := Lib.hid hS1
      clear hS1 hb1 hc1
      go_wp2_with fail
      have X1 := Lib.hid (Blk.new w1 25 #[.int .i64 f, .slice A1 L.length c1])
      have hba := below_al (below_0 w1) (.cells #[.int .i64 f, .slice A1 L.length c1] 25)
      replace SL := Lib.hid (SL.out.later hba)
      replace S7 := Lib.hid (S7.out.later hba)
      replace S1 := Lib.hid (S1.out.later hba)
      replace T := Below.two T hba
      clear hba
      generalize w1.alloc (.cells #[.int .i64 f, .slice A1 L.length c1] 25) = V1 at *
      have k0X1 := X1.out.d0
      have k1X1 := X1.out.d1
      have kzX1 := X1.out.lt
      have SK := Lib.hid (SL.out.take K)
      have SD : Hid (Si V1 V1.heap.size (some ⟨b, off + K * 2, none⟩) (l.drop K)) := SL.out.drop_ K
      refine (of_n f (some ⟨b, off, none⟩) (l.take K) K capl HLT.out (hU.take _) (by rw [HLT.out]; omega) _ SK.out).mono ?_
      rintro e w2 ⟨hb2, v2, rfl, hh2⟩
      rw [E2.out] at hh2 ⊢
      obtain ⟨A2, c2, rfl, hc2, _, hS2, _⟩ := hh2
      simp only at hc2 hS2 ⊢
      clear k0X1 k1X1 kzX1
      replace SL := Lib.hid (SL.out.later hb2)
      replace S7 := Lib.hid (S7.out.later hb2)
      replace S1 := Lib.hid (S1.out.later hb2)
      replace SK := Lib.hid (SK.out.later hb2)
      replace SD := Lib.hid (SD.out.later hb2)
      replace X1 := Lib.hid (X1.out.later hb2)
      replace T := Below.two T hb2
      have S2 := Lib.hid hS2
      clear hS2 hb2 hc2
      have k0X1 := X1.out.d0
      have k1X1 := X1.out.d1
      have kzX1 := X1.out.lt
      go_wp2_with fail
      clear k0X1 k1X1 kzX1
      have X2 := Lib.hid (Blk.new w2 25 #[.int .i64 f, .slice A2 X.length c2])
      have hba := below_al (below_0 w2) (.cells #[.int .i64 f, .slice A2 X.length c2] 25)
      replace SL := Lib.hid (SL.out.later hba)
      replace S7 := Lib.hid (S7.out.later hba)
      replace S1 := Lib.hid (S1.out.later hba)
      replace SK := Lib.hid (SK.out.later hba)
      replace SD := Lib.hid (SD.out.later hba)
      replace S2 := Lib.hid (S2.out.later hba)
      replace X1 := Lib.hid (X1.out.later hba)
      replace T := Below.two T hba
      clear hba
      generalize w2.alloc (.cells #[.int .i64 f, .slice A2 X.length c2] 25) = V2 at *
      have k0X1 := X1.out.d0
      have k1X1 := X1.out.d1
      have kzX1 := X1.out.lt
      have k0X2 := X2.out.d0
      have k1X2 := X2.out.d1
      have kzX2 := X2.out.lt
      refine (of_n f (some ⟨b, off + K * 2, none⟩) (l.drop K) (l.length - K) (capl - K) HLD.out (hU.drop _) (by rw [HLD.out]; omega) _ SD.out).mono ?_
      rintro e w3 ⟨hb3, v3, rfl, hh3⟩
      rw [E3.out] at hh3 ⊢
      obtain ⟨A3, c3, rfl, hc3, _, hS3, _⟩ := hh3
      simp only at hc3 hS3 ⊢
      clear k0X1 k1X1 kzX1 k0X2 k1X2 kzX2
      replace SL := Lib.hid (SL.out.later hb3)
      replace S7 := Lib.hid (S7.out.later hb3)
      replace S1 := Lib.hid (S1.out.later hb3)
      replace SK := Lib.hid (SK.out.later hb3)
      replace SD := Lib.hid (SD.out.later hb3)
      replace S2 := Lib.hid (S2.out.later hb3)
      replace X1 := Lib.hid (X1.out.later hb3)
      replace X2 := Lib.hid (X2.out.later hb3)
      replace T := Below.two T hb3
      have S3 := Lib.hid hS3
      clear hS3 hb3 hc3
      have k0X1 := X1.out.d0
      have k1X1 := X1.out.d1
      have kzX1 := X1.out.lt
      have k0X2 := X2.out.d0
      have k1X2 := X2.out.d1
      have kzX2 := X2.out.lt
      go_wp2_with fail
      clear k0X1 k1X1 kzX1 k0X2 k1X2 kzX2
      have X3 := Lib.hid (Blk.new w3 25 #[.int .i64 f, .slice A3 Y.length c3])
      have hba := below_al (below_0 w3) (.cells #[.int .i64 f, .slice A3 Y.length c3] 25)
      replace SL := Lib.hid (SL.out.later hba)
      replace S7 := Lib.hid (S7.out.later hba)
      replace S1 := Lib.hid (S1.out.later hba)
      replace SK := Lib.hid (SK.out.later hba)
      replace SD := Lib.hid (SD.out.later hba)
      replace S2 := Lib.hid (S2.out.later hba)
      replace S3 := Lib.hid (S3.out.later hba)
      replace X1 := Lib.hid (X1.out.later hba)
      replace X2 := Lib.hid (X2.out.later hba)
      replace T := Below.two T hba
      clear hba
      generalize w3.alloc (.cells #[.int .i64 f, .slice A3 Y.length c3] 25) = V3 at *
      have k0X1 := X1.out.d0
      have k1X1 := X1.out.d1
      have kzX1 := X1.out.lt
      have k0X2 := X2.out.d0
      have k1X2 := X2.out.d1
      have kzX2 := X2.out.lt
      have k0X3 := X3.out.d0
      have k1X3 := X3.out.d1
      have kzX3 := X3.out.lt
      refine (of_n f A7 l.reverse l.length c7 (by simp) hU.reverse (by simp; omega) _ S7.out).mono ?_
      rintro e w4 ⟨hb4, v4, rfl, hh4⟩
      rw [E4.out] at hh4 ⊢
      obtain ⟨A4, c4, rfl, hc4, _, hS4, _⟩ := hh4
      simp only at hc4 hS4 ⊢
      clear k0X1 k1X1 kzX1 k0X2 k1X2 kzX2 k0X3 k1X3 kzX3
      replace SL := Lib.hid (SL.out.later hb4)
      replace S7 := Lib.hid (S7.out.later hb4)
      replace S1 := Lib.hid (S1.out.later hb4)
      replace SK := Lib.hid (SK.out.later hb4)
      replace SD := Lib.hid (SD.out.later hb4)
      replace S2 := Lib.hid (S2.out.later hb4)
      replace S3 := Lib.hid (S3.out.later hb4)
      replace X1 := Lib.hid (X1.out.later hb4)
      replace X2 := Lib.hid (X2.out.later hb4)
      replace X3 := Lib.hid (X3.out.later hb4)
      replace T := Below.two T hb4
      have S4 := Lib.hid hS4
      clear hS4 hb4 hc4
      have k0X1 := X1.out.d0
      have k1X1 := X1.out.d1
      have kzX1 := X1.out.lt
      have k0X2 := X2.out.d0
      have k1X2 := X2.out.d1
      have kzX2 := X2.out.lt
      have k0X3 := X3.out.d0
      have k1X3 := X3.out.d1
      have kzX3 := X3.out.lt
      go_wp2_with fail
      clear k0X1 k1X1 kzX1 k0X2 k1X2 kzX2 k0X3 k1X3 kzX3
      have X4 := Lib.hid (Blk.new w4 25 #[.int .i64 f, .slice A4 L.length c4])
      have hba := below_al (below_0 w4) (.cells #[.int .i64 f, .slice A4 L.length c4] 25)
      replace SL := Lib.hid (SL.out.later hba)
      replace S7 := Lib.hid (S7.out.later hba)
      replace S1 := Lib.hid (S1.out.later hba)
      replace SK := Lib.hid (SK.out.later hba)
      replace SD := Lib.hid (SD.out.later hba)
      replace S2 := Lib.hid (S2.out.later hba)
      replace S3 := Lib.hid (S3.out.later hba)
      replace S4 := Lib.hid (S4.out.later hba)
      replace X1 := Lib.hid (X1.out.later hba)
      replace X2 := Lib.hid (X2.out.later hba)
      replace X3 := Lib.hid (X3.out.later hba)
      replace T := Below.two T hba
      clear hba
      generalize w4.alloc (.cells #[.int .i64 f, .slice A4 L.length c4] 25) = V4 at *
      have k0X1 := X1.out.d0
      have k1X1 := X1.out.d1
      have kzX1 := X1.out.lt
      have k0X2 := X2.out.d0
      have k1X2 := X2.out.d1
      have kzX2 := X2.out.lt
      have k0X3 := X3.out.d0
      have k1X3 := X3.out.d1
      have kzX3 := X3.out.lt
      have k0X4 := X4.out.d0
      have k1X4 := X4.out.d1
      have kzX4 := X4.out.lt
      refine (merge_any f f A2 A3 X Y c2 c3 uX uY (by omega) (by omega) _ S2.out S3.out).mono ?_
      rintro e w5 ⟨hb5, v5, rfl, hh5⟩
      rw [E5.out] at hh5 ⊢
      obtain ⟨A5, c5, rfl, hc5, _, hS5, _⟩ := hh5
      simp only at hc5 hS5 ⊢
      clear k0X1 k1X1 kzX1 k0X2 k1X2 kzX2 k0X3 k1X3 kzX3 k0X4 k1X4 kzX4
      replace SL := Lib.hid (SL.out.later hb5)
      replace S7 := Lib.hid (S7.out.later hb5)
      replace S1 := Lib.hid (S1.out.later hb5)
      replace SK := Lib.hid (SK.out.later hb5)
      replace SD := Lib.hid (SD.out.later hb5)
      replace S2 := Lib.hid (S2.out.later hb5)
      replace S3 := Lib.hid (S3.out.later hb5)
      replace S4 := Lib.hid (S4.out.later hb5)
      replace X1 := Lib.hid (X1.out.later hb5)
      replace X2 := Lib.hid (X2.out.later hb5)
      replace X3 := Lib.hid (X3.out.later hb5)
      replace X4 := Lib.hid (X4.out.later hb5)
      replace T := Below.two T hb5
      have S5 := Lib.hid hS5
      clear hS5 hb5 hc5
      have k0X1 := X1.out.d0
      have k1X1 := X1.out.d1
      have kzX1 := X1.out.lt
      have k0X2 := X2.out.d0
      have k1X2 := X2.out.d1
      have kzX2 := X2.out.lt
      have k0X3 := X3.out.d0
      have k1X3 := X3.out.d1
      have kzX3 := X3.out.lt
      have k0X4 := X4.out.d0
      have k1X4 := X4.out.d1
      have kzX4 := X4.out.lt
      go_wp2_with fail
      clear k0X1 k1X1 kzX1 k0X2 k1X2 kzX2 k0X3 k1X3 kzX3 k0X4 k1X4 kzX4
      have X5 := Lib.hid (Blk.new w5 25 #[.int .i64 f, .slice A5 L.length c5])
      have hba := below_al (below_0 w5) (.cells #[.int .i64 f, .slice A5 L.length c5] 25)
      replace SL := Lib.hid (SL.out.later hba)
      replace S7 := Lib.hid (S7.out.later hba)
      replace S1 := Lib.hid (S1.out.later hba)
      replace SK := Lib.hid (SK.out.later hba)
      replace SD := Lib.hid (SD.out.later hba)
      replace S2 := Lib.hid (S2.out.later hba)
      replace S3 := Lib.hid (S3.out.later hba)
      replace S4 := Lib.hid (S4.out.later hba)
      replace S5 := Lib.hid (S5.out.later hba)
      replace X1 := Lib.hid (X1.out.later hba)
      replace X2 := Lib.hid (X2.out.later hba)
      replace X3 := Lib.hid (X3.out.later hba)
      replace X4 := Lib.hid (X4.out.later hba)
      replace T := Below.two T hba
      clear hba
      generalize w5.alloc (.cells #[.int .i64 f, .slice A5 L.length c5] 25) = V5 at *
      have k0X1 := X1.out.d0
      have k1X1 := X1.out.d1
      have kzX1 := X1.out.lt
      have k0X2 := X2.out.d0
      have k1X2 := X2.out.d1
      have kzX2 := X2.out.lt
      have k0X3 := X3.out.d0
      have k1X3 := X3.out.d1
      have kzX3 := X3.out.lt
      have k0X4 := X4.out.d0
      have k1X4 := X4.out.d1
      have kzX4 := X4.out.lt
      have k0X5 := X5.out.d0
      have k1X5 := X5.out.d1
      have kzX5 := X5.out.lt
      refine (merge_any f f A3 A2 Y X c3 c2 uY uX (by omega) (by omega) _ S3.out S2.out).mono ?_
      rintro e w6 ⟨hb6, v6, rfl, hh6⟩
      rw [E6.out] at hh6 ⊢
      obtain ⟨A6, c6, rfl, hc6, _, hS6, _⟩ := hh6
      simp only at hc6 hS6 ⊢
      clear k0X1 k1X1 kzX1 k0X2 k1X2 kzX2 k0X3 k1X3 kzX3 k0X4 k1X4 kzX4 k0X5 k1X5 kzX5
      replace SL := Lib.hid (SL.out.later hb6)
      replace S7 := Lib.hid (S7.out.later hb6)
      replace S1 := Lib.hid (S1.out.later hb6)
      replace SK := Lib.hid (SK.out.later hb6)
      replace SD := Lib.hid (SD.out.later hb6)
      replace S2 := Lib.hid (S2.out.later hb6)
      replace S3 := Lib.hid (S3.out.later hb6)
      replace S4 := Lib.hid (S4.out.later hb6)
      replace S5 := Lib.hid (S5.out.later hb6)
      replace X1 := Lib.hid (X1.out.later hb6)
      replace X2 := Lib.hid (X2.out.later hb6)
      replace X3 := Lib.hid (X3.out.later hb6)
      replace X4 := Lib.hid (X4.out.later hb6)
      replace X5 := Lib.hid (X5.out.later hb6)
      replace T := Below.two T hb6
      have S6 := Lib.hid hS6
      clear hS6 hb6 hc6
      have k0X1 := X1.out.d0
      have k1X1 := X1.out.d1
      have kzX1 := X1.out.lt
      have k0X2 := X2.out.d0
      have k1X2 := X2.out.d1
      have kzX2 := X2.out.lt
      have k0X3 := X3.out.d0
      have k1X3 := X3.out.d1
      have kzX3 := X3.out.lt
      have k0X4 := X4.out.d0
      have k1X4 := X4.out.d1
      have kzX4 := X4.out.lt
      have k0X5 := X5.out.d0
      have k1X5 := X5.out.d1
      have kzX5 := X5.out.lt
      go_wp2_with fail
      clear k0X1 k1X1 kzX1 k0X2 k1X2 kzX2 k0X3 k1X3 kzX3 k0X4 k1X4 kzX4 k0X5 k1X5 kzX5
      have X6 := Lib.hid (Blk.new w6 25 #[.int .i64 f, .slice A6 L.length c6])
      have hba := below_al (below_0 w6) (.cells #[.int .i64 f, .slice A6 L.length c6] 25)
      replace SL := Lib.hid (SL.out.later hba)
      replace S7 := Lib.hid (S7.out.later hba)
      replace S1 := Lib.hid (S1.out.later hba)
      replace SK := Lib.hid (SK.out.later hba)
      replace SD := Lib.hid (SD.out.later hba)
      replace S2 := Lib.hid (S2.out.later hba)
      replace S3 := Lib.hid (S3.out.later hba)
      replace S4 := Lib.hid (S4.out.later hba)
      replace S5 := Lib.hid (S5.out.later hba)
      replace S6 := Lib.hid (S6.out.later hba)
      replace X1 := Lib.hid (X1.out.later hba)
      replace X2 := Lib.hid (X2.out.later hba)
      replace X3 := Lib.hid (X3.out.later hba)
      replace X4 := Lib.hid (X4.out.later hba)
      replace X5 := Lib.hid (X5.out.later hba)
      replace T := Below.two T hba
      clear hba
      generalize w6.alloc (.cells #[.int .i64 f, .slice A6 L.length c6] 25) = V6 at *
      have k0X1 := X1.out.d0
      have k1X1 := X1.out.d1
      have kzX1 := X1.out.lt
      have k0X2 := X2.out.d0
      have k1X2 := X2.out.d1
      have kzX2 := X2.out.lt
      have k0X3 := X3.out.d0
      have k1X3 := X3.out.d1
      have kzX3 := X3.out.lt
      have k0X4 := X4.out.d0
      have k1X4 := X4.out.d1
      have kzX4 := X4.out.lt
      have k0X5 := X5.out.d0
      have k1X5 := X5.out.d1
      have kzX5 := X5.out.lt
      have k0X6 := X6.out.d0
      have k1X6 := X6.out.d1
      have kzX6 := X6.out.lt
      go_wp2_with fail
      refine (same_any f f A5 A1 L L c5 c1 (by omega) (by omega) _ S5.out S1.out).mono ?_
      rintro e w8 ⟨rfl, hb8⟩
      rw [sameH_self]
      clear k0X1 k1X1 kzX1 k0X2 k1X2 kzX2 k0X3 k1X3 kzX3 k0X4 k1X4 kzX4 k0X5 k1X5 kzX5 k0X6 k1X6 kzX6
      replace SL := Lib.hid (SL.out.later hb8)
      replace S7 := Lib.hid (S7.out.later hb8)
      replace S1 := Lib.hid (S1.out.later hb8)
      replace SK := Lib.hid (SK.out.later hb8)
      replace SD := Lib.hid (SD.out.later hb8)
      replace S2 := Lib.hid (S2.out.later hb8)
      replace S3 := Lib.hid (S3.out.later hb8)
      replace S4 := Lib.hid (S4.out.later hb8)
      replace S5 := Lib.hid (S5.out.later hb8)
      replace S6 := Lib.hid (S6.out.later hb8)
      replace X1 := Lib.hid (X1.out.later hb8)
      replace X2 := Lib.hid (X2.out.later hb8)
      replace X3 := Lib.hid (X3.out.later hb8)
      replace X4 := Lib.hid (X4.out.later hb8)
      replace X5 := Lib.hid (X5.out.later hb8)
      replace X6 := Lib.hid (X6.out.later hb8)
      replace T := Below.two T hb8
      clear hb8
      have k0X1 := X1.out.d0
      have k1X1 := X1.out.d1
      have kzX1 := X1.out.lt
      have k0X2 := X2.out.d0
      have k1X2 := X2.out.d1
      have kzX2 := X2.out.lt
      have k0X3 := X3.out.d0
      have k1X3 := X3.out.d1
      have kzX3 := X3.out.lt
      have k0X4 := X4.out.d0
      have k1X4 := X4.out.d1
      have kzX4 := X4.out.lt
      have k0X5 := X5.out.d0
      have k1X5 := X5.out.d1
      have kzX5 := X5.out.lt
      have k0X6 := X6.out.d0
      have k1X6 := X6.out.d1
      have kzX6 := X6.out.lt
      go_wp2_with fail
      refine (same_any f f A6 A1 L L c6 c1 (by omega) (by omega) _ S6.out S1.out).mono ?_
      rintro e w9 ⟨rfl, hb9⟩
      rw [sameH_self]
      clear k0X1 k1X1 kzX1 k0X2 k1X2 kzX2 k0X3 k1X3 kzX3 k0X4 k1X4 kzX4 k0X5 k1X5 kzX5 k0X6 k1X6 kzX6
      replace SL := Lib.hid (SL.out.later hb9)
      replace S7 := Lib.hid (S7.out.later hb9)
      replace S1 := Lib.hid (S1.out.later hb9)
      replace SK := Lib.hid (SK.out.later hb9)
      replace SD := Lib.hid (SD.out.later hb9)
      replace S2 := Lib.hid (S2.out.later hb9)
      replace S3 := Lib.hid (S3.out.later hb9)
      replace S4 := Lib.hid (S4.out.later hb9)
      replace S5 := Lib.hid (S5.out.later hb9)
      replace S6 := Lib.hid (S6.out.later hb9)
      replace X1 := Lib.hid (X1.out.later hb9)
      replace X2 := Lib.hid (X2.out.later hb9)
      replace X3 := Lib.hid (X3.out.later hb9)
      replace X4 := Lib.hid (X4.out.later hb9)
      replace X5 := Lib.hid (X5.out.later hb9)
      replace X6 := Lib.hid (X6.out.later hb9)
      replace T := Below.two T hb9
      clear hb9
      have k0X1 := X1.out.d0
      have k1X1 := X1.out.d1
      have kzX1 := X1.out.lt
      have k0X2 := X2.out.d0
      have k1X2 := X2.out.d1
      have kzX2 := X2.out.lt
      have k0X3 := X3.out.d0
      have k1X3 := X3.out.d1
      have kzX3 := X3.out.lt
      have k0X4 := X4.out.d0
      have k1X4 := X4.out.d1
      have kzX4 := X4.out.lt
      have k0X5 := X5.out.d0
      have k1X5 := X5.out.d1
      have kzX5 := X5.out.lt
      have k0X6 := X6.out.d0
      have k1X6 := X6.out.d1
      have kzX6 := X6.out.lt
      go_wp2_with fail
      refine (same_any f f A4 A1 L L c4 c1 (by omega) (by omega) _ S4.out S1.out).mono ?_
      rintro e w10 ⟨rfl, hb10⟩
      rw [sameH_self]
      clear k0X1 k1X1 kzX1 k0X2 k1X2 kzX2 k0X3 k1X3 kzX3 k0X4 k1X4 kzX4 k0X5 k1X5 kzX5 k0X6 k1X6 kzX6
      replace SL := Lib.hid (SL.out.later hb10)
      replace S7 := Lib.hid (S7.out.later hb10)
      replace S1 := Lib.hid (S1.out.later hb10)
      replace SK := Lib.hid (SK.out.later hb10)
      replace SD := Lib.hid (SD.out.later hb10)
      replace S2 := Lib.hid (S2.out.later hb10)
      replace S3 := Lib.hid (S3.out.later hb10)
      replace S4 := Lib.hid (S4.out.later hb10)
      replace S5 := Lib.hid (S5.out.later hb10)
      replace S6 := Lib.hid (S6.out.later hb10)
      replace X1 := Lib.hid (X1.out.later hb10)
      replace X2 := Lib.hid (X2.out.later hb10)
      replace X3 := Lib.hid (X3.out.later hb10)
      replace X4 := Lib.hid (X4.out.later hb10)
      replace X5 := Lib.hid (X5.out.later hb10)
      replace X6 := Lib.hid (X6.out.later hb10)
      replace T := Below.two T hb10
      clear hb10
      have k0X1 := X1.out.d0
      have k1X1 := X1.out.d1
      have kzX1 := X1.out.lt
      have k0X2 := X2.out.d0
      have k1X2 := X2.out.d1
      have kzX2 := X2.out.lt
      have k0X3 := X3.out.d0
      have k1X3 := X3.out.d1
      have kzX3 := X3.out.lt
      have k0X4 := X4.out.d0
      have k1X4 := X4.out.d1
      have kzX4 := X4.out.lt
      have k0X5 := X5.out.d0
      have k1X5 := X5.out.d1
      have kzX5 := X5.out.lt
      have k0X6 := X6.out.d0
      have k1X6 := X6.out.d1
      have kzX6 := X6.out.lt
      go_wp2_with fail
      refine (right_any f A1 L c1 uL (by omega) _ S1.out).mono ?_
      rintro e w11 ⟨rfl, hb11⟩
      rw [RL.out]
      clear k0X1 k1X1 kzX1 k0X2 k1X2 kzX2 k0X3 k1X3 kzX3 k0X4 k1X4 kzX4 k0X5 k1X5 kzX5 k0X6 k1X6 kzX6
      replace SL := Lib.hid (SL.out.later hb11)
      replace S7 := Lib.hid (S7.out.later hb11)
      replace S1 := Lib.hid (S1.out.later hb11)
      replace SK := Lib.hid (SK.out.later hb11)
      replace SD := Lib.hid (SD.out.later hb11)
      replace S2 := Lib.hid (S2.out.later hb11)
      replace S3 := Lib.hid (S3.out.later hb11)
      replace S4 := Lib.hid (S4.out.later hb11)
      replace S5 := Lib.hid (S5.out.later hb11)
      replace S6 := Lib.hid (S6.out.later hb11)
      replace X1 := Lib.hid (X1.out.later hb11)
      replace X2 := Lib.hid (X2.out.later hb11)
      replace X3 := Lib.hid (X3.out.later hb11)
      replace X4 := Lib.hid (X4.out.later hb11)
      replace X5 := Lib.hid (X5.out.later hb11)
      replace X6 := Lib.hid (X6.out.later hb11)
      replace T := Below.two T hb11
      clear hb11
      have k0X1 := X1.out.d0
      have k1X1 := X1.out.d1
      have kzX1 := X1.out.lt
      have k0X2 := X2.out.d0
      have k1X2 := X2.out.d1
      have kzX2 := X2.out.lt
      have k0X3 := X3.out.d0
      have k1X3 := X3.out.d1
      have kzX3 := X3.out.lt
      have k0X4 := X4.out.d0
      have k1X4 := X4.out.d1
      have kzX4 := X4.out.lt
      have k0X5 := X5.out.d0
      have k1X5 := X5.out.d1
      have kzX5 := X5.out.lt
      have k0X6 := X6.out.d0
      have k1X6 := X6.out.d1
      have kzX6 := X6.out.lt
      go_wp2_with fail
      go_ret
      exact ⟨rfl, T⟩
end Go.Proofs.Ytopddcabaiicgaa

/-
  The walk of the law aviarylaw06.ExactFull, and the plain law behind it.
-/
import Derived.Test.YtdobgfadnenhaaaExactShown
import Derived.Test.YtdobgfadnenhaaaExactLaws
namespace Go.Proofs.Ytdobgfadnenhaaa
open Go.RowKit
set_option linter.unusedVariables false
/-- Numbers in a row, from a first one on. -/
def seqU (f : Int) (k : Nat) : List Int := (List.range k).map fun i : Nat => IntKind.u64.wrap (f + (i : Int))
theorem seqU_succ (f : Int) (k : Nat) : seqU f (k + 1) = seqU f k ++ [IntKind.u64.wrap (f + (k : Int))] := by simp [seqU, List.range_succ]
theorem seqU_length (f : Int) (k : Nat) : (seqU f k).length = k := by simp [seqU]
theorem own_base {w : World} {base n : Nat} {e : TypeId} {size : Nat} {v : Value} {xs : List Value} (h : w.ownsRow base e size v n xs) (j : Nat) (hj : v.ownBlock = some j) : base ≤ j := by
  obtain ⟨A, c, rfl, _, _, hb⟩ := owns_form h
  cases A with
  | none => cases hj
  | some ad => cases hj; exact hb ad rfl
theorem seqU_mem {f x : Int} {k : Nat} : x ∈ seqU f k ↔ ∃ i : Nat, i < k ∧ x = (f + (i : Int)) % 18446744073709551616 := by
  simp only [seqU, List.mem_map, List.mem_range, IntKind.wrap_u64]
  constructor
  · rintro ⟨i, hi, rfl⟩; exact ⟨i, hi, rfl⟩
  · rintro ⟨i, hi, rfl⟩; exact ⟨i, hi, rfl⟩
theorem seqU_nodup (f : Int) {k : Nat} (hk : k ≤ 70) : (seqU f k).Nodup := by
  induction k with
  | zero => simp [seqU]
  | succ k ih =>
    rw [seqU_succ, List.nodup_append]
    refine ⟨ih (by omega), by simp, ?_⟩
    intro a ha b hb
    obtain ⟨i, hi, rfl⟩ := seqU_mem.1 ha
    simp only [List.mem_singleton, IntKind.wrap_u64] at hb
    subst hb
    omega
theorem length_insAll_nodup {l m : List Int} (hR : Rises l) (hm : m.Nodup) (hd : ∀ x ∈ m, x ∉ l) : (insAll l m).length = l.length + m.length := by
  induction m generalizing l with
  | nil => simp [insAll]
  | cons x m ih =>
    show (insAll (ins l x) m).length = _
    rw [List.nodup_cons] at hm
    rw [ih (rises_ins hR) hm.2 (fun y hy => by rw [mem_ins]; rintro (rfl | h); exact hm.1 hy; exact hd y (by simp [hy]) h), length_ins hR, if_neg (hd x (by simp))]
    simp; omega
theorem ofF_seq {f : Int} {k : Nat} (hk : k ≤ 70) : (insAll [] (seqU f k)).length = k := by
  rw [length_insAll_nodup rises_nil (seqU_nodup f hk) (by simp), seqU_length]; simp
theorem full_over {f : Int} {k : Nat} (h : 64 < k) (hk : k ≤ 70) : ofF (seqU f k) = ([], 60) := by
  rw [ofF, cut64, if_neg (by rw [ofF_seq hk]; omega)]
theorem full_ok {f : Int} {k : Nat} (hk : k ≤ 64) : ofF (seqU f k) = (insAll [] (seqU f k), 0) := by
  rw [ofF, cut64, if_pos (by rw [ofF_seq (by omega)]; exact hk)]
theorem full_add {f : Int} {k : Nat} (hf : 0 ≤ f) (hf' : f ≤ 18446744073709551615) (h0 : 0 < k) (hk : k ≤ 64) : addF (ofF (seqU f k)).1 f = ((ofF (seqU f k)).1, 0) := by
  have hr := ofF_right (seqU f k)
  have hR := (rightB_iff.1 hr).2
  have hm : f ∈ (ofF (seqU f k)).1 := by
    rw [full_ok hk]; show f ∈ insAll [] (seqU f k)
    rw [mem_insAll]; exact .inl (seqU_mem.2 ⟨0, h0, by omega⟩)
  have e : insAll (ofF (seqU f k)).1 [f] = (ofF (seqU f k)).1 := rises_ext (rises_insAll hR _) hR fun x => by
    rw [mem_insAll]; constructor
    · rintro (h | h)
      · rw [List.mem_singleton.1 h]; exact hm
      · exact h
    · exact .inr
  rw [addF, if_pos hr, e, cut64, if_pos (rightB_iff.1 hr).1]
theorem full_more {f : Int} {k : Nat} (hf : 0 ≤ f) (hf' : f ≤ 18446744073709551615) (hk : k ≤ 64) : (addF (ofF (seqU f k)).1 (IntKind.u64.wrap (f - 1))).2 = if k < 64 then 0 else 60 := by
  have hr := ofF_right (seqU f k)
  have hR := (rightB_iff.1 hr).2
  have hl : (ofF (seqU f k)).1.length = k := by rw [full_ok hk]; exact ofF_seq (by omega)
  have hnm : IntKind.u64.wrap (f - 1) ∉ (ofF (seqU f k)).1 := by
    rw [full_ok hk]; show _ ∉ insAll [] (seqU f k)
    rw [mem_insAll, seqU_mem, IntKind.wrap_u64]
    rintro (⟨i, hi, h⟩ | h)
    · omega
    · simp at h
  have e : (insAll (ofF (seqU f k)).1 [IntKind.u64.wrap (f - 1)]).length = k + 1 := by
    rw [length_insAll_nodup hR (by simp) (by simpa using hnm), hl]; rfl
  rw [addF, if_pos hr, cut64, e]
  by_cases h : k < 64
  · rw [if_pos (by omega), if_pos h]
  · rw [if_neg (by omega), if_neg h]
set_option maxHeartbeats 4000000 in
theorem full_walk (w : World) (n f : Int) (hf : 0 ≤ f) (hf' : f ≤ 18446744073709551615) (hn : -9223372036854775808 ≤ n) (hn' : n ≤ 9223372036854775807) :
    Calls Try.prog 6 #[.int .i64 n, .int .u64 f] w fun e w' => e = .returned (.bool true) ∧ Below w.heap.size w w' := by
  by_cases h60 : n < 60
  · go_enter Try.func6, Try.ntmps6
    go_wp2_with fail
    refine (shown_any _).mono ?_
    rintro e w0 ⟨rfl, hb0⟩
    go_wp2_with fail
    go_ret
    exact ⟨rfl, hb0⟩
  by_cases h70 : 70 < n
  · go_enter Try.func6, Try.ntmps6
    go_wp2_with fail
    refine (shown_any _).mono ?_
    rintro e w0 ⟨rfl, hb0⟩
    go_wp2_with fail
    go_ret
    exact ⟨rfl, hb0⟩
  obtain ⟨m, rfl⟩ := Int.eq_ofNat_of_zero_le (show 0 ≤ n by omega)
  have d60 : decide ((m : Int) < 60) = false := by simp; omega
  have d70 : decide (70 < (m : Int)) = false := by simp; omega
  obtain ⟨i0, hi0, hz0, hz1, hz2⟩ := info_parts Try.infoU64
  go_enter Try.func6, Try.ntmps6
  go_wp2_with fail
  refine (shown_any _).mono ?_
  rintro e w0 ⟨rfl, hb0⟩
  go_wp2_with fail
  go_loopw [6, 7] (fun v i wr => ∃ k : Nat, k ≤ m ∧ i = .int .i64 k ∧ wr.ownsRow w0.heap.size 25 1 v k ((seqU f k).map (Value.int .u64)) ∧ Below w0.heap.size w0 wr) (fun _ i _ => m - (intOf i).toNat)
  case atStart => exact ⟨0, Nat.zero_le _, rfl, by simpa [seqU] using World.ownsRow_nil _ _ _ _, Below.refl _ _⟩
  case round =>
    obtain ⟨k, hk, rfl, hown, hbw⟩ := hrel
    by_cases hlt : k < m
    · go_wp2_with (at_builtin; refine wpList_append_own _ rfl _ _ 22 rfl w0.heap.size 25 i0 (.int .u64 0) 1 8 Try.underlying22 hi0 hz0 hz1 hz2 rfl (by decide) u6 k _ rfl (hown.alloc _) ⟨wr.heap.size, 0, none⟩ 1 1 [_] rfl rfl (cell_one _ _ _ _ rfl) (by simp [Value.oneCell']) (by unfold maxLen; omega) (by omega) (by have := hbw.size; simp; omega) ?_; intro v' w1 hown' hgrow _)
      obtain ⟨A', c', rfl, _, _, _⟩ := owns_form hown'
      have HO := Lib.hid hown'
      have hb1 : Below w0.heap.size w0 w1 := (hbw.alloc hbw.size _).grown hgrow (by have := hbw.size; simp; omega) (fun j e => own_base hown j e)
      clear hown' hgrow
      go_wp2_with fail
      go_roundw
      case rel => exact ⟨k + 1, by omega, by go_num, by rw [seqU_succ]; simpa using HO.out, hb1⟩
      case measure => simp [intOf]; omega
    · obtain rfl : k = m := by omega
      obtain ⟨A, c, rfl, hc, hrd, _⟩ := owns_form hown
      have HR : Hid (Sl wr wr.heap.size A (seqU f k)) := hrd
      clear hown hrd
      have HK : Hid (Calls Try.prog 17 #[.slice A k c] wr (ExRes wr (ofF (seqU f k)))) := by
        have h := of_tot wr c A (seqU f k) HR.out (by rw [seqU_length]; omega)
        rw [seqU_length] at h
        exact h
      have hT : Below w.heap.size w wr := Below.two hb0 hbw
      by_cases h64 : 64 < k
      · have d64 : decide (64 < (k : Int)) = true := by simp; omega
        have e1 := Lib.hid (full_over (f := f) h64 (by omega))
        have e2 : Hid (cnt [] = 0) := by show cnt [] = 0; decide
        go_wp2_with fail
        refine HK.out.mono ?_
        rw [e1.out]
        rintro e w1 ⟨hb1, v1, rfl, hh1⟩
        obtain ⟨A1, c1, rfl, hc1, hA1, hS1, hF1⟩ := hh1
        clear hA1 hF1
        go_wp2_with fail
        refine (count_any _ c1 A1 [] (by exact Sl.nil) (by simp)).mono ?_
        rw [e2.out]
        rintro e w2 ⟨rfl, hb2⟩
        go_wp2_with fail
        go_ret
        exact ⟨rfl, Below.two hT (Below.two hb1 (below_old hb2))⟩
      · have d64 : decide (64 < (k : Int)) = false := by simp; omega
        have ek : (ofF (seqU f k)).2 = 0 := by rw [full_ok (by omega)]
        have t1 : ((ofF (seqU f k)).2 == 0) = true := by rw [ek]; rfl
        have ea := full_add (k := k) hf hf' (by omega) (by omega)
        have t2 : ((addF (ofF (seqU f k)).1 f).2 == 0) = true := by rw [ea]; rfl
        have e3 : Hid (eqB (ofF (seqU f k)).1 (addF (ofF (seqU f k)).1 f).1 = true) := by show eqB _ _ = true; rw [ea]; simp [eqB]
        have em := full_more (k := k) hf hf' (by omega)
        have EM := Lib.hid em
        clear ek ea em
        go_wp2_with fail
        refine (HK.out).mono ?_
        rintro e w1 ⟨hb1, v1, rfl, hh1⟩
        obtain ⟨A1, c1, rfl, hc1, hA1, hS1, hF1⟩ := hh1
        have Dw1 : Below wr.heap.size wr w1 := Below.two (below_0 wr) hb1
        have Tw1 := Below.two hT Dw1
        have S1 := Lib.hid hS1
        clear hA1 hF1 hS1
        have X1 := Lib.hid (Boxed.new w1 24 (.slice A1 ((ofF (seqU f k)).1).length c1))
        have kX1 := True.intro
        have zX1 := True.intro
        go_wp2_with fail
        refine (add_tot _ c1 A1 (ofF (seqU f k)).1 f (by exact S1.out.later (below_al (below_0 w1) _)) (by have := right_len (ofF_right (seqU f k)); omega)).mono ?_
        rintro e w2 ⟨hb2, v2, rfl, hh2⟩
        obtain ⟨A2, c2, rfl, hc2, hA2, hS2, hF2⟩ := hh2
        clear kX1 zX1
        have Dw2 : Below w1.heap.size w1 w2 := Below.two (below_al (below_0 w1) _) hb2
        replace S1 := Lib.hid (S1.out.later Dw2)
        replace X1 := Lib.hid (boxed_below X1.out hb2)
        have Tw2 := Below.two Tw1 Dw2
        have S2 := Lib.hid hS2
        clear hA2 hF2 hS2
        have X2 := Lib.hid (Boxed.new w2 24 (.slice A2 ((addF (ofF (seqU f k)).1 f).1).length c2))
        have kX1 := X1.out.cell
        have zX1 := X1.out.lt
        have kX2 := True.intro
        have zX2 := True.intro
        go_wp2_with fail
        refine (add_tot _ c1 A1 (ofF (seqU f k)).1 (IntKind.u64.wrap (f - 1)) (by exact S1.out.later (below_al (below_0 w2) _)) (by have := right_len (ofF_right (seqU f k)); omega)).mono ?_
        rintro e w3 ⟨hb3, v3, rfl, hh3⟩
        obtain ⟨A3, c3, rfl, hc3, hA3, hS3, hF3⟩ := hh3
        clear kX1 zX1 kX2 zX2
        have Dw3 : Below w2.heap.size w2 w3 := Below.two (below_al (below_0 w2) _) hb3
        replace S1 := Lib.hid (S1.out.later Dw3)
        replace S2 := Lib.hid (S2.out.later Dw3)
        replace X1 := Lib.hid (boxed_below X1.out Dw3)
        replace X2 := Lib.hid (boxed_below X2.out hb3)
        have Tw3 := Below.two Tw2 Dw3
        have S3 := Lib.hid hS3
        clear hA3 hF3 hS3
        have X3 := Lib.hid (Boxed.new w3 24 (.slice A3 ((addF (ofF (seqU f k)).1 (IntKind.u64.wrap (f - 1))).1).length c3))
        have kX1 := X1.out.cell
        have zX1 := X1.out.lt
        have kX2 := X2.out.cell
        have zX2 := X2.out.lt
        have kX3 := True.intro
        have zX3 := True.intro
        have hx : (f - 1) = f - 1 := rfl
        go_wp2_with fail
        refine (same_any _ c1 c2 A1 A2 (ofF (seqU f k)).1 (addF (ofF (seqU f k)).1 f).1 (by exact S1.out.later (below_al (below_0 w3) _)) (by exact S2.out.later (below_al (below_0 w3) _)) (by have := right_len (ofF_right (seqU f k)); omega) (by have := right_len (addF_right (ofF (seqU f k)).1 f); omega)).mono ?_
        rintro e w4 ⟨rfl, hb4⟩
        clear kX1 zX1 kX2 zX2 kX3 zX3
        have Dw4 : Below w3.heap.size w3 w4 := Below.two (below_al (below_0 w3) _) hb4
        replace S1 := Lib.hid (S1.out.later Dw4)
        replace S2 := Lib.hid (S2.out.later Dw4)
        replace S3 := Lib.hid (S3.out.later Dw4)
        replace X1 := Lib.hid (boxed_below X1.out Dw4)
        replace X2 := Lib.hid (boxed_below X2.out Dw4)
        replace X3 := Lib.hid (boxed_below X3.out hb4)
        have Tw4 := Below.two Tw3 Dw4
        have kX1 := X1.out.cell
        have zX1 := X1.out.lt
        have kX2 := X2.out.cell
        have zX2 := X2.out.lt
        have kX3 := X3.out.cell
        have zX3 := X3.out.lt
        rw [e3.out]
        by_cases hk64 : k < 64
        · have t4 : ((addF (ofF (seqU f k)).1 (IntKind.u64.wrap (f - 1))).2 == 0) = true := by rw [EM.out, if_pos hk64]; rfl
          have t5 : decide ((k : Int) < 64) = true := by simp; omega
          go_wp2_with fail
          go_ret
          exact ⟨rfl, Tw4⟩
        · have t4 : ((addF (ofF (seqU f k)).1 (IntKind.u64.wrap (f - 1))).2 == 0) = false := by rw [EM.out, if_neg hk64]; rfl
          have t5 : decide ((k : Int) < 64) = false := by simp; omega
          go_wp2_with fail
          go_ret
          exact ⟨rfl, Tw4⟩
end Go.Proofs.Ytdobgfadnenhaaa

/-
  The document's own Same; and Few.
-/
import Derived.Test.YtopddcabaiicgaaHistSame
import Derived.Test.YtopddcabaiicgaaHistRef4
namespace Go.Proofs.Ytopddcabaiicgaa
open Go.RowKit
set_option linter.unusedVariables false
set_option linter.unusedSimpArgs false
set_option maxRecDepth 100000 in
set_option maxHeartbeats 2000000 in
theorem rsame_any (f g : Int) (A C : Option Addr) (l m : Bins) (cap capy : Nat) (hl : l.length ≤ 65536) (hm : m.length ≤ 65536) (w : World) (hS : Sb w w.heap.size A l) (hT : Sb w w.heap.size C m) :
    Calls Try.prog 21 #[.agg #[.int .i64 f, .slice A l.length cap], .agg #[.int .i64 g, .slice C m.length capy]] w fun e w' => e = .returned (.bool (sameH f l g m)) ∧ Below w.heap.size w w' := by
  have T : Below w.heap.size w ((w.alloc (.cells #[.int .i64 f, .slice A l.length cap] 25)).alloc (.cells #[.int .i64 g, .slice C m.length capy] 25)) := below_al (below_al (below_0 _) _) _
  have X := Lib.hid ((Blk.new w 25 #[.int .i64 f, .slice A l.length cap]).alloc (.cells #[.int .i64 g, .slice C m.length capy] 25))
  have Y := Lib.hid (Blk.new2 w (.cells #[.int .i64 f, .slice A l.length cap] 25) 25 #[.int .i64 g, .slice C m.length capy])
  have HS := Lib.hid hS
  have HT := Lib.hid hT
  clear hS hT
  by_cases c1 : f = g
  · subst c1
    by_cases c2 : l.length = m.length
    · have dl : ((l.length : Int) != (m.length : Int)) = false := by simp; omega
      have HL := Lib.hid c2
      have HI : Hid (SmI w f f A C l.length m.length cap capy ((w.alloc (.cells #[.int .i64 f, .slice A l.length cap] 25)).alloc (.cells #[.int .i64 f, .slice C m.length capy] 25))) := ⟨X.out, Y.out, T⟩
      clear c2 X Y T
      go_enter Try.func21, Try.ntmps21
      go_wp2_with fail
      go_loopw [5] (fun i wr => ∃ k : Nat, k ≤ l.length ∧ i = .int .i64 k ∧ Hid (l.take k = m.take k) ∧ SmI w f f A C l.length m.length cap capy wr) (fun i _ => l.length - (RowKit.intOf i).toNat)
      case atStart => exact ⟨0, Nat.zero_le _, rfl, rfl, HI.out⟩
      case round =>
        obtain ⟨k, hk, rfl, HE, X, Y, T⟩ := hrel
        clear HI
        have x0 := X.d0
        have x1 := X.d1
        have zx := X.lt
        have y1 := Y.d1
        have zy := Y.lt
        have HX := Lib.hid X
        have HY := Lib.hid Y
        clear X Y
        by_cases hlt : k < l.length
        · have hlt2 : k < m.length := by have := HL.out; omega
          obtain ⟨b, off, rfl, hb, hcs⟩ := HS.out.at_ (by omega)
          obtain ⟨b2, off2, rfl, hb2, hcs2⟩ := HT.out.at_ (by omega)
          obtain ⟨h1, h2⟩ := hcs k hlt
          obtain ⟨h3, h4⟩ := hcs2 k hlt2
          have i1 := (T.cell (p := ⟨b, off + k * 2, none⟩) hb).trans h1
          have i2 := (T.cell (p := ⟨b, off + k * 2 + 1, none⟩) hb).trans h2
          have i3 := (T.cell (p := ⟨b2, off2 + k * 2, none⟩) hb2).trans h3
          have i4 := (T.cell (p := ⟨b2, off2 + k * 2 + 1, none⟩) hb2).trans h4
          have hbw : b < wr.heap.size := by have := T.size; omega
          have hbw2 : b2 < wr.heap.size := by have := T.size; omega
          have HN : Hid (bth l k = bth m k → l.take (k + 1) = m.take (k + 1)) := fun h => take_eq_succ hlt hlt2 HE.out h
          have HD : Hid (bth l k ≠ bth m k → l ≠ m) := fun h e => h (by rw [e])
          generalize bth l k = p at *
          generalize bth m k = q at *
          have hi1 : (0 : Int) ≤ (k : Int) := by omega
          have hi2 : (k : Int) < (l.length : Int) := by omega
          have hi3 : (k : Int) < (m.length : Int) := by omega
          clear hcs hcs2 h1 h2 h3 h4
          have gb := guard_bin
          by_cases c : p = q
          · have nb := neq_bin p q false (by simp [c])
            have HE2 := Lib.hid (HN.out c)
            clear c
            go_wp2_with fail
            go_quiet (fail)
            go_wp2_with fail
            go_roundw
            case rel => exact ⟨k + 1, by omega, by go_num, HE2, HX.out.drewN _, HY.out.drewN _, below_drew T _⟩
            case measure => simp [RowKit.intOf]; omega
          · have nb := neq_bin p q true (by simp [c])
            have HE2 := Lib.hid (HD.out c)
            clear c
            go_wp2_with fail
            go_quiet (fail)
            go_wp2_with fail
            go_ret
            exact ⟨ret_bool (by simp [sameH, HE2.out]), below_drew T _⟩
        · obtain rfl : k = l.length := by omega
          have HR : Hid (l = m) := bins_eq_take HL.out _ rfl HE.out
          go_wp2_with fail
          go_ret
          exact ⟨ret_bool (by simp [sameH, HR.out]), T⟩
    · have dl : ((l.length : Int) != (m.length : Int)) = true := by simp; omega
      go_enter Try.func21, Try.ntmps21
      go_wp2_with fail
      go_ret
      exact ⟨ret_bool (by simp [sameH]; intro e; exact c2 (by rw [e])), T⟩
  · have d1 : (f != g) = true := by simp [c1]
    go_enter Try.func21, Try.ntmps21
    go_wp2_with fail
    go_ret
    exact ⟨ret_bool (by simp [sameH, c1]), T⟩
set_option maxRecDepth 100000 in
set_option maxHeartbeats 2000000 in
theorem few_any (f : Int) (A : Option Addr) (l : Bins) (nl cap : Nat) (hn : l.length = min nl 300) (hc : nl ≤ cap) (w : World) :
    Calls Try.prog 12 #[.agg #[.int .i64 f, .slice A nl cap]] w fun e w' => e = .returned (.agg #[.int .i64 f, .slice A l.length cap]) ∧ Below w.heap.size w w' := by
  have T : Below w.heap.size w ((w.alloc (.cells #[.int .i64 f, .slice A nl cap] 25)).alloc (.cells #[.int .i64 0, .slice none 0 0] 25)) := below_al (below_al (below_0 _) _) _
  have X := Lib.hid ((Blk.new w 25 #[.int .i64 f, .slice A nl cap]).alloc (.cells #[.int .i64 0, .slice none 0 0] 25))
  have Y := Lib.hid (Blk.new2 w (.cells #[.int .i64 f, .slice A nl cap] 25) 25 #[.int .i64 0, .slice none 0 0])
  have hm : min (nl : Int) 300 = (l.length : Int) := by omega
  have hlc : (l.length : Int) ≤ (cap : Int) := by omega
  have hlc' : l.length ≤ cap := by omega
  have hln : (l.length : Int) ≤ (nl : Int) := by omega
  clear hn
  go_enter Try.func12, Try.ntmps12
  go_wp2_with fail
  generalize (w.alloc (.cells #[.int .i64 f, .slice A nl cap] 25)).alloc (.cells #[.int .i64 0, .slice none 0 0] 25) = w0 at *
  have x0 := X.out.d0
  have x1 := X.out.d1
  have zx := X.out.lt
  refine wp_region_held_drew (S := fun w' => w'.cell? ⟨w.heap.size, 0, none⟩ = some (.int .i64 f) ∧ w'.cell? ⟨w.heap.size, 1, none⟩ = some (.slice A nl cap)) (by kernel_rfl) ⟨x0, x1⟩ (fun hHeld => ?_)
  refine wpAnyH_take (i := 0) (v := (.pointer (some ⟨w.heap.size, 0, none⟩))) rfl (by kernel_rfl) (by kernel_rfl) (by kernel_rfl) (fun _ _ _ h => h) (Or.inl ⟨by rfl, ?_⟩) hHeld ?_
  · (intro w hSw; (try dsimp only at hSw); (try obtain ⟨s0, s1⟩ := hSw); go_simp)
  simp only [Act.put, List.setIfInBounds_toArray, List.set_cons_zero, List.set_cons_succ]
  refine wpAnyH_take (i := 1) (v := (.int .i64 f)) rfl (by kernel_rfl) (by kernel_rfl) (by kernel_rfl) (fun _ _ _ h => h) (Or.inl ⟨by rfl, ?_⟩) hHeld ?_
  · (intro w hSw; (try dsimp only at hSw); (try obtain ⟨s0, s1⟩ := hSw); go_simp)
  simp only [Act.put, List.setIfInBounds_toArray, List.set_cons_zero, List.set_cons_succ]
  refine wpAnyH_take (i := 2) (v := (.pointer (some ⟨w.heap.size, 1, none⟩))) rfl (by kernel_rfl) (by kernel_rfl) (by kernel_rfl) (fun _ _ _ h => h) (Or.inl ⟨by rfl, ?_⟩) hHeld ?_
  · (intro w hSw; (try dsimp only at hSw); (try obtain ⟨s0, s1⟩ := hSw); go_simp)
  simp only [Act.put, List.setIfInBounds_toArray, List.set_cons_zero, List.set_cons_succ]
  refine wpAnyH_take (i := 3) (v := (.slice A nl cap)) rfl (by kernel_rfl) (by kernel_rfl) (by kernel_rfl) (fun _ _ _ h => h) (Or.inl ⟨by rfl, ?_⟩) hHeld ?_
  · (intro w hSw; (try dsimp only at hSw); (try obtain ⟨s0, s1⟩ := hSw); go_simp)
  simp only [Act.put, List.setIfInBounds_toArray, List.set_cons_zero, List.set_cons_succ]
  refine wpAnyH_take (i := 4) (v := (.pointer (some ⟨w.heap.size, 1, none⟩))) rfl (by kernel_rfl) (by kernel_rfl) (by kernel_rfl) (fun _ _ _ h => h) (Or.inl ⟨by rfl, ?_⟩) hHeld ?_
  · (intro w hSw; (try dsimp only at hSw); (try obtain ⟨s0, s1⟩ := hSw); go_simp)
  simp only [Act.put, List.setIfInBounds_toArray, List.set_cons_zero, List.set_cons_succ]
  refine wpAnyH_take (i := 5) (v := (.slice A nl cap)) rfl (by kernel_rfl) (by kernel_rfl) (by kernel_rfl) (fun _ _ _ h => h) (Or.inl ⟨by rfl, ?_⟩) hHeld ?_
  · (intro w hSw; (try dsimp only at hSw); (try obtain ⟨s0, s1⟩ := hSw); go_simp)
  simp only [Act.put, List.setIfInBounds_toArray, List.set_cons_zero, List.set_cons_succ]
  refine wpAnyH_take (i := 6) (v := (.int .i64 (nl : Int))) rfl (by kernel_rfl) (by kernel_rfl) (by kernel_rfl) (fun _ _ _ h => h) (Or.inl ⟨by rfl, ?_⟩) hHeld ?_
  · (intro w hSw; (try dsimp only at hSw); (try obtain ⟨s0, s1⟩ := hSw); go_simp)
  simp only [Act.put, List.setIfInBounds_toArray, List.set_cons_zero, List.set_cons_succ]
  refine wpAnyH_take (i := 7) (v := (.int .i64 (l.length : Int))) rfl (by kernel_rfl) (by kernel_rfl) (by kernel_rfl) (fun _ _ _ h => h) (Or.inl ⟨by rfl, ?_⟩) hHeld ?_
  · (intro w hSw; (try dsimp only at hSw); (try obtain ⟨s0, s1⟩ := hSw); go_simp)
  simp only [Act.put, List.setIfInBounds_toArray, List.set_cons_zero, List.set_cons_succ]
  refine wpAnyH_take (i := 8) (v := (.slice A l.length cap)) rfl (by kernel_rfl) (by kernel_rfl) (by kernel_rfl) (fun _ _ _ h => h) (Or.inl ⟨by rfl, ?_⟩) hHeld ?_
  · (intro w hSw; (try dsimp only at hSw); (try obtain ⟨s0, s1⟩ := hSw); go_simp)
  simp only [Act.put, List.setIfInBounds_toArray, List.set_cons_zero, List.set_cons_succ]
  refine wpAnyH_take (i := 9) (v := (.agg #[.int .i64 f, .slice A l.length cap])) rfl (by kernel_rfl) (by kernel_rfl) (by kernel_rfl) (fun _ _ _ h => h) (Or.inl ⟨by rfl, ?_⟩) hHeld ?_
  · (intro w hSw; (try dsimp only at hSw); (try obtain ⟨s0, s1⟩ := hSw); go_simp)
  simp only [Act.put, List.setIfInBounds_toArray, List.set_cons_zero, List.set_cons_succ]
  have hd : Below w0.heap.size w0 w0.drew := below_drewN (below_0 w0) 1
  replace X := Lib.hid (X.out.later hd)
  replace Y := Lib.hid (Y.out.later hd)
  replace T := Below.two T hd
  clear hd x0 x1
  generalize w0.drew = w1 at *
  have y50 := Y.out.d0
  have y51 := Y.out.d1
  have fy0 := Y.out.frozen 0
  have fy1 := Y.out.frozen 1
  have zy := Y.out.lt
  have K9 := Y.out.set2 (x := .int .i64 f) (y := .slice A l.length cap)
  have k0 := K9.d0
  have k1 := K9.d1
  have X9 := Lib.hid (X.out.grown (grow_set2 w1 (w.heap.size + 1) (.int .i64 f) (.slice A l.length cap)) (by intro e; injection e with e; omega))
  refine wpAnyH_ready (rs := [10]) (by kernel_rfl) (by simp) ?_
  refine AllReadyH.cons rfl (fun K hK => ?_) AllReadyH.nil
  go_simp
  refine hK.out _ _ ⟨X9.out.d0, X9.out.d1⟩ (fun hHeld => ?_)
  clear hK K
  try simp only [Act.put, List.getElem_toArray, List.getElem_cons_succ, List.getElem_cons_zero, List.setIfInBounds_toArray, List.set_cons_zero, List.set_cons_succ]
  refine wpAnyH_done (by kernel_rfl) ?_ _
  go_wp2_with fail
  exact bodyPost_ret (v := .agg #[.int .i64 f, .slice A l.length cap]) (by simp [results, Try.results12, go_sem, k0, k1]) rfl
    ⟨rfl, below_set2 T (by omega) _ _⟩
end Go.Proofs.Ytopddcabaiicgaa

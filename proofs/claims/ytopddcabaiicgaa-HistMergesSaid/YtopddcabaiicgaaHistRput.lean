/-
  The document's own put: bins, with n more in one.
-/
import Derived.Test.YtopddcabaiicgaaHistDone
import Derived.Test.YtopddcabaiicgaaHistAdd
namespace Go.Proofs.Ytopddcabaiicgaa
open Go.RowKit
set_option linter.unusedVariables false
set_option linter.unusedSimpArgs false
/-- Where a new bin goes. -/
theorem putL_at : ∀ {l : Bins} {a n : Int} {k : Nat}, k ≤ l.length → (∀ i, i < k → (bth l i).1 < a) → (k < l.length → ¬ (bth l k).1 < a) →
    putL l a n = if k < l.length ∧ (bth l k).1 = a then l.take k ++ (a, sat (bth l k).2 n) :: l.drop (k + 1) else l.take k ++ (a, n) :: l.drop k
  | [], a, n, k, hk, _, _ => by
    have : k = 0 := by simpa using hk
    subst this; simp [putL]
  | x :: l, a, n, 0, _, _, h2 => by
    have h3 := h2 (by simp)
    have e : bth (x :: l) 0 = x := by simp [bth]
    rw [e] at h3 ⊢
    unfold putL
    rw [if_neg h3]
    by_cases h4 : x.1 = a <;> simp [h4]
  | x :: l, a, n, k + 1, hk, h1, h2 => by
    have h0 := h1 0 (by omega)
    have e0 : bth (x :: l) 0 = x := by simp [bth]
    rw [e0] at h0
    have es : ∀ i, bth (x :: l) (i + 1) = bth l i := fun i => by simp [bth]
    have ih := putL_at (l := l) (a := a) (n := n) (k := k) (by simpa using hk) (fun i hi => by have := h1 (i + 1) (by omega); rwa [es] at this) (fun h => by have := h2 (by simpa using h); rwa [es] at this)
    unfold putL
    rw [if_pos h0, ih, es]
    by_cases h5 : k < l.length ∧ (bth l k).1 = a
    · rw [if_pos h5, if_pos ⟨by simpa using h5.1, h5.2⟩]; simp
    · rw [if_neg h5, if_neg (fun h => h5 ⟨by simpa using h.1, h.2⟩)]; simp
/-- The value v is a slice that reads as bins. -/
def RdB (w : World) (v : Value) (l : Bins) : Prop := ∃ A c, v = .slice A l.length c ∧ l.length ≤ c ∧ (c ≠ 0 → ∃ b off, A = some ⟨b, off, none⟩) ∧ Sb w w.heap.size A l
theorem RdB.later {w w' : World} {v : Value} {l : Bins} (h : RdB w v l) (hb : Below w.heap.size w w') : RdB w' v l := by
  obtain ⟨A, c, e, hc, hA, hS⟩ := h
  exact ⟨A, c, e, hc, hA, Sb.later hS hb⟩
theorem rdB_nil (w : World) : RdB w (.slice none 0 0) [] := ⟨none, 0, rfl, Nat.le_refl _, fun h => absurd rfl h, Rd.none_⟩
theorem rdB_own {w : World} {base n : Nat} {e : TypeId} {v : Value} {l : Bins} (hn : n = l.length) (h : w.ownsRow base e 2 v n (flatB l)) : RdB w v l := by
  subst hn
  have h' := h
  rcases h.2 with ⟨rfl, h0⟩ | ⟨g, cap, cur, rfl, hb, hh, hnc, _⟩
  · have : l = [] := List.eq_nil_of_length_eq_zero h0
    subst this; exact rdB_nil w
  · exact ⟨_, cap, rfl, hnc, fun _ => ⟨g, 0, rfl⟩, Rd.own h'⟩
theorem one_flatB {l : Bins} : ∀ u ∈ flatB l, u.oneCell' = true := by
  intro u hu
  obtain ⟨x, _, h⟩ := List.mem_flatMap.1 hu
  simp at h
  rcases h with rfl | rfl <;> rfl
theorem flatB_append (l m : Bins) : flatB (l ++ m) = flatB l ++ flatB m := by simp [flatB]
theorem flatB_one (x : Int × Int) : flatB [x] = [.int .i64 x.1, .int .u64 x.2] := by simp [flatB]
theorem rd_blk {w : World} {g : Nat} {t : TypeId} {a b : Value} (h : Blk w g t #[a, b]) {B : Nat} (hB : g < B) : Rd w B (some ⟨g, 0, none⟩) [a, b] := fun _ => ⟨g, 0, rfl, hB, fun i u hu => by rw [Nat.zero_add, h.cell]; simpa using hu⟩
/-- Where the walk stops. -/
def Stop (P : Prop) : Prop := P
theorem Stop.mk {P : Prop} (h : Stop P) : P := h
def AtTo (l : Bins) (a : Int) (k : Nat) : Prop := ∀ i, i < k → (bth l i).1 < a
set_option maxHeartbeats 2000000 in
theorem rput_zero (A : Option Addr) (l : Bins) (cap : Nat) (a : Int) (hU : UBs l) (hl : l.length ≤ 60000) (w : World) (hS : Sb w w.heap.size A l) :
    Calls Try.prog 40 #[.slice A l.length cap, .int .i64 a, .int .u64 0] w fun e w' => e = .returned (.slice A l.length cap) ∧ w = w' := by
  have HS := Lib.hid hS
  clear hS
  go_enter Try.func40, Try.ntmps40
  go_wp2_with fail
  go_loop [7] (fun i => ∃ k : Nat, k ≤ l.length ∧ i = .int .i64 k ∧ Hid (AtTo l a k)) (fun i => l.length - (RowKit.intOf i).toNat)
  case atStart => exact ⟨0, Nat.zero_le _, rfl, fun i hi => absurd hi (Nat.not_lt_zero _)⟩
  case round =>
    obtain ⟨k, hk, rfl, HK⟩ := hrel
    by_cases hlt : k < l.length
    · obtain ⟨b, off, rfl, hb, hcs⟩ := HS.out.at_ (by omega)
      obtain ⟨i1, i2⟩ := hcs k hlt
      clear hcs
      have hi1 : (0 : Int) ≤ (k : Int) := by omega
      have hi2 : (k : Int) < (l.length : Int) := by omega
      by_cases hs : (bth l k).1 < a
      · have HK2 : Hid (AtTo l a (k + 1)) := fun i hi => by
          rcases Nat.lt_or_ge i k with h | h
          · exact HK.out i h
          · have : i = k := by omega
            subst this; exact hs
        generalize bth l k = it at *
        go_wp2_with fail
        go_round
        case rel => exact ⟨k + 1, by omega, by go_num, HK2⟩
        case measure => simp [RowKit.intOf]; omega
      · have d1 : decide ((bth l k).1 < a) = false := by simp; omega
        generalize bth l k = it at *
        go_wp2_with fail
        go_ret
        exact ⟨rfl, rfl⟩
    · obtain rfl : k = l.length := by omega
      go_wp2_with fail
      go_ret
      exact ⟨rfl, rfl⟩
set_option maxRecDepth 100000 in
set_option maxHeartbeats 8000000 in
theorem rput_good (A : Option Addr) (l : Bins) (cap : Nat) (a n : Int) (hU : UBs l) (hl : l.length ≤ 60000) (hc : l.length ≤ cap) (hA : cap ≠ 0 → ∃ b off, A = some ⟨b, off, none⟩) (hn : U n) (hn0 : n ≠ 0) (w : World) (hS : Sb w w.heap.size A l) :
    Calls Try.prog 40 #[.slice A l.length cap, .int .i64 a, .int .u64 n] w fun e w' => Below w.heap.size w w' ∧ ∃ v, e = .returned v ∧ RdB w' v (putL l a n) := by
  obtain ⟨i0, hi0, hz0, hz1, hz2⟩ := info_parts Try.infoBin
  have HS := Lib.hid hS
  have dn : (n == 0) = false := by simp [hn0]
  clear hS hn0
  go_enter Try.func40, Try.ntmps40
  go_wp2_with fail
  go_loop [7] (fun i => ∃ k : Nat, k ≤ l.length ∧ i = .int .i64 k ∧ Hid (AtTo l a k)) (fun i => l.length - (RowKit.intOf i).toNat)
  case atStart => exact ⟨0, Nat.zero_le _, rfl, fun i hi => absurd hi (Nat.not_lt_zero _)⟩
  case round =>
    obtain ⟨k, hk, rfl, HK⟩ := hrel
    by_cases hlt : k < l.length
    · obtain ⟨b, off, rfl, hb, hcs⟩ := HS.out.at_ (by omega)
      obtain ⟨i1, i2⟩ := hcs k hlt
      clear hcs
      have hi1 : (0 : Int) ≤ (k : Int) := by omega
      have hi2 : (k : Int) < (l.length : Int) := by omega
      by_cases hs : (bth l k).1 < a
      · have HK2 : Hid (AtTo l a (k + 1)) := fun i hi => by
          rcases Nat.lt_or_ge i k with h | h
          · exact HK.out i h
          · have : i = k := by omega
            subst this; exact hs
        generalize bth l k = it at *
        go_wp2_with fail
        go_round
        case rel => exact ⟨k + 1, by omega, by go_num, HK2⟩
        case measure => simp [RowKit.intOf]; omega
      · have HPA := Lib.hid (putL_at (n := n) hk HK.out (fun _ => hs))
        have d1 : decide ((bth l k).1 < a) = false := by simp; omega
        obtain ⟨u1, u2⟩ := bth_U hU k
        by_cases he : (bth l k).1 = a
        · have HP : Hid (putL l a n = (l.take k ++ [(a, sat (bth l k).2 n)]) ++ l.drop (k + 1)) := by show _ = _; rw [HPA.out, if_pos ⟨hlt, he⟩]; simp
          have de : ((bth l k).1 == a) = true := by simp [he]
          clear HPA hs he
          generalize bth l k = it at *
          have hk0 : (0 : Int) ≤ (k : Int) + 1 := by omega
          have hk1 : ((k : Int) + 1).toNat = k + 1 := by omega
          have hkw : IntKind.i64.wrap ((k : Int) + 1) = (k : Int) + 1 := IntWalk.i64_in _ (by omega)
          have hkc : (k : Int) + 1 ≤ (cap : Int) := by omega
          have hkl : (k : Int) + 1 ≤ (l.length : Int) := by omega
          by_cases hcap : cap = k + 1
          · have hl1 : l.length = k + 1 := by omega
            have HLL := Lib.hid hl1
            have SDR : Hid (Rd w w.heap.size (some ⟨b, off, none⟩) (flatB (l.drop (k + 1)))) := by show Rd _ _ _ _; rw [List.drop_eq_nil_of_le (by omega)]; exact Rd.none_
            have hck : (cap : Int) = (k : Int) + 1 := by omega
            subst hcap
            clear hl1 hck
            go_wp2_with (first | (at_builtin; refine Stop.mk ?_) | go_in)
            unfold Stop
            refine wpList_append_rd _ rfl (.tmp 27) (.tmp 30) 23 rfl w.heap.size 71 i0 (.agg #[.int .i64 0, .int .u64 0]) 2 16 Try.underlying23 hi0 hz0 hz1 hz2 rfl (by decide) (.slice none 0 0) 0 [] rfl (World.ownsRow_nil _ _ _ _) w.heap.size (some ⟨b, off, none⟩) k (k + 1) (flatB (l.take k)) rfl (by rw [length_flatB, List.length_take]; omega) (HS.out.take k) one_flatB (by unfold maxLen; omega) (by omega) (Nat.le_refl _) ?_
            intro v1 w1 hown1 hg1 _
            simp only [Nat.zero_add, List.nil_append] at hown1
            obtain ⟨A1, c1, rfl, _, _, _⟩ := owns_form hown1
            have HO1 : Hid (w1.ownsRow w.heap.size 71 2 (.slice A1 k c1) k (flatB (l.take k))) := hown1
            have B1 : Below w.heap.size w w1 := ⟨hg1.os, hg1.tape, hg1.output, hg1.size, fun i hi => hg1.block i hi (by simp [Value.ownBlock])⟩
            clear hown1 hg1
            have j2 : w1.cell? ⟨b, off + k * 2 + 1, none⟩ = some (.int .u64 it.2) := (B1.cell (p := ⟨b, off + k * 2 + 1, none⟩) hb).trans i2
            have j1 : w1.cell? ⟨b, off + k * 2, none⟩ = some (.int .i64 it.1) := (B1.cell (p := ⟨b, off + k * 2, none⟩) hb).trans i1
            have hbw1 : b < w1.heap.size := by have := B1.size; omega
            clear hA
            go_wp2_with fail
            refine wp_region_held_drew (S := fun w' => w'.cell? ⟨b, off + k * 2 + 1, none⟩ = some (.int .u64 it.2)) (by kernel_rfl) j2 (fun hHeld => ?_)
            refine wpAnyH_take (i := 0) (v := (.slice A1 k c1)) rfl (by kernel_rfl) (by kernel_rfl) (by kernel_rfl) (fun _ _ _ h => h) (Or.inl ⟨by rfl, ?_⟩) hHeld ?_
            · (intro w hSw; (try dsimp only at hSw); go_simp)
            simp only [Act.put, List.setIfInBounds_toArray, List.set_cons_zero, List.set_cons_succ]
            refine wpAnyH_take (i := 1) (v := (.int .i64 a)) rfl (by kernel_rfl) (by kernel_rfl) (by kernel_rfl) (fun _ _ _ h => h) (Or.inl ⟨by rfl, ?_⟩) hHeld ?_
            · (intro w hSw; (try dsimp only at hSw); go_simp)
            simp only [Act.put, List.setIfInBounds_toArray, List.set_cons_zero, List.set_cons_succ]
            refine wpAnyH_take (i := 2) (v := (.slice (some ⟨b, off, none⟩) l.length (k + 1))) rfl (by kernel_rfl) (by kernel_rfl) (by kernel_rfl) (fun _ _ _ h => h) (Or.inl ⟨by rfl, ?_⟩) hHeld ?_
            · (intro w hSw; (try dsimp only at hSw); go_simp)
            simp only [Act.put, List.setIfInBounds_toArray, List.set_cons_zero, List.set_cons_succ]
            refine wpAnyH_take (i := 3) (v := (.int .i64 (k : Int))) rfl (by kernel_rfl) (by kernel_rfl) (by kernel_rfl) (fun _ _ _ h => h) (Or.inl ⟨by rfl, ?_⟩) hHeld ?_
            · (intro w hSw; (try dsimp only at hSw); go_simp)
            simp only [Act.put, List.setIfInBounds_toArray, List.set_cons_zero, List.set_cons_succ]
            refine wpAnyH_take (i := 4) (v := (.pointer (some ⟨b, off + k * 2, none⟩))) rfl (by kernel_rfl) (by kernel_rfl) (by kernel_rfl) (fun _ _ _ h => h) (Or.inl ⟨by rfl, ?_⟩) hHeld ?_
            · (intro w hSw; (try dsimp only at hSw); go_simp)
            simp only [Act.put, List.setIfInBounds_toArray, List.set_cons_zero, List.set_cons_succ]
            refine wpAnyH_take (i := 5) (v := (.pointer (some ⟨b, off + k * 2 + 1, none⟩))) rfl (by kernel_rfl) (by kernel_rfl) (by kernel_rfl) (fun _ _ _ h => h) (Or.inl ⟨by rfl, ?_⟩) hHeld ?_
            · (intro w hSw; (try dsimp only at hSw); go_simp)
            simp only [Act.put, List.setIfInBounds_toArray, List.set_cons_zero, List.set_cons_succ]
            refine wpAnyH_take (i := 6) (v := (.int .u64 it.2)) rfl (by kernel_rfl) (by kernel_rfl) (by kernel_rfl) (fun _ _ _ h => h) (Or.inl ⟨by rfl, ?_⟩) hHeld ?_
            · (intro w hSw; (try dsimp only at hSw); go_simp)
            simp only [Act.put, List.setIfInBounds_toArray, List.set_cons_zero, List.set_cons_succ]
            refine wpAnyH_take (i := 7) (v := (.int .u64 n)) rfl (by kernel_rfl) (by kernel_rfl) (by kernel_rfl) (fun _ _ _ h => h) (Or.inl ⟨by rfl, ?_⟩) hHeld ?_
            · (intro w hSw; (try dsimp only at hSw); go_simp)
            simp only [Act.put, List.setIfInBounds_toArray, List.set_cons_zero, List.set_cons_succ]
            refine wpAnyH_take (i := 12) (v := (.slice (some ⟨b, off, none⟩) l.length (k + 1))) rfl (by kernel_rfl) (by kernel_rfl) (by kernel_rfl) (fun _ _ _ h => h) (Or.inl ⟨by rfl, ?_⟩) hHeld ?_
            · (intro w hSw; (try dsimp only at hSw); go_simp)
            simp only [Act.put, List.setIfInBounds_toArray, List.set_cons_zero, List.set_cons_succ]
            refine wpAnyH_take (i := 13) (v := (.int .i64 (k : Int))) rfl (by kernel_rfl) (by kernel_rfl) (by kernel_rfl) (fun _ _ _ h => h) (Or.inl ⟨by rfl, ?_⟩) hHeld ?_
            · (intro w hSw; (try dsimp only at hSw); go_simp)
            simp only [Act.put, List.setIfInBounds_toArray, List.set_cons_zero, List.set_cons_succ]
            refine wpAnyH_take (i := 14) (v := (.int .i64 ((k : Int) + 1))) rfl (by kernel_rfl) (by kernel_rfl) (by kernel_rfl) (fun _ _ _ h => h) (Or.inl ⟨by rfl, ?_⟩) hHeld ?_
            · (intro w hSw; (try dsimp only at hSw); go_simp)
            simp only [Act.put, List.setIfInBounds_toArray, List.set_cons_zero, List.set_cons_succ]
            refine wpAnyH_take (i := 15) (v := (.slice (some ⟨b, off, none⟩) 0 0)) rfl (by kernel_rfl) (by kernel_rfl) (by kernel_rfl) (fun _ _ _ h => h) (Or.inl ⟨by rfl, ?_⟩) hHeld ?_
            · (intro w hSw; (try dsimp only at hSw); go_simp)
            simp only [Act.put, List.setIfInBounds_toArray, List.set_cons_zero, List.set_cons_succ]
            refine wpAnyH_ready (rs := [8]) (by kernel_rfl) (by simp) ?_
            refine AllReadyH.cons rfl (fun K0 hK0 => ?_) AllReadyH.nil
            go_simp
            refine (plus_any it.2 n u2 hn _).mono ?_
            rintro e w9 ⟨rfl, rfl⟩
            refine hK0.out _ _ (by exact j2) (fun hHeld => ?_)
            clear hK0 K0
            try simp only [Act.put, List.getElem_toArray, List.getElem_cons_succ, List.getElem_cons_zero, List.setIfInBounds_toArray, List.set_cons_zero, List.set_cons_succ]
            refine wpAnyH_take (i := 9) (v := (.agg #[.int .i64 a, .int .u64 (sat it.2 n)])) rfl (by kernel_rfl) (by kernel_rfl) (by kernel_rfl) (fun _ _ _ h => h) (Or.inl ⟨by rfl, ?_⟩) hHeld ?_
            · (intro w hSw; (try dsimp only at hSw); go_simp)
            simp only [Act.put, List.setIfInBounds_toArray, List.set_cons_zero, List.set_cons_succ]
            refine wpAnyH_ready (rs := [10]) (by kernel_rfl) (by simp) ?_
            refine AllReadyH.cons rfl (fun K0 hK0 => ?_) AllReadyH.nil
            go_simp
            have hba := below_drewN (below_al (below_0 w1) (.cells #[.int .i64 a, .int .u64 (sat it.2 n)] 71)) 1
            have NB : Hid (Blk ((w1.alloc (.cells #[.int .i64 a, .int .u64 (sat it.2 n)] 71)).drewN 1) w1.heap.size 71 #[.int .i64 a, .int .u64 (sat it.2 n)]) := Blk.new w1 _ _
            have HO2 : Hid (((w1.alloc (.cells #[.int .i64 a, .int .u64 (sat it.2 n)] 71)).drewN 1).ownsRow w.heap.size 71 2 (.slice A1 k c1) k (flatB (l.take k))) := (HO1.out.alloc _).drew
            have B2 := Below.two B1 hba
            have hw : (w1.alloc (.cells #[.int .i64 a, .int .u64 (sat it.2 n)] 71)).drewN 1 = (w1.alloc (.cells #[.int .i64 a, .int .u64 (sat it.2 n)] 71)).drew := rfl
            rw [hw] at NB HO2 B2 hba
            have zz2 := NB.out.lt
            replace j2 := (hba.cell (p := ⟨b, off + k * 2 + 1, none⟩) hbw1).trans j2
            clear hw hba
            generalize (w1.alloc (.cells #[.int .i64 a, .int .u64 (sat it.2 n)] 71)).drew = w2 at *
            refine hK0.out _ _ j2 (fun hHeld => ?_)
            clear hK0 K0
            try simp only [Act.put, List.getElem_toArray, List.getElem_cons_succ, List.getElem_cons_zero, List.setIfInBounds_toArray, List.set_cons_zero, List.set_cons_succ]
            refine wpAnyH_ready (rs := [11]) (by kernel_rfl) (by simp) ?_
            refine AllReadyH.cons rfl (fun K0 hK0 => ?_) AllReadyH.nil
            refine step_append_rd rfl (.tmp 45) (.tmp 55) 23 rfl w.heap.size 71 i0 (.agg #[.int .i64 0, .int .u64 0]) 2 16 Try.underlying23 hi0 hz0 hz1 hz2 rfl (by decide) (.slice A1 k c1) k _ rfl HO2.out (w1.heap.size + 1) (some ⟨w1.heap.size, 0, none⟩) 1 1 [.int .i64 a, .int .u64 (sat it.2 n)] rfl (by simp) (rd_blk NB.out (by omega)) (by intro u hu; simp at hu; rcases hu with rfl | rfl <;> rfl) (by unfold maxLen; omega) (by omega) (by have := B2.size; omega) ?_
            intro A3 c3 w3 hown3 hg3
            have HO3 : Hid (w3.ownsRow w.heap.size 71 2 (.slice A3 (k + 1) c3) (k + 1) (flatB (l.take k ++ [(a, (sat it.2 n))]))) := by show World.ownsRow _ _ _ _ _ _ _; rw [flatB_append, flatB_one]; exact hown3
            have B3 : Below w.heap.size w w3 := B2.grown hg3 B2.size (fun q e => own_base2 HO2.out q e)
            have j3 : w3.cell? ⟨b, off + k * 2 + 1, none⟩ = some (.int .u64 it.2) := (B3.cell (p := ⟨b, off + k * 2 + 1, none⟩) hb).trans i2
            clear hown3 hg3
            refine hK0.out _ _ j3 (fun hHeld => ?_)
            clear hK0 K0
            try simp only [Act.put, List.getElem_toArray, List.getElem_cons_succ, List.getElem_cons_zero, List.setIfInBounds_toArray, List.set_cons_zero, List.set_cons_succ]
            refine wpAnyH_ready (rs := [16]) (by kernel_rfl) (by simp) ?_
            refine AllReadyH.cons rfl (fun K0 hK0 => ?_) AllReadyH.nil
            refine step_append_rd rfl (.tmp 56) (.tmp 60) 23 rfl w.heap.size 71 i0 (.agg #[.int .i64 0, .int .u64 0]) 2 16 Try.underlying23 hi0 hz0 hz1 hz2 rfl (by decide) (.slice A3 (k + 1) c3) (k + 1) _ rfl HO3.out w.heap.size (some ⟨b, off, none⟩) 0 0 (flatB (l.drop (k + 1))) rfl (by rw [length_flatB]; simp <;> omega) (Rd.below (SDR.out) B3) one_flatB (by unfold maxLen; omega) (by omega) (by have := B3.size; omega) ?_
            intro A4 c4 w4 hown4 hg4
            have B4 : Below w.heap.size w w4 := B3.grown hg4 B3.size (fun q e => own_base2 HO3.out q e)
            have HO4 := Lib.hid hown4
            have j4 : w4.cell? ⟨b, off + k * 2 + 1, none⟩ = some (.int .u64 it.2) := (B4.cell (p := ⟨b, off + k * 2 + 1, none⟩) hb).trans i2
            clear hown4 hg4
            refine hK0.out _ _ j4 (fun hHeld => ?_)
            clear hK0 K0
            try simp only [Act.put, List.getElem_toArray, List.getElem_cons_succ, List.getElem_cons_zero, List.setIfInBounds_toArray, List.set_cons_zero, List.set_cons_succ]
            refine wpAnyH_take (i := 17) (v := (.slice A4 (k + 1 + 0) c4)) rfl (by kernel_rfl) (by kernel_rfl) (by kernel_rfl) (fun _ _ _ h => h) (Or.inl ⟨by rfl, ?_⟩) hHeld ?_
            · (intro w hSw; go_simp)
            simp only [Act.put, List.getElem_toArray, List.getElem_cons_succ, List.getElem_cons_zero, List.setIfInBounds_toArray, List.set_cons_zero, List.set_cons_succ]
            refine wpAnyH_done (by kernel_rfl) ?_ _
            go_wp2_with fail
            go_ret
            refine ⟨B4, .slice A4 (k + 1 + 0) c4, rfl, ?_⟩
            have h9 := HO4.out
            rw [← flatB_append] at h9
            rw [HP.out]
            exact rdB_own (n := k + 1 + 0) (by (try have := HLL.out); simp only [List.length_append, List.length_take, List.length_drop, List.length_cons, List.length_nil]; omega) h9
          · have SDR : Hid (Rd w w.heap.size (some ⟨b, off + (k + 1) * 2, none⟩) (flatB (l.drop (k + 1)))) := by show Rd _ _ _ _; exact HS.out.drop_ (k + 1)
            have hcc : ¬ cap = k + 1 := hcap
            have hcd : ¬ (cap : Int) = (k : Int) + 1 := by omega
            go_wp2_with (first | (at_builtin; refine Stop.mk ?_) | go_in)
            unfold Stop
            refine wpList_append_rd _ rfl (.tmp 27) (.tmp 30) 23 rfl w.heap.size 71 i0 (.agg #[.int .i64 0, .int .u64 0]) 2 16 Try.underlying23 hi0 hz0 hz1 hz2 rfl (by decide) (.slice none 0 0) 0 [] rfl (World.ownsRow_nil _ _ _ _) w.heap.size (some ⟨b, off, none⟩) k cap (flatB (l.take k)) rfl (by rw [length_flatB, List.length_take]; omega) (HS.out.take k) one_flatB (by unfold maxLen; omega) (by omega) (Nat.le_refl _) ?_
            intro v1 w1 hown1 hg1 _
            simp only [Nat.zero_add, List.nil_append] at hown1
            obtain ⟨A1, c1, rfl, _, _, _⟩ := owns_form hown1
            have HO1 : Hid (w1.ownsRow w.heap.size 71 2 (.slice A1 k c1) k (flatB (l.take k))) := hown1
            have B1 : Below w.heap.size w w1 := ⟨hg1.os, hg1.tape, hg1.output, hg1.size, fun i hi => hg1.block i hi (by simp [Value.ownBlock])⟩
            clear hown1 hg1
            have j2 : w1.cell? ⟨b, off + k * 2 + 1, none⟩ = some (.int .u64 it.2) := (B1.cell (p := ⟨b, off + k * 2 + 1, none⟩) hb).trans i2
            have j1 : w1.cell? ⟨b, off + k * 2, none⟩ = some (.int .i64 it.1) := (B1.cell (p := ⟨b, off + k * 2, none⟩) hb).trans i1
            have hbw1 : b < w1.heap.size := by have := B1.size; omega
            clear hA
            go_wp2_with fail
            refine wp_region_held_drew (S := fun w' => w'.cell? ⟨b, off + k * 2 + 1, none⟩ = some (.int .u64 it.2)) (by kernel_rfl) j2 (fun hHeld => ?_)
            refine wpAnyH_take (i := 0) (v := (.slice A1 k c1)) rfl (by kernel_rfl) (by kernel_rfl) (by kernel_rfl) (fun _ _ _ h => h) (Or.inl ⟨by rfl, ?_⟩) hHeld ?_
            · (intro w hSw; (try dsimp only at hSw); go_simp)
            simp only [Act.put, List.setIfInBounds_toArray, List.set_cons_zero, List.set_cons_succ]
            refine wpAnyH_take (i := 1) (v := (.int .i64 a)) rfl (by kernel_rfl) (by kernel_rfl) (by kernel_rfl) (fun _ _ _ h => h) (Or.inl ⟨by rfl, ?_⟩) hHeld ?_
            · (intro w hSw; (try dsimp only at hSw); go_simp)
            simp only [Act.put, List.setIfInBounds_toArray, List.set_cons_zero, List.set_cons_succ]
            refine wpAnyH_take (i := 2) (v := (.slice (some ⟨b, off, none⟩) l.length cap)) rfl (by kernel_rfl) (by kernel_rfl) (by kernel_rfl) (fun _ _ _ h => h) (Or.inl ⟨by rfl, ?_⟩) hHeld ?_
            · (intro w hSw; (try dsimp only at hSw); go_simp)
            simp only [Act.put, List.setIfInBounds_toArray, List.set_cons_zero, List.set_cons_succ]
            refine wpAnyH_take (i := 3) (v := (.int .i64 (k : Int))) rfl (by kernel_rfl) (by kernel_rfl) (by kernel_rfl) (fun _ _ _ h => h) (Or.inl ⟨by rfl, ?_⟩) hHeld ?_
            · (intro w hSw; (try dsimp only at hSw); go_simp)
            simp only [Act.put, List.setIfInBounds_toArray, List.set_cons_zero, List.set_cons_succ]
            refine wpAnyH_take (i := 4) (v := (.pointer (some ⟨b, off + k * 2, none⟩))) rfl (by kernel_rfl) (by kernel_rfl) (by kernel_rfl) (fun _ _ _ h => h) (Or.inl ⟨by rfl, ?_⟩) hHeld ?_
            · (intro w hSw; (try dsimp only at hSw); go_simp)
            simp only [Act.put, List.setIfInBounds_toArray, List.set_cons_zero, List.set_cons_succ]
            refine wpAnyH_take (i := 5) (v := (.pointer (some ⟨b, off + k * 2 + 1, none⟩))) rfl (by kernel_rfl) (by kernel_rfl) (by kernel_rfl) (fun _ _ _ h => h) (Or.inl ⟨by rfl, ?_⟩) hHeld ?_
            · (intro w hSw; (try dsimp only at hSw); go_simp)
            simp only [Act.put, List.setIfInBounds_toArray, List.set_cons_zero, List.set_cons_succ]
            refine wpAnyH_take (i := 6) (v := (.int .u64 it.2)) rfl (by kernel_rfl) (by kernel_rfl) (by kernel_rfl) (fun _ _ _ h => h) (Or.inl ⟨by rfl, ?_⟩) hHeld ?_
            · (intro w hSw; (try dsimp only at hSw); go_simp)
            simp only [Act.put, List.setIfInBounds_toArray, List.set_cons_zero, List.set_cons_succ]
            refine wpAnyH_take (i := 7) (v := (.int .u64 n)) rfl (by kernel_rfl) (by kernel_rfl) (by kernel_rfl) (fun _ _ _ h => h) (Or.inl ⟨by rfl, ?_⟩) hHeld ?_
            · (intro w hSw; (try dsimp only at hSw); go_simp)
            simp only [Act.put, List.setIfInBounds_toArray, List.set_cons_zero, List.set_cons_succ]
            refine wpAnyH_take (i := 12) (v := (.slice (some ⟨b, off, none⟩) l.length cap)) rfl (by kernel_rfl) (by kernel_rfl) (by kernel_rfl) (fun _ _ _ h => h) (Or.inl ⟨by rfl, ?_⟩) hHeld ?_
            · (intro w hSw; (try dsimp only at hSw); go_simp)
            simp only [Act.put, List.setIfInBounds_toArray, List.set_cons_zero, List.set_cons_succ]
            refine wpAnyH_take (i := 13) (v := (.int .i64 (k : Int))) rfl (by kernel_rfl) (by kernel_rfl) (by kernel_rfl) (fun _ _ _ h => h) (Or.inl ⟨by rfl, ?_⟩) hHeld ?_
            · (intro w hSw; (try dsimp only at hSw); go_simp)
            simp only [Act.put, List.setIfInBounds_toArray, List.set_cons_zero, List.set_cons_succ]
            refine wpAnyH_take (i := 14) (v := (.int .i64 ((k : Int) + 1))) rfl (by kernel_rfl) (by kernel_rfl) (by kernel_rfl) (fun _ _ _ h => h) (Or.inl ⟨by rfl, ?_⟩) hHeld ?_
            · (intro w hSw; (try dsimp only at hSw); go_simp)
            simp only [Act.put, List.setIfInBounds_toArray, List.set_cons_zero, List.set_cons_succ]
            refine wpAnyH_take (i := 15) (v := (.slice (some ⟨b, off + (k + 1) * 2, none⟩) (l.length - (k + 1)) (cap - (k + 1)))) rfl (by kernel_rfl) (by kernel_rfl) (by kernel_rfl) (fun _ _ _ h => h) (Or.inl ⟨by rfl, ?_⟩) hHeld ?_
            · (intro w hSw; (try dsimp only at hSw); go_simp)
            simp only [Act.put, List.setIfInBounds_toArray, List.set_cons_zero, List.set_cons_succ]
            refine wpAnyH_ready (rs := [8]) (by kernel_rfl) (by simp) ?_
            refine AllReadyH.cons rfl (fun K0 hK0 => ?_) AllReadyH.nil
            go_simp
            refine (plus_any it.2 n u2 hn _).mono ?_
            rintro e w9 ⟨rfl, rfl⟩
            refine hK0.out _ _ (by exact j2) (fun hHeld => ?_)
            clear hK0 K0
            try simp only [Act.put, List.getElem_toArray, List.getElem_cons_succ, List.getElem_cons_zero, List.setIfInBounds_toArray, List.set_cons_zero, List.set_cons_succ]
            refine wpAnyH_take (i := 9) (v := (.agg #[.int .i64 a, .int .u64 (sat it.2 n)])) rfl (by kernel_rfl) (by kernel_rfl) (by kernel_rfl) (fun _ _ _ h => h) (Or.inl ⟨by rfl, ?_⟩) hHeld ?_
            · (intro w hSw; (try dsimp only at hSw); go_simp)
            simp only [Act.put, List.setIfInBounds_toArray, List.set_cons_zero, List.set_cons_succ]
            refine wpAnyH_ready (rs := [10]) (by kernel_rfl) (by simp) ?_
            refine AllReadyH.cons rfl (fun K0 hK0 => ?_) AllReadyH.nil
            go_simp
            have hba := below_drewN (below_al (below_0 w1) (.cells #[.int .i64 a, .int .u64 (sat it.2 n)] 71)) 1
            have NB : Hid (Blk ((w1.alloc (.cells #[.int .i64 a, .int .u64 (sat it.2 n)] 71)).drewN 1) w1.heap.size 71 #[.int .i64 a, .int .u64 (sat it.2 n)]) := Blk.new w1 _ _
            have HO2 : Hid (((w1.alloc (.cells #[.int .i64 a, .int .u64 (sat it.2 n)] 71)).drewN 1).ownsRow w.heap.size 71 2 (.slice A1 k c1) k (flatB (l.take k))) := (HO1.out.alloc _).drew
            have B2 := Below.two B1 hba
            have hw : (w1.alloc (.cells #[.int .i64 a, .int .u64 (sat it.2 n)] 71)).drewN 1 = (w1.alloc (.cells #[.int .i64 a, .int .u64 (sat it.2 n)] 71)).drew := rfl
            rw [hw] at NB HO2 B2 hba
            have zz2 := NB.out.lt
            replace j2 := (hba.cell (p := ⟨b, off + k * 2 + 1, none⟩) hbw1).trans j2
            clear hw hba
            generalize (w1.alloc (.cells #[.int .i64 a, .int .u64 (sat it.2 n)] 71)).drew = w2 at *
            refine hK0.out _ _ j2 (fun hHeld => ?_)
            clear hK0 K0
            try simp only [Act.put, List.getElem_toArray, List.getElem_cons_succ, List.getElem_cons_zero, List.setIfInBounds_toArray, List.set_cons_zero, List.set_cons_succ]
            refine wpAnyH_ready (rs := [11]) (by kernel_rfl) (by simp) ?_
            refine AllReadyH.cons rfl (fun K0 hK0 => ?_) AllReadyH.nil
            refine step_append_rd rfl (.tmp 45) (.tmp 55) 23 rfl w.heap.size 71 i0 (.agg #[.int .i64 0, .int .u64 0]) 2 16 Try.underlying23 hi0 hz0 hz1 hz2 rfl (by decide) (.slice A1 k c1) k _ rfl HO2.out (w1.heap.size + 1) (some ⟨w1.heap.size, 0, none⟩) 1 1 [.int .i64 a, .int .u64 (sat it.2 n)] rfl (by simp) (rd_blk NB.out (by omega)) (by intro u hu; simp at hu; rcases hu with rfl | rfl <;> rfl) (by unfold maxLen; omega) (by omega) (by have := B2.size; omega) ?_
            intro A3 c3 w3 hown3 hg3
            have HO3 : Hid (w3.ownsRow w.heap.size 71 2 (.slice A3 (k + 1) c3) (k + 1) (flatB (l.take k ++ [(a, (sat it.2 n))]))) := by show World.ownsRow _ _ _ _ _ _ _; rw [flatB_append, flatB_one]; exact hown3
            have B3 : Below w.heap.size w w3 := B2.grown hg3 B2.size (fun q e => own_base2 HO2.out q e)
            have j3 : w3.cell? ⟨b, off + k * 2 + 1, none⟩ = some (.int .u64 it.2) := (B3.cell (p := ⟨b, off + k * 2 + 1, none⟩) hb).trans i2
            clear hown3 hg3
            refine hK0.out _ _ j3 (fun hHeld => ?_)
            clear hK0 K0
            try simp only [Act.put, List.getElem_toArray, List.getElem_cons_succ, List.getElem_cons_zero, List.setIfInBounds_toArray, List.set_cons_zero, List.set_cons_succ]
            refine wpAnyH_ready (rs := [16]) (by kernel_rfl) (by simp) ?_
            refine AllReadyH.cons rfl (fun K0 hK0 => ?_) AllReadyH.nil
            refine step_append_rd rfl (.tmp 56) (.tmp 60) 23 rfl w.heap.size 71 i0 (.agg #[.int .i64 0, .int .u64 0]) 2 16 Try.underlying23 hi0 hz0 hz1 hz2 rfl (by decide) (.slice A3 (k + 1) c3) (k + 1) _ rfl HO3.out w.heap.size (some ⟨b, off + (k + 1) * 2, none⟩) (l.length - (k + 1)) (cap - (k + 1)) (flatB (l.drop (k + 1))) rfl (by rw [length_flatB]; simp <;> omega) (Rd.below (SDR.out) B3) one_flatB (by unfold maxLen; omega) (by omega) (by have := B3.size; omega) ?_
            intro A4 c4 w4 hown4 hg4
            have B4 : Below w.heap.size w w4 := B3.grown hg4 B3.size (fun q e => own_base2 HO3.out q e)
            have HO4 := Lib.hid hown4
            have j4 : w4.cell? ⟨b, off + k * 2 + 1, none⟩ = some (.int .u64 it.2) := (B4.cell (p := ⟨b, off + k * 2 + 1, none⟩) hb).trans i2
            clear hown4 hg4
            refine hK0.out _ _ j4 (fun hHeld => ?_)
            clear hK0 K0
            try simp only [Act.put, List.getElem_toArray, List.getElem_cons_succ, List.getElem_cons_zero, List.setIfInBounds_toArray, List.set_cons_zero, List.set_cons_succ]
            refine wpAnyH_take (i := 17) (v := (.slice A4 (k + 1 + (l.length - (k + 1))) c4)) rfl (by kernel_rfl) (by kernel_rfl) (by kernel_rfl) (fun _ _ _ h => h) (Or.inl ⟨by rfl, ?_⟩) hHeld ?_
            · (intro w hSw; go_simp)
            simp only [Act.put, List.getElem_toArray, List.getElem_cons_succ, List.getElem_cons_zero, List.setIfInBounds_toArray, List.set_cons_zero, List.set_cons_succ]
            refine wpAnyH_done (by kernel_rfl) ?_ _
            go_wp2_with fail
            go_ret
            refine ⟨B4, .slice A4 (k + 1 + (l.length - (k + 1))) c4, rfl, ?_⟩
            have h9 := HO4.out
            rw [← flatB_append] at h9
            rw [HP.out]
            exact rdB_own (n := k + 1 + (l.length - (k + 1))) (by (try have := HLL.out); simp only [List.length_append, List.length_take, List.length_drop, List.length_cons, List.length_nil]; omega) h9
        · have HP : Hid (putL l a n = (l.take k ++ [(a, n)]) ++ l.drop k) := by show _ = _; rw [HPA.out, if_neg (fun h => he h.2)]; simp
          have de : ((bth l k).1 == a) = false := by simp [he]
          clear HPA hs he hA
          generalize bth l k = it at *
          have hkc : (k : Int) ≤ (cap : Int) := by omega
          have hkl : (k : Int) ≤ (l.length : Int) := by omega
          have hcc : ¬ cap = k := by omega
          have hcd : ¬ (cap : Int) = (k : Int) := by omega
          have SDR : Hid (Rd w w.heap.size (some ⟨b, off + k * 2, none⟩) (flatB (l.drop k))) := by show Rd _ _ _ _; exact HS.out.drop_ k
          go_wp2_with (first | (at_builtin; refine Stop.mk ?_) | go_in)
          unfold Stop
          refine wpList_append_rd _ rfl (.tmp 27) (.tmp 30) 23 rfl w.heap.size 71 i0 (.agg #[.int .i64 0, .int .u64 0]) 2 16 Try.underlying23 hi0 hz0 hz1 hz2 rfl (by decide) (.slice none 0 0) 0 [] rfl (World.ownsRow_nil _ _ _ _) w.heap.size (some ⟨b, off, none⟩) k cap (flatB (l.take k)) rfl (by rw [length_flatB, List.length_take]; omega) (HS.out.take k) one_flatB (by unfold maxLen; omega) (by omega) (Nat.le_refl _) ?_
          intro v1 w1 hown1 hg1 _
          simp only [Nat.zero_add, List.nil_append] at hown1
          obtain ⟨A1, c1, rfl, _, _, _⟩ := owns_form hown1
          have HO1 : Hid (w1.ownsRow w.heap.size 71 2 (.slice A1 k c1) k (flatB (l.take k))) := hown1
          have B1 : Below w.heap.size w w1 := ⟨hg1.os, hg1.tape, hg1.output, hg1.size, fun i hi => hg1.block i hi (by simp [Value.ownBlock])⟩
          clear hown1 hg1
          have j2 : w1.cell? ⟨b, off + k * 2 + 1, none⟩ = some (.int .u64 it.2) := (B1.cell (p := ⟨b, off + k * 2 + 1, none⟩) hb).trans i2
          have j1 : w1.cell? ⟨b, off + k * 2, none⟩ = some (.int .i64 it.1) := (B1.cell (p := ⟨b, off + k * 2, none⟩) hb).trans i1
          have hbw1 : b < w1.heap.size := by have := B1.size; omega
          go_wp2_with fail
          refine wp_region_held_drew (S := fun w' => True) (by kernel_rfl) trivial (fun hHeld => ?_)
          refine wpAnyH_take (i := 0) (v := (.slice A1 k c1)) rfl (by kernel_rfl) (by kernel_rfl) (by kernel_rfl) (fun _ _ _ h => h) (Or.inl ⟨by rfl, ?_⟩) hHeld ?_
          · (intro w hSw; go_simp)
          simp only [Act.put, List.setIfInBounds_toArray, List.set_cons_zero, List.set_cons_succ]
          refine wpAnyH_take (i := 1) (v := (.int .i64 a)) rfl (by kernel_rfl) (by kernel_rfl) (by kernel_rfl) (fun _ _ _ h => h) (Or.inl ⟨by rfl, ?_⟩) hHeld ?_
          · (intro w hSw; go_simp)
          simp only [Act.put, List.setIfInBounds_toArray, List.set_cons_zero, List.set_cons_succ]
          refine wpAnyH_take (i := 2) (v := (.int .u64 n)) rfl (by kernel_rfl) (by kernel_rfl) (by kernel_rfl) (fun _ _ _ h => h) (Or.inl ⟨by rfl, ?_⟩) hHeld ?_
          · (intro w hSw; go_simp)
          simp only [Act.put, List.setIfInBounds_toArray, List.set_cons_zero, List.set_cons_succ]
          refine wpAnyH_take (i := 3) (v := (.agg #[.int .i64 a, .int .u64 n])) rfl (by kernel_rfl) (by kernel_rfl) (by kernel_rfl) (fun _ _ _ h => h) (Or.inl ⟨by rfl, ?_⟩) hHeld ?_
          · (intro w hSw; go_simp)
          simp only [Act.put, List.setIfInBounds_toArray, List.set_cons_zero, List.set_cons_succ]
          refine wpAnyH_take (i := 6) (v := (.slice (some ⟨b, off, none⟩) l.length cap)) rfl (by kernel_rfl) (by kernel_rfl) (by kernel_rfl) (fun _ _ _ h => h) (Or.inl ⟨by rfl, ?_⟩) hHeld ?_
          · (intro w hSw; go_simp)
          simp only [Act.put, List.setIfInBounds_toArray, List.set_cons_zero, List.set_cons_succ]
          refine wpAnyH_take (i := 7) (v := (.int .i64 (k : Int))) rfl (by kernel_rfl) (by kernel_rfl) (by kernel_rfl) (fun _ _ _ h => h) (Or.inl ⟨by rfl, ?_⟩) hHeld ?_
          · (intro w hSw; go_simp)
          simp only [Act.put, List.setIfInBounds_toArray, List.set_cons_zero, List.set_cons_succ]
          refine wpAnyH_take (i := 8) (v := (.slice (some ⟨b, off + k * 2, none⟩) (l.length - k) (cap - k))) rfl (by kernel_rfl) (by kernel_rfl) (by kernel_rfl) (fun _ _ _ h => h) (Or.inl ⟨by rfl, ?_⟩) hHeld ?_
          · (intro w hSw; go_simp)
          simp only [Act.put, List.setIfInBounds_toArray, List.set_cons_zero, List.set_cons_succ]
          refine wpAnyH_ready (rs := [4]) (by kernel_rfl) (by simp) ?_
          refine AllReadyH.cons rfl (fun K0 hK0 => ?_) AllReadyH.nil
          go_simp
          have hba := below_drewN (below_al (below_0 w1) (.cells #[.int .i64 a, .int .u64 n] 71)) 1
          have NB : Hid (Blk ((w1.alloc (.cells #[.int .i64 a, .int .u64 n] 71)).drewN 1) w1.heap.size 71 #[.int .i64 a, .int .u64 n]) := Blk.new w1 _ _
          have HO2 : Hid (((w1.alloc (.cells #[.int .i64 a, .int .u64 n] 71)).drewN 1).ownsRow w.heap.size 71 2 (.slice A1 k c1) k (flatB (l.take k))) := (HO1.out.alloc _).drew
          have B2 := Below.two B1 hba
          have hw : (w1.alloc (.cells #[.int .i64 a, .int .u64 n] 71)).drewN 1 = (w1.alloc (.cells #[.int .i64 a, .int .u64 n] 71)).drew := rfl
          rw [hw] at NB HO2 B2 hba
          have zz2 := NB.out.lt
          clear hw hba
          generalize (w1.alloc (.cells #[.int .i64 a, .int .u64 n] 71)).drew = w2 at *
          refine hK0.out _ _ trivial (fun hHeld => ?_)
          clear hK0 K0
          try simp only [Act.put, List.getElem_toArray, List.getElem_cons_succ, List.getElem_cons_zero, List.setIfInBounds_toArray, List.set_cons_zero, List.set_cons_succ]
          refine wpAnyH_ready (rs := [5]) (by kernel_rfl) (by simp) ?_
          refine AllReadyH.cons rfl (fun K0 hK0 => ?_) AllReadyH.nil
          refine step_append_rd rfl (.tmp 62) (.tmp 66) 23 rfl w.heap.size 71 i0 (.agg #[.int .i64 0, .int .u64 0]) 2 16 Try.underlying23 hi0 hz0 hz1 hz2 rfl (by decide) (.slice A1 k c1) k _ rfl HO2.out (w1.heap.size + 1) (some ⟨w1.heap.size, 0, none⟩) 1 1 [.int .i64 a, .int .u64 n] rfl (by simp) (rd_blk NB.out (by omega)) (by intro u hu; simp at hu; rcases hu with rfl | rfl <;> rfl) (by unfold maxLen; omega) (by omega) (by have := B2.size; omega) ?_
          intro A3 c3 w3 hown3 hg3
          have HO3 : Hid (w3.ownsRow w.heap.size 71 2 (.slice A3 (k + 1) c3) (k + 1) (flatB (l.take k ++ [(a, n)]))) := by show World.ownsRow _ _ _ _ _ _ _; rw [flatB_append, flatB_one]; exact hown3
          have B3 : Below w.heap.size w w3 := B2.grown hg3 B2.size (fun q e => own_base2 HO2.out q e)
          clear hown3 hg3
          refine hK0.out _ _ trivial (fun hHeld => ?_)
          clear hK0 K0
          try simp only [Act.put, List.getElem_toArray, List.getElem_cons_succ, List.getElem_cons_zero, List.setIfInBounds_toArray, List.set_cons_zero, List.set_cons_succ]
          refine wpAnyH_ready (rs := [9]) (by kernel_rfl) (by simp) ?_
          refine AllReadyH.cons rfl (fun K0 hK0 => ?_) AllReadyH.nil
          refine step_append_rd rfl (.tmp 67) (.tmp 70) 23 rfl w.heap.size 71 i0 (.agg #[.int .i64 0, .int .u64 0]) 2 16 Try.underlying23 hi0 hz0 hz1 hz2 rfl (by decide) (.slice A3 (k + 1) c3) (k + 1) _ rfl HO3.out w.heap.size (some ⟨b, off + k * 2, none⟩) (l.length - k) (cap - k) (flatB (l.drop k)) rfl (by rw [length_flatB]; simp <;> omega) (Rd.below (SDR.out) B3) one_flatB (by unfold maxLen; omega) (by omega) (by have := B3.size; omega) ?_
          intro A4 c4 w4 hown4 hg4
          have B4 : Below w.heap.size w w4 := B3.grown hg4 B3.size (fun q e => own_base2 HO3.out q e)
          have HO4 := Lib.hid hown4
          clear hown4 hg4
          refine hK0.out _ _ trivial (fun hHeld => ?_)
          clear hK0 K0
          try simp only [Act.put, List.getElem_toArray, List.getElem_cons_succ, List.getElem_cons_zero, List.setIfInBounds_toArray, List.set_cons_zero, List.set_cons_succ]
          refine wpAnyH_take (i := 10) (v := (.slice A4 (k + 1 + (l.length - k)) c4)) rfl (by kernel_rfl) (by kernel_rfl) (by kernel_rfl) (fun _ _ _ h => h) (Or.inl ⟨by rfl, ?_⟩) hHeld ?_
          · (intro w hSw; go_simp)
          simp only [Act.put, List.getElem_toArray, List.getElem_cons_succ, List.getElem_cons_zero, List.setIfInBounds_toArray, List.set_cons_zero, List.set_cons_succ]
          refine wpAnyH_done (by kernel_rfl) ?_ _
          go_wp2_with fail
          go_ret
          refine ⟨B4, .slice A4 (k + 1 + (l.length - k)) c4, rfl, ?_⟩
          have h9 := HO4.out
          rw [← flatB_append] at h9
          rw [HP.out]
          exact rdB_own (n := k + 1 + (l.length - k)) (by (try have := HLL.out); simp only [List.length_append, List.length_take, List.length_drop, List.length_cons, List.length_nil]; omega) h9
    · obtain rfl : k = l.length := by omega
      have HP : Hid (putL l a n = (l.take l.length ++ [(a, n)]) ++ l.drop l.length) := by show _ = _; rw [putL_at (n := n) hk HK.out (fun h => absurd h hlt), if_neg (fun h => hlt h.1)]; simp
      have SDR : Hid (∀ A, Rd w w.heap.size A (flatB (l.drop l.length))) := by intro A; rw [List.drop_eq_nil_of_le (by omega)]; exact Rd.none_
      have hkl : (l.length : Int) ≤ (l.length : Int) := by omega
      by_cases hcap : cap = l.length
      · subst hcap
        go_wp2_with (first | (at_builtin; refine Stop.mk ?_) | go_in)
        unfold Stop
        refine wpList_append_rd _ rfl (.tmp 27) (.tmp 30) 23 rfl w.heap.size 71 i0 (.agg #[.int .i64 0, .int .u64 0]) 2 16 Try.underlying23 hi0 hz0 hz1 hz2 rfl (by decide) (.slice none 0 0) 0 [] rfl (World.ownsRow_nil _ _ _ _) w.heap.size A l.length l.length (flatB (l.take l.length)) rfl (by rw [length_flatB, List.length_take]; omega) (HS.out.take l.length) one_flatB (by unfold maxLen; omega) (by omega) (Nat.le_refl _) ?_
        intro v1 w1 hown1 hg1 _
        simp only [Nat.zero_add, List.nil_append] at hown1
        obtain ⟨A1, c1, rfl, _, _, _⟩ := owns_form hown1
        have HO1 : Hid (w1.ownsRow w.heap.size 71 2 (.slice A1 l.length c1) l.length (flatB (l.take l.length))) := hown1
        have B1 : Below w.heap.size w w1 := ⟨hg1.os, hg1.tape, hg1.output, hg1.size, fun i hi => hg1.block i hi (by simp [Value.ownBlock])⟩
        clear hown1 hg1
        clear hA
        go_wp2_with fail
        refine wp_region_held_drew (S := fun w' => True) (by kernel_rfl) trivial (fun hHeld => ?_)
        refine wpAnyH_take (i := 0) (v := (.slice A1 l.length c1)) rfl (by kernel_rfl) (by kernel_rfl) (by kernel_rfl) (fun _ _ _ h => h) (Or.inl ⟨by rfl, ?_⟩) hHeld ?_
        · (intro w hSw; go_simp)
        simp only [Act.put, List.setIfInBounds_toArray, List.set_cons_zero, List.set_cons_succ]
        refine wpAnyH_take (i := 1) (v := (.int .i64 a)) rfl (by kernel_rfl) (by kernel_rfl) (by kernel_rfl) (fun _ _ _ h => h) (Or.inl ⟨by rfl, ?_⟩) hHeld ?_
        · (intro w hSw; go_simp)
        simp only [Act.put, List.setIfInBounds_toArray, List.set_cons_zero, List.set_cons_succ]
        refine wpAnyH_take (i := 2) (v := (.int .u64 n)) rfl (by kernel_rfl) (by kernel_rfl) (by kernel_rfl) (fun _ _ _ h => h) (Or.inl ⟨by rfl, ?_⟩) hHeld ?_
        · (intro w hSw; go_simp)
        simp only [Act.put, List.setIfInBounds_toArray, List.set_cons_zero, List.set_cons_succ]
        refine wpAnyH_take (i := 3) (v := (.agg #[.int .i64 a, .int .u64 n])) rfl (by kernel_rfl) (by kernel_rfl) (by kernel_rfl) (fun _ _ _ h => h) (Or.inl ⟨by rfl, ?_⟩) hHeld ?_
        · (intro w hSw; go_simp)
        simp only [Act.put, List.setIfInBounds_toArray, List.set_cons_zero, List.set_cons_succ]
        refine wpAnyH_take (i := 6) (v := (.slice A l.length l.length)) rfl (by kernel_rfl) (by kernel_rfl) (by kernel_rfl) (fun _ _ _ h => h) (Or.inl ⟨by rfl, ?_⟩) hHeld ?_
        · (intro w hSw; go_simp)
        simp only [Act.put, List.setIfInBounds_toArray, List.set_cons_zero, List.set_cons_succ]
        refine wpAnyH_take (i := 7) (v := (.int .i64 (l.length : Int))) rfl (by kernel_rfl) (by kernel_rfl) (by kernel_rfl) (fun _ _ _ h => h) (Or.inl ⟨by rfl, ?_⟩) hHeld ?_
        · (intro w hSw; go_simp)
        simp only [Act.put, List.setIfInBounds_toArray, List.set_cons_zero, List.set_cons_succ]
        refine wpAnyH_take (i := 8) (v := (.slice A 0 0)) rfl (by kernel_rfl) (by kernel_rfl) (by kernel_rfl) (fun _ _ _ h => h) (Or.inl ⟨by rfl, ?_⟩) hHeld ?_
        · (intro w hSw; go_simp)
        simp only [Act.put, List.setIfInBounds_toArray, List.set_cons_zero, List.set_cons_succ]
        refine wpAnyH_ready (rs := [4]) (by kernel_rfl) (by simp) ?_
        refine AllReadyH.cons rfl (fun K0 hK0 => ?_) AllReadyH.nil
        go_simp
        have hba := below_drewN (below_al (below_0 w1) (.cells #[.int .i64 a, .int .u64 n] 71)) 1
        have NB : Hid (Blk ((w1.alloc (.cells #[.int .i64 a, .int .u64 n] 71)).drewN 1) w1.heap.size 71 #[.int .i64 a, .int .u64 n]) := Blk.new w1 _ _
        have HO2 : Hid (((w1.alloc (.cells #[.int .i64 a, .int .u64 n] 71)).drewN 1).ownsRow w.heap.size 71 2 (.slice A1 l.length c1) l.length (flatB (l.take l.length))) := (HO1.out.alloc _).drew
        have B2 := Below.two B1 hba
        have hw : (w1.alloc (.cells #[.int .i64 a, .int .u64 n] 71)).drewN 1 = (w1.alloc (.cells #[.int .i64 a, .int .u64 n] 71)).drew := rfl
        rw [hw] at NB HO2 B2 hba
        have zz2 := NB.out.lt
        clear hw hba
        generalize (w1.alloc (.cells #[.int .i64 a, .int .u64 n] 71)).drew = w2 at *
        refine hK0.out _ _ trivial (fun hHeld => ?_)
        clear hK0 K0
        try simp only [Act.put, List.getElem_toArray, List.getElem_cons_succ, List.getElem_cons_zero, List.setIfInBounds_toArray, List.set_cons_zero, List.set_cons_succ]
        refine wpAnyH_ready (rs := [5]) (by kernel_rfl) (by simp) ?_
        refine AllReadyH.cons rfl (fun K0 hK0 => ?_) AllReadyH.nil
        refine step_append_rd rfl (.tmp 62) (.tmp 66) 23 rfl w.heap.size 71 i0 (.agg #[.int .i64 0, .int .u64 0]) 2 16 Try.underlying23 hi0 hz0 hz1 hz2 rfl (by decide) (.slice A1 l.length c1) l.length _ rfl HO2.out (w1.heap.size + 1) (some ⟨w1.heap.size, 0, none⟩) 1 1 [.int .i64 a, .int .u64 n] rfl (by simp) (rd_blk NB.out (by omega)) (by intro u hu; simp at hu; rcases hu with rfl | rfl <;> rfl) (by unfold maxLen; omega) (by omega) (by have := B2.size; omega) ?_
        intro A3 c3 w3 hown3 hg3
        have HO3 : Hid (w3.ownsRow w.heap.size 71 2 (.slice A3 (l.length + 1) c3) (l.length + 1) (flatB (l.take l.length ++ [(a, n)]))) := by show World.ownsRow _ _ _ _ _ _ _; rw [flatB_append, flatB_one]; exact hown3
        have B3 : Below w.heap.size w w3 := B2.grown hg3 B2.size (fun q e => own_base2 HO2.out q e)
        clear hown3 hg3
        refine hK0.out _ _ trivial (fun hHeld => ?_)
        clear hK0 K0
        try simp only [Act.put, List.getElem_toArray, List.getElem_cons_succ, List.getElem_cons_zero, List.setIfInBounds_toArray, List.set_cons_zero, List.set_cons_succ]
        refine wpAnyH_ready (rs := [9]) (by kernel_rfl) (by simp) ?_
        refine AllReadyH.cons rfl (fun K0 hK0 => ?_) AllReadyH.nil
        refine step_append_rd rfl (.tmp 67) (.tmp 70) 23 rfl w.heap.size 71 i0 (.agg #[.int .i64 0, .int .u64 0]) 2 16 Try.underlying23 hi0 hz0 hz1 hz2 rfl (by decide) (.slice A3 (l.length + 1) c3) (l.length + 1) _ rfl HO3.out w.heap.size A 0 0 (flatB (l.drop l.length)) rfl (by rw [length_flatB]; simp <;> omega) (Rd.below (SDR.out _) B3) one_flatB (by unfold maxLen; omega) (by omega) (by have := B3.size; omega) ?_
        intro A4 c4 w4 hown4 hg4
        have B4 : Below w.heap.size w w4 := B3.grown hg4 B3.size (fun q e => own_base2 HO3.out q e)
        have HO4 := Lib.hid hown4
        clear hown4 hg4
        refine hK0.out _ _ trivial (fun hHeld => ?_)
        clear hK0 K0
        try simp only [Act.put, List.getElem_toArray, List.getElem_cons_succ, List.getElem_cons_zero, List.setIfInBounds_toArray, List.set_cons_zero, List.set_cons_succ]
        refine wpAnyH_take (i := 10) (v := (.slice A4 (l.length + 1 + 0) c4)) rfl (by kernel_rfl) (by kernel_rfl) (by kernel_rfl) (fun _ _ _ h => h) (Or.inl ⟨by rfl, ?_⟩) hHeld ?_
        · (intro w hSw; go_simp)
        simp only [Act.put, List.getElem_toArray, List.getElem_cons_succ, List.getElem_cons_zero, List.setIfInBounds_toArray, List.set_cons_zero, List.set_cons_succ]
        refine wpAnyH_done (by kernel_rfl) ?_ _
        go_wp2_with fail
        go_ret
        refine ⟨B4, .slice A4 (l.length + 1 + 0) c4, rfl, ?_⟩
        have h9 := HO4.out
        rw [← flatB_append] at h9
        rw [HP.out]
        exact rdB_own (n := l.length + 1 + 0) (by (try have := HLL.out); simp only [List.length_append, List.length_take, List.length_drop, List.length_cons, List.length_nil]; omega) h9
      · obtain ⟨b, off, rfl⟩ := hA (by omega)
        have hkc : (l.length : Int) ≤ (cap : Int) := by omega
        have hcc : ¬ cap = l.length := by omega
        have hcd : ¬ (cap : Int) = (l.length : Int) := by omega
        go_wp2_with (first | (at_builtin; refine Stop.mk ?_) | go_in)
        unfold Stop
        refine wpList_append_rd _ rfl (.tmp 27) (.tmp 30) 23 rfl w.heap.size 71 i0 (.agg #[.int .i64 0, .int .u64 0]) 2 16 Try.underlying23 hi0 hz0 hz1 hz2 rfl (by decide) (.slice none 0 0) 0 [] rfl (World.ownsRow_nil _ _ _ _) w.heap.size (some ⟨b, off, none⟩) l.length cap (flatB (l.take l.length)) rfl (by rw [length_flatB, List.length_take]; omega) (HS.out.take l.length) one_flatB (by unfold maxLen; omega) (by omega) (Nat.le_refl _) ?_
        intro v1 w1 hown1 hg1 _
        simp only [Nat.zero_add, List.nil_append] at hown1
        obtain ⟨A1, c1, rfl, _, _, _⟩ := owns_form hown1
        have HO1 : Hid (w1.ownsRow w.heap.size 71 2 (.slice A1 l.length c1) l.length (flatB (l.take l.length))) := hown1
        have B1 : Below w.heap.size w w1 := ⟨hg1.os, hg1.tape, hg1.output, hg1.size, fun i hi => hg1.block i hi (by simp [Value.ownBlock])⟩
        clear hown1 hg1
        go_wp2_with fail
        refine wp_region_held_drew (S := fun w' => True) (by kernel_rfl) trivial (fun hHeld => ?_)
        refine wpAnyH_take (i := 0) (v := (.slice A1 l.length c1)) rfl (by kernel_rfl) (by kernel_rfl) (by kernel_rfl) (fun _ _ _ h => h) (Or.inl ⟨by rfl, ?_⟩) hHeld ?_
        · (intro w hSw; go_simp)
        simp only [Act.put, List.setIfInBounds_toArray, List.set_cons_zero, List.set_cons_succ]
        refine wpAnyH_take (i := 1) (v := (.int .i64 a)) rfl (by kernel_rfl) (by kernel_rfl) (by kernel_rfl) (fun _ _ _ h => h) (Or.inl ⟨by rfl, ?_⟩) hHeld ?_
        · (intro w hSw; go_simp)
        simp only [Act.put, List.setIfInBounds_toArray, List.set_cons_zero, List.set_cons_succ]
        refine wpAnyH_take (i := 2) (v := (.int .u64 n)) rfl (by kernel_rfl) (by kernel_rfl) (by kernel_rfl) (fun _ _ _ h => h) (Or.inl ⟨by rfl, ?_⟩) hHeld ?_
        · (intro w hSw; go_simp)
        simp only [Act.put, List.setIfInBounds_toArray, List.set_cons_zero, List.set_cons_succ]
        refine wpAnyH_take (i := 3) (v := (.agg #[.int .i64 a, .int .u64 n])) rfl (by kernel_rfl) (by kernel_rfl) (by kernel_rfl) (fun _ _ _ h => h) (Or.inl ⟨by rfl, ?_⟩) hHeld ?_
        · (intro w hSw; go_simp)
        simp only [Act.put, List.setIfInBounds_toArray, List.set_cons_zero, List.set_cons_succ]
        refine wpAnyH_take (i := 6) (v := (.slice (some ⟨b, off, none⟩) l.length cap)) rfl (by kernel_rfl) (by kernel_rfl) (by kernel_rfl) (fun _ _ _ h => h) (Or.inl ⟨by rfl, ?_⟩) hHeld ?_
        · (intro w hSw; go_simp)
        simp only [Act.put, List.setIfInBounds_toArray, List.set_cons_zero, List.set_cons_succ]
        refine wpAnyH_take (i := 7) (v := (.int .i64 (l.length : Int))) rfl (by kernel_rfl) (by kernel_rfl) (by kernel_rfl) (fun _ _ _ h => h) (Or.inl ⟨by rfl, ?_⟩) hHeld ?_
        · (intro w hSw; go_simp)
        simp only [Act.put, List.setIfInBounds_toArray, List.set_cons_zero, List.set_cons_succ]
        refine wpAnyH_take (i := 8) (v := (.slice (some ⟨b, off + l.length * 2, none⟩) 0 (cap - l.length))) rfl (by kernel_rfl) (by kernel_rfl) (by kernel_rfl) (fun _ _ _ h => h) (Or.inl ⟨by rfl, ?_⟩) hHeld ?_
        · (intro w hSw; go_simp)
        simp only [Act.put, List.setIfInBounds_toArray, List.set_cons_zero, List.set_cons_succ]
        refine wpAnyH_ready (rs := [4]) (by kernel_rfl) (by simp) ?_
        refine AllReadyH.cons rfl (fun K0 hK0 => ?_) AllReadyH.nil
        go_simp
        have hba := below_drewN (below_al (below_0 w1) (.cells #[.int .i64 a, .int .u64 n] 71)) 1
        have NB : Hid (Blk ((w1.alloc (.cells #[.int .i64 a, .int .u64 n] 71)).drewN 1) w1.heap.size 71 #[.int .i64 a, .int .u64 n]) := Blk.new w1 _ _
        have HO2 : Hid (((w1.alloc (.cells #[.int .i64 a, .int .u64 n] 71)).drewN 1).ownsRow w.heap.size 71 2 (.slice A1 l.length c1) l.length (flatB (l.take l.length))) := (HO1.out.alloc _).drew
        have B2 := Below.two B1 hba
        have hw : (w1.alloc (.cells #[.int .i64 a, .int .u64 n] 71)).drewN 1 = (w1.alloc (.cells #[.int .i64 a, .int .u64 n] 71)).drew := rfl
        rw [hw] at NB HO2 B2 hba
        have zz2 := NB.out.lt
        clear hw hba
        generalize (w1.alloc (.cells #[.int .i64 a, .int .u64 n] 71)).drew = w2 at *
        refine hK0.out _ _ trivial (fun hHeld => ?_)
        clear hK0 K0
        try simp only [Act.put, List.getElem_toArray, List.getElem_cons_succ, List.getElem_cons_zero, List.setIfInBounds_toArray, List.set_cons_zero, List.set_cons_succ]
        refine wpAnyH_ready (rs := [5]) (by kernel_rfl) (by simp) ?_
        refine AllReadyH.cons rfl (fun K0 hK0 => ?_) AllReadyH.nil
        refine step_append_rd rfl (.tmp 62) (.tmp 66) 23 rfl w.heap.size 71 i0 (.agg #[.int .i64 0, .int .u64 0]) 2 16 Try.underlying23 hi0 hz0 hz1 hz2 rfl (by decide) (.slice A1 l.length c1) l.length _ rfl HO2.out (w1.heap.size + 1) (some ⟨w1.heap.size, 0, none⟩) 1 1 [.int .i64 a, .int .u64 n] rfl (by simp) (rd_blk NB.out (by omega)) (by intro u hu; simp at hu; rcases hu with rfl | rfl <;> rfl) (by unfold maxLen; omega) (by omega) (by have := B2.size; omega) ?_
        intro A3 c3 w3 hown3 hg3
        have HO3 : Hid (w3.ownsRow w.heap.size 71 2 (.slice A3 (l.length + 1) c3) (l.length + 1) (flatB (l.take l.length ++ [(a, n)]))) := by show World.ownsRow _ _ _ _ _ _ _; rw [flatB_append, flatB_one]; exact hown3
        have B3 : Below w.heap.size w w3 := B2.grown hg3 B2.size (fun q e => own_base2 HO2.out q e)
        clear hown3 hg3
        refine hK0.out _ _ trivial (fun hHeld => ?_)
        clear hK0 K0
        try simp only [Act.put, List.getElem_toArray, List.getElem_cons_succ, List.getElem_cons_zero, List.setIfInBounds_toArray, List.set_cons_zero, List.set_cons_succ]
        refine wpAnyH_ready (rs := [9]) (by kernel_rfl) (by simp) ?_
        refine AllReadyH.cons rfl (fun K0 hK0 => ?_) AllReadyH.nil
        refine step_append_rd rfl (.tmp 67) (.tmp 70) 23 rfl w.heap.size 71 i0 (.agg #[.int .i64 0, .int .u64 0]) 2 16 Try.underlying23 hi0 hz0 hz1 hz2 rfl (by decide) (.slice A3 (l.length + 1) c3) (l.length + 1) _ rfl HO3.out w.heap.size (some ⟨b, off + l.length * 2, none⟩) 0 (cap - l.length) (flatB (l.drop l.length)) rfl (by rw [length_flatB]; simp <;> omega) (Rd.below (SDR.out _) B3) one_flatB (by unfold maxLen; omega) (by omega) (by have := B3.size; omega) ?_
        intro A4 c4 w4 hown4 hg4
        have B4 : Below w.heap.size w w4 := B3.grown hg4 B3.size (fun q e => own_base2 HO3.out q e)
        have HO4 := Lib.hid hown4
        clear hown4 hg4
        refine hK0.out _ _ trivial (fun hHeld => ?_)
        clear hK0 K0
        try simp only [Act.put, List.getElem_toArray, List.getElem_cons_succ, List.getElem_cons_zero, List.setIfInBounds_toArray, List.set_cons_zero, List.set_cons_succ]
        refine wpAnyH_take (i := 10) (v := (.slice A4 (l.length + 1 + 0) c4)) rfl (by kernel_rfl) (by kernel_rfl) (by kernel_rfl) (fun _ _ _ h => h) (Or.inl ⟨by rfl, ?_⟩) hHeld ?_
        · (intro w hSw; go_simp)
        simp only [Act.put, List.getElem_toArray, List.getElem_cons_succ, List.getElem_cons_zero, List.setIfInBounds_toArray, List.set_cons_zero, List.set_cons_succ]
        refine wpAnyH_done (by kernel_rfl) ?_ _
        go_wp2_with fail
        go_ret
        refine ⟨B4, .slice A4 (l.length + 1 + 0) c4, rfl, ?_⟩
        have h9 := HO4.out
        rw [← flatB_append] at h9
        rw [HP.out]
        exact rdB_own (n := l.length + 1 + 0) (by (try have := HLL.out); simp only [List.length_append, List.length_take, List.length_drop, List.length_cons, List.length_nil]; omega) h9
end Go.Proofs.Ytopddcabaiicgaa

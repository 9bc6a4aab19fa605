/-
  The laws' Few of a sketch, and One.
-/
import Derived.Test.YtoffmclbnobllaaGreatDoorCkFew
namespace Go.Proofs.YtoffmclbnobllaaGreatDoor
open Go.RowKit
set_option linter.unusedVariables false
set_option linter.unusedSimpArgs false
theorem Blk.set10A {w : World} {g : Nat} {t : TypeId} {a0 a1 a2 a3 a4 a5 a6 a7 a8 a9 b0 b1 b2 b3 b4 b5 b6 b7 b8 b9 : Value} (h : Blk w g t #[a0, a1, a2, a3, a4, a5, a6, a7, a8, a9]) : Blk (World.setCell (World.setCell (World.setCell (World.setCell (World.setCell (World.setCell (World.setCell (World.setCell (World.setCell (World.setCell w ⟨g, 0, none⟩ b0) ⟨g, 1, none⟩ b1) ⟨g, 2, none⟩ b2) ⟨g, 3, none⟩ b3) ⟨g, 4, none⟩ b4) ⟨g, 5, none⟩ b5) ⟨g, 6, none⟩ b6) ⟨g, 7, none⟩ b7) ⟨g, 8, none⟩ b8) ⟨g, 9, none⟩ b9) g t #[b0, b1, b2, b3, b4, b5, b6, b7, b8, b9] := by
  have := ((((((((((h.set_ 0 b0).set_ 1 b1).set_ 2 b2).set_ 3 b3).set_ 4 b4).set_ 5 b5).set_ 6 b6).set_ 7 b7).set_ 8 b8).set_ 9 b9)
  simpa using this
theorem blk_far10 {w : World} {q g : Nat} {t : TypeId} {cs : Array Value} (h : Blk w q t cs) (hq : q ≠ g) (b0 b1 b2 b3 b4 b5 b6 b7 b8 b9 : Value) : Blk (World.setCell (World.setCell (World.setCell (World.setCell (World.setCell (World.setCell (World.setCell (World.setCell (World.setCell (World.setCell w ⟨g, 0, none⟩ b0) ⟨g, 1, none⟩ b1) ⟨g, 2, none⟩ b2) ⟨g, 3, none⟩ b3) ⟨g, 4, none⟩ b4) ⟨g, 5, none⟩ b5) ⟨g, 6, none⟩ b6) ⟨g, 7, none⟩ b7) ⟨g, 8, none⟩ b8) ⟨g, 9, none⟩ b9) q t cs := ((((((((((h.far hq _).far hq _).far hq _).far hq _).far hq _).far hq _).far hq _).far hq _).far hq _).far hq _)
theorem below_setA10 {w a : World} {B g : Nat} (h : Below B a w) (hg : B ≤ g) (b0 b1 b2 b3 b4 b5 b6 b7 b8 b9 : Value) : Below B a (World.setCell (World.setCell (World.setCell (World.setCell (World.setCell (World.setCell (World.setCell (World.setCell (World.setCell (World.setCell w ⟨g, 0, none⟩ b0) ⟨g, 1, none⟩ b1) ⟨g, 2, none⟩ b2) ⟨g, 3, none⟩ b3) ⟨g, 4, none⟩ b4) ⟨g, 5, none⟩ b5) ⟨g, 6, none⟩ b6) ⟨g, 7, none⟩ b7) ⟨g, 8, none⟩ b8) ⟨g, 9, none⟩ b9) := ((((((((((h.setCell hg _).setCell hg _).setCell hg _).setCell hg _).setCell hg _).setCell hg _).setCell hg _).setCell hg _).setCell hg _).setCell hg _)
theorem rd_setA10 {w : World} {B g : Nat} {A : Option Addr} {xs : List Value} (h : Rd w B A xs) (hne : ∀ ad, A = some ad → ad.block ≠ g) (b0 b1 b2 b3 b4 b5 b6 b7 b8 b9 : Value) : Rd (World.setCell (World.setCell (World.setCell (World.setCell (World.setCell (World.setCell (World.setCell (World.setCell (World.setCell (World.setCell w ⟨g, 0, none⟩ b0) ⟨g, 1, none⟩ b1) ⟨g, 2, none⟩ b2) ⟨g, 3, none⟩ b3) ⟨g, 4, none⟩ b4) ⟨g, 5, none⟩ b5) ⟨g, 6, none⟩ b6) ⟨g, 7, none⟩ b7) ⟨g, 8, none⟩ b8) ⟨g, 9, none⟩ b9) B A xs := (rd_set (rd_set (rd_set (rd_set (rd_set (rd_set (rd_set (rd_set (rd_set (rd_set h hne) hne) hne) hne) hne) hne) hne) hne) hne) hne)
theorem size_setA10 {w : World} {g : Nat} (b0 b1 b2 b3 b4 b5 b6 b7 b8 b9 : Value) : ((World.setCell (World.setCell (World.setCell (World.setCell (World.setCell (World.setCell (World.setCell (World.setCell (World.setCell (World.setCell w ⟨g, 0, none⟩ b0) ⟨g, 1, none⟩ b1) ⟨g, 2, none⟩ b2) ⟨g, 3, none⟩ b3) ⟨g, 4, none⟩ b4) ⟨g, 5, none⟩ b5) ⟨g, 6, none⟩ b6) ⟨g, 7, none⟩ b7) ⟨g, 8, none⟩ b8) ⟨g, 9, none⟩ b9)).heap.size = w.heap.size := by simp
theorem Blk.set12A {w : World} {g : Nat} {t : TypeId} {a0 a1 a2 a3 a4 a5 a6 a7 a8 a9 a10 a11 b0 b1 b2 b3 b4 b5 b6 b7 b8 b9 b10 b11 : Value} (h : Blk w g t #[a0, a1, a2, a3, a4, a5, a6, a7, a8, a9, a10, a11]) : Blk (World.setCell (World.setCell (World.setCell (World.setCell (World.setCell (World.setCell (World.setCell (World.setCell (World.setCell (World.setCell (World.setCell (World.setCell w ⟨g, 0, none⟩ b0) ⟨g, 1, none⟩ b1) ⟨g, 2, none⟩ b2) ⟨g, 3, none⟩ b3) ⟨g, 4, none⟩ b4) ⟨g, 5, none⟩ b5) ⟨g, 6, none⟩ b6) ⟨g, 7, none⟩ b7) ⟨g, 8, none⟩ b8) ⟨g, 9, none⟩ b9) ⟨g, 10, none⟩ b10) ⟨g, 11, none⟩ b11) g t #[b0, b1, b2, b3, b4, b5, b6, b7, b8, b9, b10, b11] := by
  have := ((((((((((((h.set_ 0 b0).set_ 1 b1).set_ 2 b2).set_ 3 b3).set_ 4 b4).set_ 5 b5).set_ 6 b6).set_ 7 b7).set_ 8 b8).set_ 9 b9).set_ 10 b10).set_ 11 b11)
  simpa using this
theorem blk_far12 {w : World} {q g : Nat} {t : TypeId} {cs : Array Value} (h : Blk w q t cs) (hq : q ≠ g) (b0 b1 b2 b3 b4 b5 b6 b7 b8 b9 b10 b11 : Value) : Blk (World.setCell (World.setCell (World.setCell (World.setCell (World.setCell (World.setCell (World.setCell (World.setCell (World.setCell (World.setCell (World.setCell (World.setCell w ⟨g, 0, none⟩ b0) ⟨g, 1, none⟩ b1) ⟨g, 2, none⟩ b2) ⟨g, 3, none⟩ b3) ⟨g, 4, none⟩ b4) ⟨g, 5, none⟩ b5) ⟨g, 6, none⟩ b6) ⟨g, 7, none⟩ b7) ⟨g, 8, none⟩ b8) ⟨g, 9, none⟩ b9) ⟨g, 10, none⟩ b10) ⟨g, 11, none⟩ b11) q t cs := ((((((((((((h.far hq _).far hq _).far hq _).far hq _).far hq _).far hq _).far hq _).far hq _).far hq _).far hq _).far hq _).far hq _)
theorem below_setA12 {w a : World} {B g : Nat} (h : Below B a w) (hg : B ≤ g) (b0 b1 b2 b3 b4 b5 b6 b7 b8 b9 b10 b11 : Value) : Below B a (World.setCell (World.setCell (World.setCell (World.setCell (World.setCell (World.setCell (World.setCell (World.setCell (World.setCell (World.setCell (World.setCell (World.setCell w ⟨g, 0, none⟩ b0) ⟨g, 1, none⟩ b1) ⟨g, 2, none⟩ b2) ⟨g, 3, none⟩ b3) ⟨g, 4, none⟩ b4) ⟨g, 5, none⟩ b5) ⟨g, 6, none⟩ b6) ⟨g, 7, none⟩ b7) ⟨g, 8, none⟩ b8) ⟨g, 9, none⟩ b9) ⟨g, 10, none⟩ b10) ⟨g, 11, none⟩ b11) := ((((((((((((h.setCell hg _).setCell hg _).setCell hg _).setCell hg _).setCell hg _).setCell hg _).setCell hg _).setCell hg _).setCell hg _).setCell hg _).setCell hg _).setCell hg _)
theorem rd_setA12 {w : World} {B g : Nat} {A : Option Addr} {xs : List Value} (h : Rd w B A xs) (hne : ∀ ad, A = some ad → ad.block ≠ g) (b0 b1 b2 b3 b4 b5 b6 b7 b8 b9 b10 b11 : Value) : Rd (World.setCell (World.setCell (World.setCell (World.setCell (World.setCell (World.setCell (World.setCell (World.setCell (World.setCell (World.setCell (World.setCell (World.setCell w ⟨g, 0, none⟩ b0) ⟨g, 1, none⟩ b1) ⟨g, 2, none⟩ b2) ⟨g, 3, none⟩ b3) ⟨g, 4, none⟩ b4) ⟨g, 5, none⟩ b5) ⟨g, 6, none⟩ b6) ⟨g, 7, none⟩ b7) ⟨g, 8, none⟩ b8) ⟨g, 9, none⟩ b9) ⟨g, 10, none⟩ b10) ⟨g, 11, none⟩ b11) B A xs := (rd_set (rd_set (rd_set (rd_set (rd_set (rd_set (rd_set (rd_set (rd_set (rd_set (rd_set (rd_set h hne) hne) hne) hne) hne) hne) hne) hne) hne) hne) hne) hne)
theorem size_setA12 {w : World} {g : Nat} (b0 b1 b2 b3 b4 b5 b6 b7 b8 b9 b10 b11 : Value) : ((World.setCell (World.setCell (World.setCell (World.setCell (World.setCell (World.setCell (World.setCell (World.setCell (World.setCell (World.setCell (World.setCell (World.setCell w ⟨g, 0, none⟩ b0) ⟨g, 1, none⟩ b1) ⟨g, 2, none⟩ b2) ⟨g, 3, none⟩ b3) ⟨g, 4, none⟩ b4) ⟨g, 5, none⟩ b5) ⟨g, 6, none⟩ b6) ⟨g, 7, none⟩ b7) ⟨g, 8, none⟩ b8) ⟨g, 9, none⟩ b9) ⟨g, 10, none⟩ b10) ⟨g, 11, none⟩ b11)).heap.size = w.heap.size := by simp
set_option maxRecDepth 100000 in
set_option maxHeartbeats 4000000 in
theorem few_own (A : Option Addr) (l : List Lab) (n cap : Nat) (hk : l.length = min n 10) (hn : n ≤ maxLen) (hs : ∀ x ∈ l, x.1.size ≤ maxLen ∧ x.2.size ≤ maxLen) (w : World) (hS : Lb w w.heap.size A l) :
    Calls Tryz.prog 24 #[.slice A n cap] w fun e w' => (∃ A' c', e = .returned (.slice A' (l.map fewL).length c') ∧ (l.map fewL).length ≤ c' ∧ Lb w' w'.heap.size A' (l.map fewL) ∧ ∀ ad, A' = some ad → w.heap.size ≤ ad.block) ∧ Below w.heap.size w w' := by
  have HS := Lib.hid hS
  have HZ := Lib.hid hs
  have hl10 : l.length ≤ 10 := by omega
  have hln : l.length ≤ n := by omega
  have HK : Hid (l.length < n → l.length = 10) := fun h => by omega
  have hn2 : n ≤ 9223372036854775807 := by unfold maxLen at hn; omega
  obtain ⟨i0, hi0, hz0, hz1, hz2⟩ := info_parts Tryz.infoLab
  clear hS hs hk
  go_enter Tryz.func24, Tryz.ntmps24
  go_wp2_with fail
  go_loopw [3, 4] (fun v i wr => ∃ k : Nat, i = .int .i64 (k : Int) ∧ k ≤ l.length ∧ Hid (wr.ownsRow w.heap.size 65 2 v k (flatL ((l.take k).map fewL))) ∧ Hid (Below w.heap.size w wr)) (fun _ i _ => l.length - (RowKit.intOf i).toNat)
  case atStart => exact ⟨0, rfl, Nat.zero_le _, ⟨by simp [flatL], .inl ⟨rfl, rfl⟩⟩, below_0 _⟩
  case round =>
    obtain ⟨k, rfl, hkl, HO, HB⟩ := hrel
    by_cases h1 : k < l.length
    · have d1 : decide ((k : Int) < (n : Int)) = true := decide_eq_true (by omega)
      have d2 : decide ((k : Int) < 10) = true := decide_eq_true (by omega)
      obtain ⟨A1, c1, rfl⟩ := own_form2 HO.out
      obtain ⟨b, off, rfl, hb, hc⟩ := HS.out.at_ (by omega)
      obtain ⟨c1', c2'⟩ := hc k h1
      have i1 := (HB.out.cell (p := ⟨b, off + k * 2, none⟩) hb).trans c1'
      have i2 := (HB.out.cell (p := ⟨b, off + k * 2 + 1, none⟩) hb).trans c2'
      have hbw : b < wr.heap.size := by have := HB.out.size; omega
      have hi1 : (0 : Int) ≤ (k : Int) := by omega
      have hi2 : (k : Int) < (n : Int) := by omega
      have HTK := Lib.hid (take_map_succ h1)
      have hm : lth l k ∈ l := by simp [lth, h1]
      obtain ⟨z1, z2⟩ := HZ.out _ hm
      clear hc c1' c2' hm
      generalize lth l k = x at *
      obtain ⟨x1, x2⟩ := x
      simp only at i1 i2 z1 z2
      unfold maxLen at z1 z2
      obtain ⟨a1, ha1⟩ : ∃ a : Nat, min x1.size 20 = a := ⟨_, rfl⟩
      obtain ⟨a2, ha2⟩ : ∃ a : Nat, min x2.size 120 = a := ⟨_, rfl⟩
      have m1 : min (x1.size : Int) 20 = (a1 : Int) := by omega
      have m2 : min (x2.size : Int) 120 = (a2 : Int) := by omega
      have l1 : (0 : Int) ≤ (a1 : Int) := by omega
      have l2 : (0 : Int) ≤ (a2 : Int) := by omega
      have l3 : (a1 : Int) ≤ (x1.size : Int) := by omega
      have l4 : (a2 : Int) ≤ (x2.size : Int) := by omega
      have HF : Hid (fewL (x1, x2) = (x1.extract 0 a1, x2.extract 0 a2)) := by show _ = _; rw [← ha1, ← ha2]; rfl
      clear ha1 ha2
      go_wp2_with fail
      refine wp_region_held_drew (S := (fun w' => w'.cell? ⟨b, off + k * 2, none⟩ = some (.string x1) ∧ w'.cell? ⟨b, off + k * 2 + 1, none⟩ = some (.string x2))) (by kernel_rfl) ⟨i1, i2⟩ (fun hHeld => ?_)
      refine wpAnyH_take (i := 0) (v := (.slice A1 k c1)) rfl (by kernel_rfl) (by kernel_rfl) (by kernel_rfl) (fun _ _ _ h => h) (Or.inl ⟨by rfl, ?_⟩) hHeld ?_
      · (intro w hSw; (try dsimp only at hSw); (try obtain ⟨s0, s1⟩ := hSw); go_simp)
      simp only [Act.put, List.setIfInBounds_toArray, List.set_cons_zero, List.set_cons_succ]
      refine wpAnyH_take (i := 1) (v := (.slice (some ⟨b, off, none⟩) n cap)) rfl (by kernel_rfl) (by kernel_rfl) (by kernel_rfl) (fun _ _ _ h => h) (Or.inl ⟨by rfl, ?_⟩) hHeld ?_
      · (intro w hSw; (try dsimp only at hSw); (try obtain ⟨s0, s1⟩ := hSw); go_simp)
      simp only [Act.put, List.setIfInBounds_toArray, List.set_cons_zero, List.set_cons_succ]
      refine wpAnyH_take (i := 2) (v := (.int .i64 (k : Int))) rfl (by kernel_rfl) (by kernel_rfl) (by kernel_rfl) (fun _ _ _ h => h) (Or.inl ⟨by rfl, ?_⟩) hHeld ?_
      · (intro w hSw; (try dsimp only at hSw); (try obtain ⟨s0, s1⟩ := hSw); go_simp)
      simp only [Act.put, List.setIfInBounds_toArray, List.set_cons_zero, List.set_cons_succ]
      refine wpAnyH_take (i := 3) (v := (.pointer (some ⟨b, off + k * 2, none⟩))) rfl (by kernel_rfl) (by kernel_rfl) (by kernel_rfl) (fun _ _ _ h => h) (Or.inl ⟨by rfl, ?_⟩) hHeld ?_
      · (intro w hSw; (try dsimp only at hSw); (try obtain ⟨s0, s1⟩ := hSw); go_simp)
      simp only [Act.put, List.setIfInBounds_toArray, List.set_cons_zero, List.set_cons_succ]
      refine wpAnyH_take (i := 4) (v := (.pointer (some ⟨b, off + k * 2, none⟩))) rfl (by kernel_rfl) (by kernel_rfl) (by kernel_rfl) (fun _ _ _ h => h) (Or.inl ⟨by rfl, ?_⟩) hHeld ?_
      · (intro w hSw; (try dsimp only at hSw); (try obtain ⟨s0, s1⟩ := hSw); go_simp)
      simp only [Act.put, List.setIfInBounds_toArray, List.set_cons_zero, List.set_cons_succ]
      refine wpAnyH_take (i := 5) (v := (.string x1)) rfl (by kernel_rfl) (by kernel_rfl) (by kernel_rfl) (fun _ _ _ h => h) (Or.inl ⟨by rfl, ?_⟩) hHeld ?_
      · (intro w hSw; (try dsimp only at hSw); (try obtain ⟨s0, s1⟩ := hSw); go_simp)
      simp only [Act.put, List.setIfInBounds_toArray, List.set_cons_zero, List.set_cons_succ]
      refine wpAnyH_take (i := 6) (v := (.slice (some ⟨b, off, none⟩) n cap)) rfl (by kernel_rfl) (by kernel_rfl) (by kernel_rfl) (fun _ _ _ h => h) (Or.inl ⟨by rfl, ?_⟩) hHeld ?_
      · (intro w hSw; (try dsimp only at hSw); (try obtain ⟨s0, s1⟩ := hSw); go_simp)
      simp only [Act.put, List.setIfInBounds_toArray, List.set_cons_zero, List.set_cons_succ]
      refine wpAnyH_take (i := 7) (v := (.int .i64 (k : Int))) rfl (by kernel_rfl) (by kernel_rfl) (by kernel_rfl) (fun _ _ _ h => h) (Or.inl ⟨by rfl, ?_⟩) hHeld ?_
      · (intro w hSw; (try dsimp only at hSw); (try obtain ⟨s0, s1⟩ := hSw); go_simp)
      simp only [Act.put, List.setIfInBounds_toArray, List.set_cons_zero, List.set_cons_succ]
      refine wpAnyH_take (i := 8) (v := (.pointer (some ⟨b, off + k * 2, none⟩))) rfl (by kernel_rfl) (by kernel_rfl) (by kernel_rfl) (fun _ _ _ h => h) (Or.inl ⟨by rfl, ?_⟩) hHeld ?_
      · (intro w hSw; (try dsimp only at hSw); (try obtain ⟨s0, s1⟩ := hSw); go_simp)
      simp only [Act.put, List.setIfInBounds_toArray, List.set_cons_zero, List.set_cons_succ]
      refine wpAnyH_take (i := 9) (v := (.pointer (some ⟨b, off + k * 2, none⟩))) rfl (by kernel_rfl) (by kernel_rfl) (by kernel_rfl) (fun _ _ _ h => h) (Or.inl ⟨by rfl, ?_⟩) hHeld ?_
      · (intro w hSw; (try dsimp only at hSw); (try obtain ⟨s0, s1⟩ := hSw); go_simp)
      simp only [Act.put, List.setIfInBounds_toArray, List.set_cons_zero, List.set_cons_succ]
      refine wpAnyH_take (i := 10) (v := (.string x1)) rfl (by kernel_rfl) (by kernel_rfl) (by kernel_rfl) (fun _ _ _ h => h) (Or.inl ⟨by rfl, ?_⟩) hHeld ?_
      · (intro w hSw; (try dsimp only at hSw); (try obtain ⟨s0, s1⟩ := hSw); go_simp)
      simp only [Act.put, List.setIfInBounds_toArray, List.set_cons_zero, List.set_cons_succ]
      refine wpAnyH_take (i := 11) (v := (.int .i64 (x1.size : Int))) rfl (by kernel_rfl) (by kernel_rfl) (by kernel_rfl) (fun _ _ _ h => h) (Or.inl ⟨by rfl, ?_⟩) hHeld ?_
      · (intro w hSw; (try dsimp only at hSw); (try obtain ⟨s0, s1⟩ := hSw); go_simp)
      simp only [Act.put, List.setIfInBounds_toArray, List.set_cons_zero, List.set_cons_succ]
      refine wpAnyH_take (i := 12) (v := (.int .i64 (a1 : Int))) rfl (by kernel_rfl) (by kernel_rfl) (by kernel_rfl) (fun _ _ _ h => h) (Or.inl ⟨by rfl, ?_⟩) hHeld ?_
      · (intro w hSw; (try dsimp only at hSw); (try obtain ⟨s0, s1⟩ := hSw); go_simp)
      simp only [Act.put, List.setIfInBounds_toArray, List.set_cons_zero, List.set_cons_succ]
      refine wpAnyH_take (i := 13) (v := (.string (x1.extract 0 a1))) rfl (by kernel_rfl) (by kernel_rfl) (by kernel_rfl) (fun _ _ _ h => h) (Or.inl ⟨by rfl, ?_⟩) hHeld ?_
      · (intro w hSw; (try dsimp only at hSw); (try obtain ⟨s0, s1⟩ := hSw); go_simp)
      simp only [Act.put, List.setIfInBounds_toArray, List.set_cons_zero, List.set_cons_succ]
      refine wpAnyH_take (i := 14) (v := (.slice (some ⟨b, off, none⟩) n cap)) rfl (by kernel_rfl) (by kernel_rfl) (by kernel_rfl) (fun _ _ _ h => h) (Or.inl ⟨by rfl, ?_⟩) hHeld ?_
      · (intro w hSw; (try dsimp only at hSw); (try obtain ⟨s0, s1⟩ := hSw); go_simp)
      simp only [Act.put, List.setIfInBounds_toArray, List.set_cons_zero, List.set_cons_succ]
      refine wpAnyH_take (i := 15) (v := (.int .i64 (k : Int))) rfl (by kernel_rfl) (by kernel_rfl) (by kernel_rfl) (fun _ _ _ h => h) (Or.inl ⟨by rfl, ?_⟩) hHeld ?_
      · (intro w hSw; (try dsimp only at hSw); (try obtain ⟨s0, s1⟩ := hSw); go_simp)
      simp only [Act.put, List.setIfInBounds_toArray, List.set_cons_zero, List.set_cons_succ]
      refine wpAnyH_take (i := 16) (v := (.pointer (some ⟨b, off + k * 2, none⟩))) rfl (by kernel_rfl) (by kernel_rfl) (by kernel_rfl) (fun _ _ _ h => h) (Or.inl ⟨by rfl, ?_⟩) hHeld ?_
      · (intro w hSw; (try dsimp only at hSw); (try obtain ⟨s0, s1⟩ := hSw); go_simp)
      simp only [Act.put, List.setIfInBounds_toArray, List.set_cons_zero, List.set_cons_succ]
      refine wpAnyH_take (i := 17) (v := (.pointer (some ⟨b, off + k * 2 + 1, none⟩))) rfl (by kernel_rfl) (by kernel_rfl) (by kernel_rfl) (fun _ _ _ h => h) (Or.inl ⟨by rfl, ?_⟩) hHeld ?_
      · (intro w hSw; (try dsimp only at hSw); (try obtain ⟨s0, s1⟩ := hSw); go_simp)
      simp only [Act.put, List.setIfInBounds_toArray, List.set_cons_zero, List.set_cons_succ]
      refine wpAnyH_take (i := 18) (v := (.string x2)) rfl (by kernel_rfl) (by kernel_rfl) (by kernel_rfl) (fun _ _ _ h => h) (Or.inl ⟨by rfl, ?_⟩) hHeld ?_
      · (intro w hSw; (try dsimp only at hSw); (try obtain ⟨s0, s1⟩ := hSw); go_simp)
      simp only [Act.put, List.setIfInBounds_toArray, List.set_cons_zero, List.set_cons_succ]
      refine wpAnyH_take (i := 19) (v := (.slice (some ⟨b, off, none⟩) n cap)) rfl (by kernel_rfl) (by kernel_rfl) (by kernel_rfl) (fun _ _ _ h => h) (Or.inl ⟨by rfl, ?_⟩) hHeld ?_
      · (intro w hSw; (try dsimp only at hSw); (try obtain ⟨s0, s1⟩ := hSw); go_simp)
      simp only [Act.put, List.setIfInBounds_toArray, List.set_cons_zero, List.set_cons_succ]
      refine wpAnyH_take (i := 20) (v := (.int .i64 (k : Int))) rfl (by kernel_rfl) (by kernel_rfl) (by kernel_rfl) (fun _ _ _ h => h) (Or.inl ⟨by rfl, ?_⟩) hHeld ?_
      · (intro w hSw; (try dsimp only at hSw); (try obtain ⟨s0, s1⟩ := hSw); go_simp)
      simp only [Act.put, List.setIfInBounds_toArray, List.set_cons_zero, List.set_cons_succ]
      refine wpAnyH_take (i := 21) (v := (.pointer (some ⟨b, off + k * 2, none⟩))) rfl (by kernel_rfl) (by kernel_rfl) (by kernel_rfl) (fun _ _ _ h => h) (Or.inl ⟨by rfl, ?_⟩) hHeld ?_
      · (intro w hSw; (try dsimp only at hSw); (try obtain ⟨s0, s1⟩ := hSw); go_simp)
      simp only [Act.put, List.setIfInBounds_toArray, List.set_cons_zero, List.set_cons_succ]
      refine wpAnyH_take (i := 22) (v := (.pointer (some ⟨b, off + k * 2 + 1, none⟩))) rfl (by kernel_rfl) (by kernel_rfl) (by kernel_rfl) (fun _ _ _ h => h) (Or.inl ⟨by rfl, ?_⟩) hHeld ?_
      · (intro w hSw; (try dsimp only at hSw); (try obtain ⟨s0, s1⟩ := hSw); go_simp)
      simp only [Act.put, List.setIfInBounds_toArray, List.set_cons_zero, List.set_cons_succ]
      refine wpAnyH_take (i := 23) (v := (.string x2)) rfl (by kernel_rfl) (by kernel_rfl) (by kernel_rfl) (fun _ _ _ h => h) (Or.inl ⟨by rfl, ?_⟩) hHeld ?_
      · (intro w hSw; (try dsimp only at hSw); (try obtain ⟨s0, s1⟩ := hSw); go_simp)
      simp only [Act.put, List.setIfInBounds_toArray, List.set_cons_zero, List.set_cons_succ]
      refine wpAnyH_take (i := 24) (v := (.int .i64 (x2.size : Int))) rfl (by kernel_rfl) (by kernel_rfl) (by kernel_rfl) (fun _ _ _ h => h) (Or.inl ⟨by rfl, ?_⟩) hHeld ?_
      · (intro w hSw; (try dsimp only at hSw); (try obtain ⟨s0, s1⟩ := hSw); go_simp)
      simp only [Act.put, List.setIfInBounds_toArray, List.set_cons_zero, List.set_cons_succ]
      refine wpAnyH_take (i := 25) (v := (.int .i64 (a2 : Int))) rfl (by kernel_rfl) (by kernel_rfl) (by kernel_rfl) (fun _ _ _ h => h) (Or.inl ⟨by rfl, ?_⟩) hHeld ?_
      · (intro w hSw; (try dsimp only at hSw); (try obtain ⟨s0, s1⟩ := hSw); go_simp)
      simp only [Act.put, List.setIfInBounds_toArray, List.set_cons_zero, List.set_cons_succ]
      refine wpAnyH_take (i := 26) (v := (.string (x2.extract 0 a2))) rfl (by kernel_rfl) (by kernel_rfl) (by kernel_rfl) (fun _ _ _ h => h) (Or.inl ⟨by rfl, ?_⟩) hHeld ?_
      · (intro w hSw; (try dsimp only at hSw); (try obtain ⟨s0, s1⟩ := hSw); go_simp)
      simp only [Act.put, List.setIfInBounds_toArray, List.set_cons_zero, List.set_cons_succ]
      refine wpAnyH_take (i := 27) (v := (.agg #[.string (x1.extract 0 a1), .string (x2.extract 0 a2)])) rfl (by kernel_rfl) (by kernel_rfl) (by kernel_rfl) (fun _ _ _ h => h) (Or.inl ⟨by rfl, ?_⟩) hHeld ?_
      · (intro w hSw; (try dsimp only at hSw); (try obtain ⟨s0, s1⟩ := hSw); go_simp)
      simp only [Act.put, List.setIfInBounds_toArray, List.set_cons_zero, List.set_cons_succ]
      refine wpAnyH_ready (rs := [28]) (by kernel_rfl) (by simp) ?_
      refine AllReadyH.cons rfl (fun K hK => ?_) AllReadyH.nil
      go_simp
      have hba : Below wr.heap.size wr ((wr.alloc (.cells #[.string (x1.extract 0 a1), .string (x2.extract 0 a2)] 65)).drew) := below_drewN (below_al (below_0 wr) (.cells #[.string (x1.extract 0 a1), .string (x2.extract 0 a2)] 65)) 1
      have NB : Hid (Blk ((wr.alloc (.cells #[.string (x1.extract 0 a1), .string (x2.extract 0 a2)] 65)).drew) wr.heap.size 65 #[.string (x1.extract 0 a1), .string (x2.extract 0 a2)]) := (Blk.new wr 65 #[.string (x1.extract 0 a1), .string (x2.extract 0 a2)]).drew
      have HO1 : Hid (((wr.alloc (.cells #[.string (x1.extract 0 a1), .string (x2.extract 0 a2)] 65)).drew).ownsRow w.heap.size 65 2 (.slice A1 k c1) k (flatL ((l.take k).map fewL))) := (World.ownsRow.alloc HO.out _)
      have BL1 : Hid (Below w.heap.size w ((wr.alloc (.cells #[.string (x1.extract 0 a1), .string (x2.extract 0 a2)] 65)).drew)) := Below.trans HB.out (hba.mono (by have := HB.out.size; omega))
      have j1 : ((wr.alloc (.cells #[.string (x1.extract 0 a1), .string (x2.extract 0 a2)] 65)).drew).cell? ⟨b, off + k * 2, none⟩ = some (.string x1) := (hba.cell (p := ⟨b, off + k * 2, none⟩) hbw).trans i1
      have j2 : ((wr.alloc (.cells #[.string (x1.extract 0 a1), .string (x2.extract 0 a2)] 65)).drew).cell? ⟨b, off + k * 2 + 1, none⟩ = some (.string x2) := (hba.cell (p := ⟨b, off + k * 2 + 1, none⟩) hbw).trans i2
      have hsz := hba.size
      clear hba i1 i2 HO hHeld
      generalize (wr.alloc (.cells #[.string (x1.extract 0 a1), .string (x2.extract 0 a2)] 65)).drew = W2 at *
      refine hK.out _ _ ⟨j1, j2⟩ (fun hHeld => ?_)
      clear hK K
      try simp only [Act.put, List.getElem_toArray, List.getElem_cons_succ, List.getElem_cons_zero, List.setIfInBounds_toArray, List.set_cons_zero, List.set_cons_succ]
      refine wpAnyH_ready (rs := [29]) (by kernel_rfl) (by simp) ?_
      refine AllReadyH.cons rfl (fun K hK => ?_) AllReadyH.nil
      refine step_append_rl rfl (.tmp 15) (.tmp 43) 36 rfl w.heap.size 65 i0 (.agg #[.string ⟨#[]⟩, .string ⟨#[]⟩]) 2 32 Tryz.underlying36 hi0 hz0 hz1 hz2 rfl (by decide) (.slice A1 k c1) k _ rfl HO1.out (wr.heap.size + 1) (some ⟨wr.heap.size, 0, none⟩) 1 1 [.string (x1.extract 0 a1), .string (x2.extract 0 a2)] rfl (by simp) (rd_lab (cs := [.string (x1.extract 0 a1), .string (x2.extract 0 a2)]) NB.out) (by intro u hu; simp at hu; rcases hu with rfl | rfl <;> rfl) (by unfold maxLen; omega) (by omega) (by have := BL1.out.size; omega) ?_
      intro A3 c3 W3 hown3 hg3
      have hrow := own_row HO1.out
      have BL3 : Hid (Below w.heap.size w W3) := BL1.out.grown hg3 (by have := BL1.out.size; omega) (fun r hr => (hrow r hr).1)
      have bl3 : Below w.heap.size W2 W3 := (Below.refl _ _).grown hg3 (by have := BL1.out.size; omega) (fun r hr => (hrow r hr).1)
      have k1 : W3.cell? ⟨b, off + k * 2, none⟩ = some (.string x1) := (bl3.cell (p := ⟨b, off + k * 2, none⟩) hb).trans j1
      have k2 : W3.cell? ⟨b, off + k * 2 + 1, none⟩ = some (.string x2) := (bl3.cell (p := ⟨b, off + k * 2 + 1, none⟩) hb).trans j2
      have HO3 : Hid (W3.ownsRow w.heap.size 65 2 (.slice A3 (k + 1) c3) (k + 1) (flatL ((l.take (k + 1)).map fewL))) := by
        show World.ownsRow _ _ _ _ _ _ _; rw [HTK.out, HF.out, flatL_snoc]; exact hown3
      clear hown3 hg3 hrow HO1 NB BL1 bl3 j1 j2 hHeld
      refine hK.out _ _ ⟨k1, k2⟩ (fun hHeld => ?_)
      clear hK K
      try simp only [Act.put, List.getElem_toArray, List.getElem_cons_succ, List.getElem_cons_zero, List.setIfInBounds_toArray, List.set_cons_zero, List.set_cons_succ]
      refine wpAnyH_ready (rs := [30]) (by kernel_rfl) (by simp) ?_
      refine AllReadyH.cons rfl (fun K hK => ?_) AllReadyH.nil
      go_simp
      refine hK.out _ _ ⟨k1, k2⟩ (fun hHeld => ?_)
      clear hK K
      try simp only [Act.put, List.getElem_toArray, List.getElem_cons_succ, List.getElem_cons_zero, List.setIfInBounds_toArray, List.set_cons_zero, List.set_cons_succ]
      refine wpAnyH_done (by kernel_rfl) ?_ _
      go_wp2_with fail
      go_roundw
      case rel => exact ⟨k + 1, by go_num, by omega, HO3.out, BL3.out⟩
      case measure => simp [RowKit.intOf]; omega
    · have hkk : k = l.length := by omega
      subst hkk
      have HE : Hid (wr.ownsRow w.heap.size 65 2 u3 l.length (flatL (l.map fewL))) := by
        have := HO.out; rwa [List.take_length] at this
      obtain ⟨A1, c1, rfl⟩ := own_form2 HE.out
      have hcp := own_cap HE.out
      have hrd := Lib.hid (Rd.own HE.out)
      have had : Hid (∀ ad, A1 = some ad → w.heap.size ≤ ad.block) := by
        obtain ⟨A2, c2, e, _, _, h⟩ := own_rd HE.out
        injection e with e1 e2 e3
        subst e1
        exact h
      clear HO HE
      have hfin : (∃ A' c', Ending.returned (.slice A1 l.length c1) = .returned (.slice A' (l.map fewL).length c') ∧ (l.map fewL).length ≤ c' ∧ Lb wr wr.heap.size A' (l.map fewL) ∧ ∀ ad, A' = some ad → w.heap.size ≤ ad.block) ∧ Below w.heap.size w wr := by
        rw [List.length_map]; exact ⟨⟨A1, c1, rfl, hcp, hrd.out, had.out⟩, HB.out⟩
      have HFIN := Lib.hid hfin
      clear hfin hrd had HB HS HZ
      by_cases h2 : l.length < n
      · have h10 := HK.out h2
        clear HK
        generalize l.length = m at *
        have d1 : decide ((m : Int) < (n : Int)) = true := decide_eq_true (by omega)
        have d2 : decide ((m : Int) < 10) = false := by simp; omega
        have d2' : decide (m < 10) = false := by simp; omega
        clear h10
        go_wp2_with fail
        go_ret
        exact HFIN.out
      · have d1 : decide ((l.length : Int) < (n : Int)) = false := by simp; omega
        have d1' : decide (l.length < n) = false := by simp; omega
        go_wp2_with fail
        go_ret
        exact HFIN.out
set_option maxRecDepth 100000 in
set_option maxHeartbeats 8000000 in
theorem few10_any (kind level b r c f : Int) (s : ByteArray) (ea ca ga : Option Addr) (en ec cn cc gn gc ke kr kc kg : Nat) (h1 : ke = min en 70) (h2 : kr = min s.size 260) (h3 : kc = min cn 200) (h4 : kg = min gn 300) (l1 : en ≤ ec) (l2 : cn ≤ cc) (l3 : gn ≤ gc) (w : World) :
    Calls Tryz.prog 25 #[.agg #[.int .i64 kind, .int .i64 level, .slice ea en ec, .int .i64 b, .string s, .int .i64 r, .int .i64 c, .slice ca cn cc, .int .i64 f, .slice ga gn gc]] w fun e w' => e = .returned (.agg #[.int .i64 kind, .int .i64 level, .slice ea ke ec, .int .i64 b, .string (s.extract 0 kr), .int .i64 r, .int .i64 c, .slice ca kc cc, .int .i64 f, .slice ga kg gc]) ∧ Below w.heap.size w w' := by
  have F6 := Lib.hid (fun w1 => few6_any ea en ec ke h1 l1 w1)
  have F7 := Lib.hid (fun w1 => few7_any b s kr h2 w1)
  have F8 := Lib.hid (fun w1 => few8_any r c ca cn cc kc h3 l2 w1)
  have F9 := Lib.hid (fun w1 => few9_any f ga gn gc kg h4 l3 w1)
  clear h1 h2 h3 h4 l1 l2 l3
  have HB := Lib.hid (below_al (below_al (below_0 w) (.cells #[.int .i64 kind, .int .i64 level, .slice ea en ec, .int .i64 b, .string s, .int .i64 r, .int .i64 c, .slice ca cn cc, .int .i64 f, .slice ga gn gc] 48)) (.cells #[.int .i64 0, .int .i64 0, .slice none 0 0, .int .i64 0, .string ⟨#[]⟩, .int .i64 0, .int .i64 0, .slice none 0 0, .int .i64 0, .slice none 0 0] 48))
  have XB := Lib.hid ((Blk.new w 48 #[.int .i64 kind, .int .i64 level, .slice ea en ec, .int .i64 b, .string s, .int .i64 r, .int .i64 c, .slice ca cn cc, .int .i64 f, .slice ga gn gc]).alloc (.cells #[.int .i64 0, .int .i64 0, .slice none 0 0, .int .i64 0, .string ⟨#[]⟩, .int .i64 0, .int .i64 0, .slice none 0 0, .int .i64 0, .slice none 0 0] 48))
  have YB : Hid (Blk (World.alloc (w.alloc (.cells #[.int .i64 kind, .int .i64 level, .slice ea en ec, .int .i64 b, .string s, .int .i64 r, .int .i64 c, .slice ca cn cc, .int .i64 f, .slice ga gn gc] 48)) (.cells #[.int .i64 0, .int .i64 0, .slice none 0 0, .int .i64 0, .string ⟨#[]⟩, .int .i64 0, .int .i64 0, .slice none 0 0, .int .i64 0, .slice none 0 0] 48)) (w.heap.size + 1) 48 #[.int .i64 0, .int .i64 0, .slice none 0 0, .int .i64 0, .string ⟨#[]⟩, .int .i64 0, .int .i64 0, .slice none 0 0, .int .i64 0, .slice none 0 0]) := by
    have h : (w.alloc (.cells #[.int .i64 kind, .int .i64 level, .slice ea en ec, .int .i64 b, .string s, .int .i64 r, .int .i64 c, .slice ca cn cc, .int .i64 f, .slice ga gn gc] 48)).heap.size = w.heap.size + 1 := by simp
    have := Blk.new (w.alloc (.cells #[.int .i64 kind, .int .i64 level, .slice ea en ec, .int .i64 b, .string s, .int .i64 r, .int .i64 c, .slice ca cn cc, .int .i64 f, .slice ga gn gc] 48)) 48 #[.int .i64 0, .int .i64 0, .slice none 0 0, .int .i64 0, .string ⟨#[]⟩, .int .i64 0, .int .i64 0, .slice none 0 0, .int .i64 0, .slice none 0 0]
    rw [h] at this
    exact this
  go_enter Tryz.func25, Tryz.ntmps25
  go_wp2_with fail
  generalize (World.alloc (w.alloc (.cells #[.int .i64 kind, .int .i64 level, .slice ea en ec, .int .i64 b, .string s, .int .i64 r, .int .i64 c, .slice ca cn cc, .int .i64 f, .slice ga gn gc] 48)) (.cells #[.int .i64 0, .int .i64 0, .slice none 0 0, .int .i64 0, .string ⟨#[]⟩, .int .i64 0, .int .i64 0, .slice none 0 0, .int .i64 0, .slice none 0 0] 48)) = V at *
  have x0 := XB.out.cell 0
  have x1 := XB.out.cell 1
  have x2 := XB.out.cell 2
  have x3 := XB.out.cell 3
  have x4 := XB.out.cell 4
  have x5 := XB.out.cell 5
  have x6 := XB.out.cell 6
  have x7 := XB.out.cell 7
  have x8 := XB.out.cell 8
  have x9 := XB.out.cell 9
  simp only [List.getElem?_toArray, List.getElem?_cons_zero, List.getElem?_cons_succ] at x0 x1 x2 x3 x4 x5 x6 x7 x8 x9
  refine wp_region_held_drew (S := fun w9 => w9.cell? ⟨w.heap.size, 0, none⟩ = some (.int .i64 kind) ∧ w9.cell? ⟨w.heap.size, 1, none⟩ = some (.int .i64 level) ∧ w9.cell? ⟨w.heap.size, 2, none⟩ = some (.slice ea en ec) ∧ w9.cell? ⟨w.heap.size, 3, none⟩ = some (.int .i64 b) ∧ w9.cell? ⟨w.heap.size, 4, none⟩ = some (.string s) ∧ w9.cell? ⟨w.heap.size, 5, none⟩ = some (.int .i64 r) ∧ w9.cell? ⟨w.heap.size, 6, none⟩ = some (.int .i64 c) ∧ w9.cell? ⟨w.heap.size, 7, none⟩ = some (.slice ca cn cc) ∧ w9.cell? ⟨w.heap.size, 8, none⟩ = some (.int .i64 f) ∧ w9.cell? ⟨w.heap.size, 9, none⟩ = some (.slice ga gn gc)) (by kernel_rfl) ⟨x0, x1, x2, x3, x4, x5, x6, x7, x8, x9⟩ (fun hHeld => ?_)
  have X0 := Lib.hid XB.out.drew
  have Y0 := Lib.hid YB.out.drew
  have H0 := Lib.hid HB.out.drew
  clear XB YB HB x0 x1 x2 x3 x4 x5 x6 x7 x8 x9
  generalize V.drew = w0 at *
  refine wpAnyH_take (i := 0) (v := (.pointer (some ⟨w.heap.size, 0, none⟩))) rfl (by kernel_rfl) (by kernel_rfl) (by kernel_rfl) (fun _ _ _ h => h) (Or.inl ⟨by rfl, ?_⟩) hHeld ?_
  · (intro w9 hSw; (try dsimp only at hSw); obtain ⟨s0, s1, s2, s3, s4, s5, s6, s7, s8, s9⟩ := hSw; go_simp)
  simp only [Act.put, List.setIfInBounds_toArray, List.set_cons_zero, List.set_cons_succ]
  refine wpAnyH_take (i := 1) (v := (.int .i64 kind)) rfl (by kernel_rfl) (by kernel_rfl) (by kernel_rfl) (fun _ _ _ h => h) (Or.inl ⟨by rfl, ?_⟩) hHeld ?_
  · (intro w9 hSw; (try dsimp only at hSw); obtain ⟨s0, s1, s2, s3, s4, s5, s6, s7, s8, s9⟩ := hSw; go_simp)
  simp only [Act.put, List.setIfInBounds_toArray, List.set_cons_zero, List.set_cons_succ]
  refine wpAnyH_take (i := 2) (v := (.pointer (some ⟨w.heap.size, 1, none⟩))) rfl (by kernel_rfl) (by kernel_rfl) (by kernel_rfl) (fun _ _ _ h => h) (Or.inl ⟨by rfl, ?_⟩) hHeld ?_
  · (intro w9 hSw; (try dsimp only at hSw); obtain ⟨s0, s1, s2, s3, s4, s5, s6, s7, s8, s9⟩ := hSw; go_simp)
  simp only [Act.put, List.setIfInBounds_toArray, List.set_cons_zero, List.set_cons_succ]
  refine wpAnyH_take (i := 3) (v := (.int .i64 level)) rfl (by kernel_rfl) (by kernel_rfl) (by kernel_rfl) (fun _ _ _ h => h) (Or.inl ⟨by rfl, ?_⟩) hHeld ?_
  · (intro w9 hSw; (try dsimp only at hSw); obtain ⟨s0, s1, s2, s3, s4, s5, s6, s7, s8, s9⟩ := hSw; go_simp)
  simp only [Act.put, List.setIfInBounds_toArray, List.set_cons_zero, List.set_cons_succ]
  refine wpAnyH_take (i := 4) (v := (.pointer (some ⟨w.heap.size, 2, none⟩))) rfl (by kernel_rfl) (by kernel_rfl) (by kernel_rfl) (fun _ _ _ h => h) (Or.inl ⟨by rfl, ?_⟩) hHeld ?_
  · (intro w9 hSw; (try dsimp only at hSw); obtain ⟨s0, s1, s2, s3, s4, s5, s6, s7, s8, s9⟩ := hSw; go_simp)
  simp only [Act.put, List.setIfInBounds_toArray, List.set_cons_zero, List.set_cons_succ]
  refine wpAnyH_take (i := 5) (v := (.agg #[.slice ea en ec])) rfl (by kernel_rfl) (by kernel_rfl) (by kernel_rfl) (fun _ _ _ h => h) (Or.inl ⟨by rfl, ?_⟩) hHeld ?_
  · (intro w9 hSw; (try dsimp only at hSw); obtain ⟨s0, s1, s2, s3, s4, s5, s6, s7, s8, s9⟩ := hSw; go_simp)
  simp only [Act.put, List.setIfInBounds_toArray, List.set_cons_zero, List.set_cons_succ]
  refine wpAnyH_take (i := 7) (v := (.pointer (some ⟨w.heap.size, 3, none⟩))) rfl (by kernel_rfl) (by kernel_rfl) (by kernel_rfl) (fun _ _ _ h => h) (Or.inl ⟨by rfl, ?_⟩) hHeld ?_
  · (intro w9 hSw; (try dsimp only at hSw); obtain ⟨s0, s1, s2, s3, s4, s5, s6, s7, s8, s9⟩ := hSw; go_simp)
  simp only [Act.put, List.setIfInBounds_toArray, List.set_cons_zero, List.set_cons_succ]
  refine wpAnyH_take (i := 8) (v := (.agg #[.int .i64 b, .string s])) rfl (by kernel_rfl) (by kernel_rfl) (by kernel_rfl) (fun _ _ _ h => h) (Or.inl ⟨by rfl, ?_⟩) hHeld ?_
  · (intro w9 hSw; (try dsimp only at hSw); obtain ⟨s0, s1, s2, s3, s4, s5, s6, s7, s8, s9⟩ := hSw; go_simp)
  simp only [Act.put, List.setIfInBounds_toArray, List.set_cons_zero, List.set_cons_succ]
  refine wpAnyH_take (i := 10) (v := (.pointer (some ⟨w.heap.size, 5, none⟩))) rfl (by kernel_rfl) (by kernel_rfl) (by kernel_rfl) (fun _ _ _ h => h) (Or.inl ⟨by rfl, ?_⟩) hHeld ?_
  · (intro w9 hSw; (try dsimp only at hSw); obtain ⟨s0, s1, s2, s3, s4, s5, s6, s7, s8, s9⟩ := hSw; go_simp)
  simp only [Act.put, List.setIfInBounds_toArray, List.set_cons_zero, List.set_cons_succ]
  refine wpAnyH_take (i := 11) (v := (.agg #[.int .i64 r, .int .i64 c, .slice ca cn cc])) rfl (by kernel_rfl) (by kernel_rfl) (by kernel_rfl) (fun _ _ _ h => h) (Or.inl ⟨by rfl, ?_⟩) hHeld ?_
  · (intro w9 hSw; (try dsimp only at hSw); obtain ⟨s0, s1, s2, s3, s4, s5, s6, s7, s8, s9⟩ := hSw; go_simp)
  simp only [Act.put, List.setIfInBounds_toArray, List.set_cons_zero, List.set_cons_succ]
  refine wpAnyH_take (i := 13) (v := (.pointer (some ⟨w.heap.size, 8, none⟩))) rfl (by kernel_rfl) (by kernel_rfl) (by kernel_rfl) (fun _ _ _ h => h) (Or.inl ⟨by rfl, ?_⟩) hHeld ?_
  · (intro w9 hSw; (try dsimp only at hSw); obtain ⟨s0, s1, s2, s3, s4, s5, s6, s7, s8, s9⟩ := hSw; go_simp)
  simp only [Act.put, List.setIfInBounds_toArray, List.set_cons_zero, List.set_cons_succ]
  refine wpAnyH_take (i := 14) (v := (.agg #[.int .i64 f, .slice ga gn gc])) rfl (by kernel_rfl) (by kernel_rfl) (by kernel_rfl) (fun _ _ _ h => h) (Or.inl ⟨by rfl, ?_⟩) hHeld ?_
  · (intro w9 hSw; (try dsimp only at hSw); obtain ⟨s0, s1, s2, s3, s4, s5, s6, s7, s8, s9⟩ := hSw; go_simp)
  simp only [Act.put, List.setIfInBounds_toArray, List.set_cons_zero, List.set_cons_succ]
  refine wpAnyH_ready (rs := [6]) (by kernel_rfl) (by simp) ?_
  refine AllReadyH.cons rfl (fun K0 hK => ?_) AllReadyH.nil
  go_simp
  refine (F6.out w0).mono ?_
  rintro e w1 ⟨rfl, hb⟩
  have H1 := Lib.hid (Below.two H0.out hb)
  have X1 := Lib.hid (X0.out.later hb)
  have Y1 := Lib.hid (Y0.out.later hb)
  clear hb X0 Y0 H0
  have x0 := X1.out.cell 0
  have x1 := X1.out.cell 1
  have x2 := X1.out.cell 2
  have x3 := X1.out.cell 3
  have x4 := X1.out.cell 4
  have x5 := X1.out.cell 5
  have x6 := X1.out.cell 6
  have x7 := X1.out.cell 7
  have x8 := X1.out.cell 8
  have x9 := X1.out.cell 9
  simp only [List.getElem?_toArray, List.getElem?_cons_zero, List.getElem?_cons_succ] at x0 x1 x2 x3 x4 x5 x6 x7 x8 x9
  refine hK.out _ _ ⟨x0, x1, x2, x3, x4, x5, x6, x7, x8, x9⟩ (fun hHeld => ?_)
  clear hK K0
  try simp only [Act.put, List.getElem_toArray, List.getElem_cons_succ, List.getElem_cons_zero, List.setIfInBounds_toArray, List.set_cons_zero, List.set_cons_succ]
  clear x0 x1 x2 x3 x4 x5 x6 x7 x8 x9
  refine wpAnyH_ready (rs := [9]) (by kernel_rfl) (by simp) ?_
  refine AllReadyH.cons rfl (fun K0 hK => ?_) AllReadyH.nil
  go_simp
  refine (F7.out w1).mono ?_
  rintro e w2 ⟨rfl, hb⟩
  have H2 := Lib.hid (Below.two H1.out hb)
  have X2 := Lib.hid (X1.out.later hb)
  have Y2 := Lib.hid (Y1.out.later hb)
  clear hb X1 Y1 H1
  have x0 := X2.out.cell 0
  have x1 := X2.out.cell 1
  have x2 := X2.out.cell 2
  have x3 := X2.out.cell 3
  have x4 := X2.out.cell 4
  have x5 := X2.out.cell 5
  have x6 := X2.out.cell 6
  have x7 := X2.out.cell 7
  have x8 := X2.out.cell 8
  have x9 := X2.out.cell 9
  simp only [List.getElem?_toArray, List.getElem?_cons_zero, List.getElem?_cons_succ] at x0 x1 x2 x3 x4 x5 x6 x7 x8 x9
  refine hK.out _ _ ⟨x0, x1, x2, x3, x4, x5, x6, x7, x8, x9⟩ (fun hHeld => ?_)
  clear hK K0
  try simp only [Act.put, List.getElem_toArray, List.getElem_cons_succ, List.getElem_cons_zero, List.setIfInBounds_toArray, List.set_cons_zero, List.set_cons_succ]
  clear x0 x1 x2 x3 x4 x5 x6 x7 x8 x9
  refine wpAnyH_ready (rs := [12]) (by kernel_rfl) (by simp) ?_
  refine AllReadyH.cons rfl (fun K0 hK => ?_) AllReadyH.nil
  go_simp
  refine (F8.out w2).mono ?_
  rintro e w3 ⟨rfl, hb⟩
  have H3 := Lib.hid (Below.two H2.out hb)
  have X3 := Lib.hid (X2.out.later hb)
  have Y3 := Lib.hid (Y2.out.later hb)
  clear hb X2 Y2 H2
  have x0 := X3.out.cell 0
  have x1 := X3.out.cell 1
  have x2 := X3.out.cell 2
  have x3 := X3.out.cell 3
  have x4 := X3.out.cell 4
  have x5 := X3.out.cell 5
  have x6 := X3.out.cell 6
  have x7 := X3.out.cell 7
  have x8 := X3.out.cell 8
  have x9 := X3.out.cell 9
  simp only [List.getElem?_toArray, List.getElem?_cons_zero, List.getElem?_cons_succ] at x0 x1 x2 x3 x4 x5 x6 x7 x8 x9
  refine hK.out _ _ ⟨x0, x1, x2, x3, x4, x5, x6, x7, x8, x9⟩ (fun hHeld => ?_)
  clear hK K0
  try simp only [Act.put, List.getElem_toArray, List.getElem_cons_succ, List.getElem_cons_zero, List.setIfInBounds_toArray, List.set_cons_zero, List.set_cons_succ]
  clear x0 x1 x2 x3 x4 x5 x6 x7 x8 x9
  refine wpAnyH_ready (rs := [15]) (by kernel_rfl) (by simp) ?_
  refine AllReadyH.cons rfl (fun K0 hK => ?_) AllReadyH.nil
  go_simp
  refine (F9.out w3).mono ?_
  rintro e w4 ⟨rfl, hb⟩
  have H4 := Lib.hid (Below.two H3.out hb)
  have X4 := Lib.hid (X3.out.later hb)
  have Y4 := Lib.hid (Y3.out.later hb)
  clear hb X3 Y3 H3
  have x0 := X4.out.cell 0
  have x1 := X4.out.cell 1
  have x2 := X4.out.cell 2
  have x3 := X4.out.cell 3
  have x4 := X4.out.cell 4
  have x5 := X4.out.cell 5
  have x6 := X4.out.cell 6
  have x7 := X4.out.cell 7
  have x8 := X4.out.cell 8
  have x9 := X4.out.cell 9
  simp only [List.getElem?_toArray, List.getElem?_cons_zero, List.getElem?_cons_succ] at x0 x1 x2 x3 x4 x5 x6 x7 x8 x9
  refine hK.out _ _ ⟨x0, x1, x2, x3, x4, x5, x6, x7, x8, x9⟩ (fun hHeld => ?_)
  clear hK K0
  try simp only [Act.put, List.getElem_toArray, List.getElem_cons_succ, List.getElem_cons_zero, List.setIfInBounds_toArray, List.set_cons_zero, List.set_cons_succ]
  clear x0 x1 x2 x3 x4 x5 x6 x7 x8 x9
  refine wpAnyH_take (i := 16) (v := (.agg #[.int .i64 kind, .int .i64 level, .slice ea ke ec, .int .i64 b, .string (s.extract 0 kr), .int .i64 r, .int .i64 c, .slice ca kc cc, .int .i64 f, .slice ga kg gc])) rfl (by kernel_rfl) (by kernel_rfl) (by kernel_rfl) (fun _ _ _ h => h) (Or.inl ⟨by rfl, ?_⟩) hHeld ?_
  · (intro w9 hSw; (try dsimp only at hSw); obtain ⟨s0, s1, s2, s3, s4, s5, s6, s7, s8, s9⟩ := hSw; go_simp)
  simp only [Act.put, List.setIfInBounds_toArray, List.set_cons_zero, List.set_cons_succ]
  have f0 := Y4.out.frozen 0
  have f1 := Y4.out.frozen 1
  have f2 := Y4.out.frozen 2
  have f3 := Y4.out.frozen 3
  have f4 := Y4.out.frozen 4
  have f5 := Y4.out.frozen 5
  have f6 := Y4.out.frozen 6
  have f7 := Y4.out.frozen 7
  have f8 := Y4.out.frozen 8
  have f9 := Y4.out.frozen 9
  have y0 := Y4.out.cell 0
  have y1 := Y4.out.cell 1
  have y2 := Y4.out.cell 2
  have y3 := Y4.out.cell 3
  have y4 := Y4.out.cell 4
  have y5 := Y4.out.cell 5
  have y6 := Y4.out.cell 6
  have y7 := Y4.out.cell 7
  have y8 := Y4.out.cell 8
  have y9 := Y4.out.cell 9
  simp only [List.getElem?_toArray, List.getElem?_cons_zero, List.getElem?_cons_succ] at y0 y1 y2 y3 y4 y5 y6 y7 y8 y9
  refine wpAnyH_ready (rs := [17]) (by kernel_rfl) (by simp) ?_
  refine AllReadyH.cons rfl (fun K0 hK => ?_) AllReadyH.nil
  go_simp
  have XS : Blk (World.setCell (World.setCell (World.setCell (World.setCell (World.setCell (World.setCell (World.setCell (World.setCell (World.setCell (World.setCell w4 ⟨w.heap.size + 1, 0, none⟩ (.int .i64 kind)) ⟨w.heap.size + 1, 1, none⟩ (.int .i64 level)) ⟨w.heap.size + 1, 2, none⟩ (.slice ea ke ec)) ⟨w.heap.size + 1, 3, none⟩ (.int .i64 b)) ⟨w.heap.size + 1, 4, none⟩ (.string (s.extract 0 kr))) ⟨w.heap.size + 1, 5, none⟩ (.int .i64 r)) ⟨w.heap.size + 1, 6, none⟩ (.int .i64 c)) ⟨w.heap.size + 1, 7, none⟩ (.slice ca kc cc)) ⟨w.heap.size + 1, 8, none⟩ (.int .i64 f)) ⟨w.heap.size + 1, 9, none⟩ (.slice ga kg gc)) w.heap.size 48 #[.int .i64 kind, .int .i64 level, .slice ea en ec, .int .i64 b, .string s, .int .i64 r, .int .i64 c, .slice ca cn cc, .int .i64 f, .slice ga gn gc] := blk_far10 X4.out (by omega) _ _ _ _ _ _ _ _ _ _
  have RR : Blk (World.setCell (World.setCell (World.setCell (World.setCell (World.setCell (World.setCell (World.setCell (World.setCell (World.setCell (World.setCell w4 ⟨w.heap.size + 1, 0, none⟩ (.int .i64 kind)) ⟨w.heap.size + 1, 1, none⟩ (.int .i64 level)) ⟨w.heap.size + 1, 2, none⟩ (.slice ea ke ec)) ⟨w.heap.size + 1, 3, none⟩ (.int .i64 b)) ⟨w.heap.size + 1, 4, none⟩ (.string (s.extract 0 kr))) ⟨w.heap.size + 1, 5, none⟩ (.int .i64 r)) ⟨w.heap.size + 1, 6, none⟩ (.int .i64 c)) ⟨w.heap.size + 1, 7, none⟩ (.slice ca kc cc)) ⟨w.heap.size + 1, 8, none⟩ (.int .i64 f)) ⟨w.heap.size + 1, 9, none⟩ (.slice ga kg gc)) (w.heap.size + 1) 48 #[.int .i64 kind, .int .i64 level, .slice ea ke ec, .int .i64 b, .string (s.extract 0 kr), .int .i64 r, .int .i64 c, .slice ca kc cc, .int .i64 f, .slice ga kg gc] := Y4.out.set10A
  have HS : Hid (Below w.heap.size w (World.setCell (World.setCell (World.setCell (World.setCell (World.setCell (World.setCell (World.setCell (World.setCell (World.setCell (World.setCell w4 ⟨w.heap.size + 1, 0, none⟩ (.int .i64 kind)) ⟨w.heap.size + 1, 1, none⟩ (.int .i64 level)) ⟨w.heap.size + 1, 2, none⟩ (.slice ea ke ec)) ⟨w.heap.size + 1, 3, none⟩ (.int .i64 b)) ⟨w.heap.size + 1, 4, none⟩ (.string (s.extract 0 kr))) ⟨w.heap.size + 1, 5, none⟩ (.int .i64 r)) ⟨w.heap.size + 1, 6, none⟩ (.int .i64 c)) ⟨w.heap.size + 1, 7, none⟩ (.slice ca kc cc)) ⟨w.heap.size + 1, 8, none⟩ (.int .i64 f)) ⟨w.heap.size + 1, 9, none⟩ (.slice ga kg gc))) := below_setA10 H4.out (by omega) _ _ _ _ _ _ _ _ _ _
  have x0 := XS.cell 0
  have x1 := XS.cell 1
  have x2 := XS.cell 2
  have x3 := XS.cell 3
  have x4 := XS.cell 4
  have x5 := XS.cell 5
  have x6 := XS.cell 6
  have x7 := XS.cell 7
  have x8 := XS.cell 8
  have x9 := XS.cell 9
  simp only [List.getElem?_toArray, List.getElem?_cons_zero, List.getElem?_cons_succ] at x0 x1 x2 x3 x4 x5 x6 x7 x8 x9
  have q0 := RR.cell 0
  have q1 := RR.cell 1
  have q2 := RR.cell 2
  have q3 := RR.cell 3
  have q4 := RR.cell 4
  have q5 := RR.cell 5
  have q6 := RR.cell 6
  have q7 := RR.cell 7
  have q8 := RR.cell 8
  have q9 := RR.cell 9
  simp only [List.getElem?_toArray, List.getElem?_cons_zero, List.getElem?_cons_succ] at q0 q1 q2 q3 q4 q5 q6 q7 q8 q9
  clear XS RR
  generalize (World.setCell (World.setCell (World.setCell (World.setCell (World.setCell (World.setCell (World.setCell (World.setCell (World.setCell (World.setCell w4 ⟨w.heap.size + 1, 0, none⟩ (.int .i64 kind)) ⟨w.heap.size + 1, 1, none⟩ (.int .i64 level)) ⟨w.heap.size + 1, 2, none⟩ (.slice ea ke ec)) ⟨w.heap.size + 1, 3, none⟩ (.int .i64 b)) ⟨w.heap.size + 1, 4, none⟩ (.string (s.extract 0 kr))) ⟨w.heap.size + 1, 5, none⟩ (.int .i64 r)) ⟨w.heap.size + 1, 6, none⟩ (.int .i64 c)) ⟨w.heap.size + 1, 7, none⟩ (.slice ca kc cc)) ⟨w.heap.size + 1, 8, none⟩ (.int .i64 f)) ⟨w.heap.size + 1, 9, none⟩ (.slice ga kg gc)) = W9 at *
  refine hK.out _ _ ⟨x0, x1, x2, x3, x4, x5, x6, x7, x8, x9⟩ (fun hHeld => ?_)
  clear hK K0
  try simp only [Act.put, List.getElem_toArray, List.getElem_cons_succ, List.getElem_cons_zero, List.setIfInBounds_toArray, List.set_cons_zero, List.set_cons_succ]
  refine wpAnyH_done (by kernel_rfl) ?_ _
  clear hHeld
  go_wp2_with fail
  refine bodyPost_ret (v := .agg #[.int .i64 kind, .int .i64 level, .slice ea ke ec, .int .i64 b, .string (s.extract 0 kr), .int .i64 r, .int .i64 c, .slice ca kc cc, .int .i64 f, .slice ga kg gc]) (by simp [results, Tryz.results25, go_sem, q0, q1, q2, q3, q4, q5, q6, q7, q8, q9]) rfl ?_
  exact ⟨rfl, HS.out⟩
/-- What One hands back. -/
def OneRet (w : World) (l : List Lab) (kind level b r c f seen : Int) (s : ByteArray) (ea ca ga : Option Addr) (ec cc gc ke kr kc kg : Nat) (e : Ending) (w' : World) : Prop :=
  Below w.heap.size w w' ∧ ∃ (A1 : Option Addr) (c1 : Nat), e = .returned (.agg #[.slice A1 l.length c1, .int .i64 kind, .int .i64 level, .slice ea ke ec, .int .i64 b, .string (s.extract 0 kr), .int .i64 r, .int .i64 c, .slice ca kc cc, .int .i64 f, .slice ga kg gc, .int .u64 seen]) ∧ Lb w' w'.heap.size A1 l ∧ ∀ ad, A1 = some ad → w.heap.size ≤ ad.block
set_option maxRecDepth 100000 in
set_option maxHeartbeats 8000000 in
theorem one_any (la : Option Addr) (l0 : List Lab) (ln lc : Nat) (kind level b r c f seen : Int) (s : ByteArray) (ea ca ga : Option Addr) (en ec cn cc gn gc ke kr kc kg : Nat) (h0 : l0.length = min ln 10) (hn : ln ≤ maxLen) (hs : ∀ x ∈ l0, x.1.size ≤ maxLen ∧ x.2.size ≤ maxLen) (h1 : ke = min en 70) (h2 : kr = min s.size 260) (h3 : kc = min cn 200) (h4 : kg = min gn 300) (l1 : en ≤ ec) (l2 : cn ≤ cc) (l3 : gn ≤ gc) (w : World) (hS : Lb w w.heap.size la l0) :
    Calls Tryz.prog 17 #[.agg #[.slice la ln lc, .int .i64 kind, .int .i64 level, .slice ea en ec, .int .i64 b, .string s, .int .i64 r, .int .i64 c, .slice ca cn cc, .int .i64 f, .slice ga gn gc, .int .u64 seen]] w (OneRet w (l0.map fewL) kind level b r c f seen s ea ca ga ec cc gc ke kr kc kg) := by
  have QF : Hid (∀ w1, Below w.heap.size w w1 → Calls Tryz.prog 24 #[.slice la ln lc] w1 _) := fun w1 h => few_own la l0 ln lc h0 hn hs w1 (hS.later h)
  clear hS h0 hs
  generalize l0.map fewL = l at *
  have F10 := Lib.hid (fun w1 => few10_any kind level b r c f s ea ca ga en ec cn cc gn gc ke kr kc kg h1 h2 h3 h4 l1 l2 l3 w1)
  clear h1 h2 h3 h4 l1 l2 l3
  have HB := Lib.hid (below_al (below_al (below_0 w) (.cells #[.slice la ln lc, .int .i64 kind, .int .i64 level, .slice ea en ec, .int .i64 b, .string s, .int .i64 r, .int .i64 c, .slice ca cn cc, .int .i64 f, .slice ga gn gc, .int .u64 seen] 50)) (.cells #[.slice none 0 0, .int .i64 0, .int .i64 0, .slice none 0 0, .int .i64 0, .string ⟨#[]⟩, .int .i64 0, .int .i64 0, .slice none 0 0, .int .i64 0, .slice none 0 0, .int .u64 0] 50))
  have XB := Lib.hid ((Blk.new w 50 #[.slice la ln lc, .int .i64 kind, .int .i64 level, .slice ea en ec, .int .i64 b, .string s, .int .i64 r, .int .i64 c, .slice ca cn cc, .int .i64 f, .slice ga gn gc, .int .u64 seen]).alloc (.cells #[.slice none 0 0, .int .i64 0, .int .i64 0, .slice none 0 0, .int .i64 0, .string ⟨#[]⟩, .int .i64 0, .int .i64 0, .slice none 0 0, .int .i64 0, .slice none 0 0, .int .u64 0] 50))
  have YB : Hid (Blk (World.alloc (w.alloc (.cells #[.slice la ln lc, .int .i64 kind, .int .i64 level, .slice ea en ec, .int .i64 b, .string s, .int .i64 r, .int .i64 c, .slice ca cn cc, .int .i64 f, .slice ga gn gc, .int .u64 seen] 50)) (.cells #[.slice none 0 0, .int .i64 0, .int .i64 0, .slice none 0 0, .int .i64 0, .string ⟨#[]⟩, .int .i64 0, .int .i64 0, .slice none 0 0, .int .i64 0, .slice none 0 0, .int .u64 0] 50)) (w.heap.size + 1) 50 #[.slice none 0 0, .int .i64 0, .int .i64 0, .slice none 0 0, .int .i64 0, .string ⟨#[]⟩, .int .i64 0, .int .i64 0, .slice none 0 0, .int .i64 0, .slice none 0 0, .int .u64 0]) := by
    have h : (w.alloc (.cells #[.slice la ln lc, .int .i64 kind, .int .i64 level, .slice ea en ec, .int .i64 b, .string s, .int .i64 r, .int .i64 c, .slice ca cn cc, .int .i64 f, .slice ga gn gc, .int .u64 seen] 50)).heap.size = w.heap.size + 1 := by simp
    have := Blk.new (w.alloc (.cells #[.slice la ln lc, .int .i64 kind, .int .i64 level, .slice ea en ec, .int .i64 b, .string s, .int .i64 r, .int .i64 c, .slice ca cn cc, .int .i64 f, .slice ga gn gc, .int .u64 seen] 50)) 50 #[.slice none 0 0, .int .i64 0, .int .i64 0, .slice none 0 0, .int .i64 0, .string ⟨#[]⟩, .int .i64 0, .int .i64 0, .slice none 0 0, .int .i64 0, .slice none 0 0, .int .u64 0]
    rw [h] at this
    exact this
  go_enter Tryz.func17, Tryz.ntmps17
  go_wp2_with fail
  generalize (World.alloc (w.alloc (.cells #[.slice la ln lc, .int .i64 kind, .int .i64 level, .slice ea en ec, .int .i64 b, .string s, .int .i64 r, .int .i64 c, .slice ca cn cc, .int .i64 f, .slice ga gn gc, .int .u64 seen] 50)) (.cells #[.slice none 0 0, .int .i64 0, .int .i64 0, .slice none 0 0, .int .i64 0, .string ⟨#[]⟩, .int .i64 0, .int .i64 0, .slice none 0 0, .int .i64 0, .slice none 0 0, .int .u64 0] 50)) = V at *
  have x0 := XB.out.cell 0
  have x1 := XB.out.cell 1
  have x2 := XB.out.cell 2
  have x3 := XB.out.cell 3
  have x4 := XB.out.cell 4
  have x5 := XB.out.cell 5
  have x6 := XB.out.cell 6
  have x7 := XB.out.cell 7
  have x8 := XB.out.cell 8
  have x9 := XB.out.cell 9
  have x10 := XB.out.cell 10
  have x11 := XB.out.cell 11
  simp only [List.getElem?_toArray, List.getElem?_cons_zero, List.getElem?_cons_succ] at x0 x1 x2 x3 x4 x5 x6 x7 x8 x9 x10 x11
  refine wp_region_held_drew (S := fun w9 => w9.cell? ⟨w.heap.size, 0, none⟩ = some (.slice la ln lc) ∧ w9.cell? ⟨w.heap.size, 1, none⟩ = some (.int .i64 kind) ∧ w9.cell? ⟨w.heap.size, 2, none⟩ = some (.int .i64 level) ∧ w9.cell? ⟨w.heap.size, 3, none⟩ = some (.slice ea en ec) ∧ w9.cell? ⟨w.heap.size, 4, none⟩ = some (.int .i64 b) ∧ w9.cell? ⟨w.heap.size, 5, none⟩ = some (.string s) ∧ w9.cell? ⟨w.heap.size, 6, none⟩ = some (.int .i64 r) ∧ w9.cell? ⟨w.heap.size, 7, none⟩ = some (.int .i64 c) ∧ w9.cell? ⟨w.heap.size, 8, none⟩ = some (.slice ca cn cc) ∧ w9.cell? ⟨w.heap.size, 9, none⟩ = some (.int .i64 f) ∧ w9.cell? ⟨w.heap.size, 10, none⟩ = some (.slice ga gn gc) ∧ w9.cell? ⟨w.heap.size, 11, none⟩ = some (.int .u64 seen)) (by kernel_rfl) ⟨x0, x1, x2, x3, x4, x5, x6, x7, x8, x9, x10, x11⟩ (fun hHeld => ?_)
  have X0 := Lib.hid XB.out.drew
  have Y0 := Lib.hid YB.out.drew
  have H0 := Lib.hid HB.out.drew
  clear XB YB HB x0 x1 x2 x3 x4 x5 x6 x7 x8 x9 x10 x11
  generalize V.drew = w0 at *
  refine wpAnyH_take (i := 0) (v := (.pointer (some ⟨w.heap.size, 0, none⟩))) rfl (by kernel_rfl) (by kernel_rfl) (by kernel_rfl) (fun _ _ _ h => h) (Or.inl ⟨by rfl, ?_⟩) hHeld ?_
  · (intro w9 hSw; (try dsimp only at hSw); obtain ⟨s0, s1, s2, s3, s4, s5, s6, s7, s8, s9, s10, s11⟩ := hSw; go_simp)
  simp only [Act.put, List.setIfInBounds_toArray, List.set_cons_zero, List.set_cons_succ]
  refine wpAnyH_take (i := 1) (v := (.slice la ln lc)) rfl (by kernel_rfl) (by kernel_rfl) (by kernel_rfl) (fun _ _ _ h => h) (Or.inl ⟨by rfl, ?_⟩) hHeld ?_
  · (intro w9 hSw; (try dsimp only at hSw); obtain ⟨s0, s1, s2, s3, s4, s5, s6, s7, s8, s9, s10, s11⟩ := hSw; go_simp)
  simp only [Act.put, List.setIfInBounds_toArray, List.set_cons_zero, List.set_cons_succ]
  refine wpAnyH_take (i := 3) (v := (.pointer (some ⟨w.heap.size, 1, none⟩))) rfl (by kernel_rfl) (by kernel_rfl) (by kernel_rfl) (fun _ _ _ h => h) (Or.inl ⟨by rfl, ?_⟩) hHeld ?_
  · (intro w9 hSw; (try dsimp only at hSw); obtain ⟨s0, s1, s2, s3, s4, s5, s6, s7, s8, s9, s10, s11⟩ := hSw; go_simp)
  simp only [Act.put, List.setIfInBounds_toArray, List.set_cons_zero, List.set_cons_succ]
  refine wpAnyH_take (i := 4) (v := (.agg #[.int .i64 kind, .int .i64 level, .slice ea en ec, .int .i64 b, .string s, .int .i64 r, .int .i64 c, .slice ca cn cc, .int .i64 f, .slice ga gn gc])) rfl (by kernel_rfl) (by kernel_rfl) (by kernel_rfl) (fun _ _ _ h => h) (Or.inl ⟨by rfl, ?_⟩) hHeld ?_
  · (intro w9 hSw; (try dsimp only at hSw); obtain ⟨s0, s1, s2, s3, s4, s5, s6, s7, s8, s9, s10, s11⟩ := hSw; go_simp)
  simp only [Act.put, List.setIfInBounds_toArray, List.set_cons_zero, List.set_cons_succ]
  refine wpAnyH_take (i := 6) (v := (.pointer (some ⟨w.heap.size, 11, none⟩))) rfl (by kernel_rfl) (by kernel_rfl) (by kernel_rfl) (fun _ _ _ h => h) (Or.inl ⟨by rfl, ?_⟩) hHeld ?_
  · (intro w9 hSw; (try dsimp only at hSw); obtain ⟨s0, s1, s2, s3, s4, s5, s6, s7, s8, s9, s10, s11⟩ := hSw; go_simp)
  simp only [Act.put, List.setIfInBounds_toArray, List.set_cons_zero, List.set_cons_succ]
  refine wpAnyH_take (i := 7) (v := (.int .u64 seen)) rfl (by kernel_rfl) (by kernel_rfl) (by kernel_rfl) (fun _ _ _ h => h) (Or.inl ⟨by rfl, ?_⟩) hHeld ?_
  · (intro w9 hSw; (try dsimp only at hSw); obtain ⟨s0, s1, s2, s3, s4, s5, s6, s7, s8, s9, s10, s11⟩ := hSw; go_simp)
  simp only [Act.put, List.setIfInBounds_toArray, List.set_cons_zero, List.set_cons_succ]
  refine wpAnyH_ready (rs := [2]) (by kernel_rfl) (by simp) ?_
  refine AllReadyH.cons rfl (fun K0 hK => ?_) AllReadyH.nil
  go_simp
  refine (QF.out w0 H0.out).mono ?_
  rintro e w1 ⟨⟨A1, c1, rfl, hcl, hlb, had⟩, hb⟩
  have H1 := Lib.hid (Below.two H0.out hb)
  have X1 := Lib.hid (X0.out.later hb)
  have Y1 := Lib.hid (Y0.out.later hb)
  have HL := Lib.hid hlb
  have HA : Hid (∀ ad, A1 = some ad → ad.block ≠ w.heap.size + 1 ∧ w.heap.size ≤ ad.block) := fun ad e => by have := had ad e; have := Y0.out.lt; omega
  clear hlb hcl had
  clear hb X0 Y0 H0
  have x0 := X1.out.cell 0
  have x1 := X1.out.cell 1
  have x2 := X1.out.cell 2
  have x3 := X1.out.cell 3
  have x4 := X1.out.cell 4
  have x5 := X1.out.cell 5
  have x6 := X1.out.cell 6
  have x7 := X1.out.cell 7
  have x8 := X1.out.cell 8
  have x9 := X1.out.cell 9
  have x10 := X1.out.cell 10
  have x11 := X1.out.cell 11
  simp only [List.getElem?_toArray, List.getElem?_cons_zero, List.getElem?_cons_succ] at x0 x1 x2 x3 x4 x5 x6 x7 x8 x9 x10 x11
  refine hK.out _ _ ⟨x0, x1, x2, x3, x4, x5, x6, x7, x8, x9, x10, x11⟩ (fun hHeld => ?_)
  clear hK K0
  try simp only [Act.put, List.getElem_toArray, List.getElem_cons_succ, List.getElem_cons_zero, List.setIfInBounds_toArray, List.set_cons_zero, List.set_cons_succ]
  clear x0 x1 x2 x3 x4 x5 x6 x7 x8 x9 x10 x11
  refine wpAnyH_ready (rs := [5]) (by kernel_rfl) (by simp) ?_
  refine AllReadyH.cons rfl (fun K0 hK => ?_) AllReadyH.nil
  go_simp
  refine (F10.out w1).mono ?_
  rintro e w2 ⟨rfl, hb⟩
  have H2 := Lib.hid (Below.two H1.out hb)
  have X2 := Lib.hid (X1.out.later hb)
  have Y2 := Lib.hid (Y1.out.later hb)
  replace HL := Lib.hid (HL.out.later hb)
  clear hb X1 Y1 H1
  have x0 := X2.out.cell 0
  have x1 := X2.out.cell 1
  have x2 := X2.out.cell 2
  have x3 := X2.out.cell 3
  have x4 := X2.out.cell 4
  have x5 := X2.out.cell 5
  have x6 := X2.out.cell 6
  have x7 := X2.out.cell 7
  have x8 := X2.out.cell 8
  have x9 := X2.out.cell 9
  have x10 := X2.out.cell 10
  have x11 := X2.out.cell 11
  simp only [List.getElem?_toArray, List.getElem?_cons_zero, List.getElem?_cons_succ] at x0 x1 x2 x3 x4 x5 x6 x7 x8 x9 x10 x11
  refine hK.out _ _ ⟨x0, x1, x2, x3, x4, x5, x6, x7, x8, x9, x10, x11⟩ (fun hHeld => ?_)
  clear hK K0
  try simp only [Act.put, List.getElem_toArray, List.getElem_cons_succ, List.getElem_cons_zero, List.setIfInBounds_toArray, List.set_cons_zero, List.set_cons_succ]
  clear x0 x1 x2 x3 x4 x5 x6 x7 x8 x9 x10 x11
  refine wpAnyH_take (i := 8) (v := (.agg #[.slice A1 l.length c1, .int .i64 kind, .int .i64 level, .slice ea ke ec, .int .i64 b, .string (s.extract 0 kr), .int .i64 r, .int .i64 c, .slice ca kc cc, .int .i64 f, .slice ga kg gc, .int .u64 seen])) rfl (by kernel_rfl) (by kernel_rfl) (by kernel_rfl) (fun _ _ _ h => h) (Or.inl ⟨by rfl, ?_⟩) hHeld ?_
  · (intro w9 hSw; (try dsimp only at hSw); obtain ⟨s0, s1, s2, s3, s4, s5, s6, s7, s8, s9, s10, s11⟩ := hSw; go_simp)
  simp only [Act.put, List.setIfInBounds_toArray, List.set_cons_zero, List.set_cons_succ]
  have f0 := Y2.out.frozen 0
  have f1 := Y2.out.frozen 1
  have f2 := Y2.out.frozen 2
  have f3 := Y2.out.frozen 3
  have f4 := Y2.out.frozen 4
  have f5 := Y2.out.frozen 5
  have f6 := Y2.out.frozen 6
  have f7 := Y2.out.frozen 7
  have f8 := Y2.out.frozen 8
  have f9 := Y2.out.frozen 9
  have f10 := Y2.out.frozen 10
  have f11 := Y2.out.frozen 11
  have y0 := Y2.out.cell 0
  have y1 := Y2.out.cell 1
  have y2 := Y2.out.cell 2
  have y3 := Y2.out.cell 3
  have y4 := Y2.out.cell 4
  have y5 := Y2.out.cell 5
  have y6 := Y2.out.cell 6
  have y7 := Y2.out.cell 7
  have y8 := Y2.out.cell 8
  have y9 := Y2.out.cell 9
  have y10 := Y2.out.cell 10
  have y11 := Y2.out.cell 11
  simp only [List.getElem?_toArray, List.getElem?_cons_zero, List.getElem?_cons_succ] at y0 y1 y2 y3 y4 y5 y6 y7 y8 y9 y10 y11
  refine wpAnyH_ready (rs := [9]) (by kernel_rfl) (by simp) ?_
  refine AllReadyH.cons rfl (fun K0 hK => ?_) AllReadyH.nil
  go_simp
  have XS : Blk (World.setCell (World.setCell (World.setCell (World.setCell (World.setCell (World.setCell (World.setCell (World.setCell (World.setCell (World.setCell (World.setCell (World.setCell w2 ⟨w.heap.size + 1, 0, none⟩ (.slice A1 l.length c1)) ⟨w.heap.size + 1, 1, none⟩ (.int .i64 kind)) ⟨w.heap.size + 1, 2, none⟩ (.int .i64 level)) ⟨w.heap.size + 1, 3, none⟩ (.slice ea ke ec)) ⟨w.heap.size + 1, 4, none⟩ (.int .i64 b)) ⟨w.heap.size + 1, 5, none⟩ (.string (s.extract 0 kr))) ⟨w.heap.size + 1, 6, none⟩ (.int .i64 r)) ⟨w.heap.size + 1, 7, none⟩ (.int .i64 c)) ⟨w.heap.size + 1, 8, none⟩ (.slice ca kc cc)) ⟨w.heap.size + 1, 9, none⟩ (.int .i64 f)) ⟨w.heap.size + 1, 10, none⟩ (.slice ga kg gc)) ⟨w.heap.size + 1, 11, none⟩ (.int .u64 seen)) w.heap.size 50 #[.slice la ln lc, .int .i64 kind, .int .i64 level, .slice ea en ec, .int .i64 b, .string s, .int .i64 r, .int .i64 c, .slice ca cn cc, .int .i64 f, .slice ga gn gc, .int .u64 seen] := blk_far12 X2.out (by omega) _ _ _ _ _ _ _ _ _ _ _ _
  have RR : Blk (World.setCell (World.setCell (World.setCell (World.setCell (World.setCell (World.setCell (World.setCell (World.setCell (World.setCell (World.setCell (World.setCell (World.setCell w2 ⟨w.heap.size + 1, 0, none⟩ (.slice A1 l.length c1)) ⟨w.heap.size + 1, 1, none⟩ (.int .i64 kind)) ⟨w.heap.size + 1, 2, none⟩ (.int .i64 level)) ⟨w.heap.size + 1, 3, none⟩ (.slice ea ke ec)) ⟨w.heap.size + 1, 4, none⟩ (.int .i64 b)) ⟨w.heap.size + 1, 5, none⟩ (.string (s.extract 0 kr))) ⟨w.heap.size + 1, 6, none⟩ (.int .i64 r)) ⟨w.heap.size + 1, 7, none⟩ (.int .i64 c)) ⟨w.heap.size + 1, 8, none⟩ (.slice ca kc cc)) ⟨w.heap.size + 1, 9, none⟩ (.int .i64 f)) ⟨w.heap.size + 1, 10, none⟩ (.slice ga kg gc)) ⟨w.heap.size + 1, 11, none⟩ (.int .u64 seen)) (w.heap.size + 1) 50 #[.slice A1 l.length c1, .int .i64 kind, .int .i64 level, .slice ea ke ec, .int .i64 b, .string (s.extract 0 kr), .int .i64 r, .int .i64 c, .slice ca kc cc, .int .i64 f, .slice ga kg gc, .int .u64 seen] := Y2.out.set12A
  have HS : Hid (Below w.heap.size w (World.setCell (World.setCell (World.setCell (World.setCell (World.setCell (World.setCell (World.setCell (World.setCell (World.setCell (World.setCell (World.setCell (World.setCell w2 ⟨w.heap.size + 1, 0, none⟩ (.slice A1 l.length c1)) ⟨w.heap.size + 1, 1, none⟩ (.int .i64 kind)) ⟨w.heap.size + 1, 2, none⟩ (.int .i64 level)) ⟨w.heap.size + 1, 3, none⟩ (.slice ea ke ec)) ⟨w.heap.size + 1, 4, none⟩ (.int .i64 b)) ⟨w.heap.size + 1, 5, none⟩ (.string (s.extract 0 kr))) ⟨w.heap.size + 1, 6, none⟩ (.int .i64 r)) ⟨w.heap.size + 1, 7, none⟩ (.int .i64 c)) ⟨w.heap.size + 1, 8, none⟩ (.slice ca kc cc)) ⟨w.heap.size + 1, 9, none⟩ (.int .i64 f)) ⟨w.heap.size + 1, 10, none⟩ (.slice ga kg gc)) ⟨w.heap.size + 1, 11, none⟩ (.int .u64 seen))) := below_setA12 H2.out (by omega) _ _ _ _ _ _ _ _ _ _ _ _
  have HL9 : Hid (Lb (World.setCell (World.setCell (World.setCell (World.setCell (World.setCell (World.setCell (World.setCell (World.setCell (World.setCell (World.setCell (World.setCell (World.setCell w2 ⟨w.heap.size + 1, 0, none⟩ (.slice A1 l.length c1)) ⟨w.heap.size + 1, 1, none⟩ (.int .i64 kind)) ⟨w.heap.size + 1, 2, none⟩ (.int .i64 level)) ⟨w.heap.size + 1, 3, none⟩ (.slice ea ke ec)) ⟨w.heap.size + 1, 4, none⟩ (.int .i64 b)) ⟨w.heap.size + 1, 5, none⟩ (.string (s.extract 0 kr))) ⟨w.heap.size + 1, 6, none⟩ (.int .i64 r)) ⟨w.heap.size + 1, 7, none⟩ (.int .i64 c)) ⟨w.heap.size + 1, 8, none⟩ (.slice ca kc cc)) ⟨w.heap.size + 1, 9, none⟩ (.int .i64 f)) ⟨w.heap.size + 1, 10, none⟩ (.slice ga kg gc)) ⟨w.heap.size + 1, 11, none⟩ (.int .u64 seen)) ((World.setCell (World.setCell (World.setCell (World.setCell (World.setCell (World.setCell (World.setCell (World.setCell (World.setCell (World.setCell (World.setCell (World.setCell w2 ⟨w.heap.size + 1, 0, none⟩ (.slice A1 l.length c1)) ⟨w.heap.size + 1, 1, none⟩ (.int .i64 kind)) ⟨w.heap.size + 1, 2, none⟩ (.int .i64 level)) ⟨w.heap.size + 1, 3, none⟩ (.slice ea ke ec)) ⟨w.heap.size + 1, 4, none⟩ (.int .i64 b)) ⟨w.heap.size + 1, 5, none⟩ (.string (s.extract 0 kr))) ⟨w.heap.size + 1, 6, none⟩ (.int .i64 r)) ⟨w.heap.size + 1, 7, none⟩ (.int .i64 c)) ⟨w.heap.size + 1, 8, none⟩ (.slice ca kc cc)) ⟨w.heap.size + 1, 9, none⟩ (.int .i64 f)) ⟨w.heap.size + 1, 10, none⟩ (.slice ga kg gc)) ⟨w.heap.size + 1, 11, none⟩ (.int .u64 seen))).heap.size A1 l) := by
    have h9 : ((World.setCell (World.setCell (World.setCell (World.setCell (World.setCell (World.setCell (World.setCell (World.setCell (World.setCell (World.setCell (World.setCell (World.setCell w2 ⟨w.heap.size + 1, 0, none⟩ (.slice A1 l.length c1)) ⟨w.heap.size + 1, 1, none⟩ (.int .i64 kind)) ⟨w.heap.size + 1, 2, none⟩ (.int .i64 level)) ⟨w.heap.size + 1, 3, none⟩ (.slice ea ke ec)) ⟨w.heap.size + 1, 4, none⟩ (.int .i64 b)) ⟨w.heap.size + 1, 5, none⟩ (.string (s.extract 0 kr))) ⟨w.heap.size + 1, 6, none⟩ (.int .i64 r)) ⟨w.heap.size + 1, 7, none⟩ (.int .i64 c)) ⟨w.heap.size + 1, 8, none⟩ (.slice ca kc cc)) ⟨w.heap.size + 1, 9, none⟩ (.int .i64 f)) ⟨w.heap.size + 1, 10, none⟩ (.slice ga kg gc)) ⟨w.heap.size + 1, 11, none⟩ (.int .u64 seen))).heap.size = (w2).heap.size := size_setA12 _ _ _ _ _ _ _ _ _ _ _ _
    rw [h9]
    exact rd_setA12 HL.out (fun ad e => (HA.out ad e).1) _ _ _ _ _ _ _ _ _ _ _ _
  have x0 := XS.cell 0
  have x1 := XS.cell 1
  have x2 := XS.cell 2
  have x3 := XS.cell 3
  have x4 := XS.cell 4
  have x5 := XS.cell 5
  have x6 := XS.cell 6
  have x7 := XS.cell 7
  have x8 := XS.cell 8
  have x9 := XS.cell 9
  have x10 := XS.cell 10
  have x11 := XS.cell 11
  simp only [List.getElem?_toArray, List.getElem?_cons_zero, List.getElem?_cons_succ] at x0 x1 x2 x3 x4 x5 x6 x7 x8 x9 x10 x11
  have q0 := RR.cell 0
  have q1 := RR.cell 1
  have q2 := RR.cell 2
  have q3 := RR.cell 3
  have q4 := RR.cell 4
  have q5 := RR.cell 5
  have q6 := RR.cell 6
  have q7 := RR.cell 7
  have q8 := RR.cell 8
  have q9 := RR.cell 9
  have q10 := RR.cell 10
  have q11 := RR.cell 11
  simp only [List.getElem?_toArray, List.getElem?_cons_zero, List.getElem?_cons_succ] at q0 q1 q2 q3 q4 q5 q6 q7 q8 q9 q10 q11
  clear XS RR
  generalize (World.setCell (World.setCell (World.setCell (World.setCell (World.setCell (World.setCell (World.setCell (World.setCell (World.setCell (World.setCell (World.setCell (World.setCell w2 ⟨w.heap.size + 1, 0, none⟩ (.slice A1 l.length c1)) ⟨w.heap.size + 1, 1, none⟩ (.int .i64 kind)) ⟨w.heap.size + 1, 2, none⟩ (.int .i64 level)) ⟨w.heap.size + 1, 3, none⟩ (.slice ea ke ec)) ⟨w.heap.size + 1, 4, none⟩ (.int .i64 b)) ⟨w.heap.size + 1, 5, none⟩ (.string (s.extract 0 kr))) ⟨w.heap.size + 1, 6, none⟩ (.int .i64 r)) ⟨w.heap.size + 1, 7, none⟩ (.int .i64 c)) ⟨w.heap.size + 1, 8, none⟩ (.slice ca kc cc)) ⟨w.heap.size + 1, 9, none⟩ (.int .i64 f)) ⟨w.heap.size + 1, 10, none⟩ (.slice ga kg gc)) ⟨w.heap.size + 1, 11, none⟩ (.int .u64 seen)) = W9 at *
  refine hK.out _ _ ⟨x0, x1, x2, x3, x4, x5, x6, x7, x8, x9, x10, x11⟩ (fun hHeld => ?_)
  clear hK K0
  try simp only [Act.put, List.getElem_toArray, List.getElem_cons_succ, List.getElem_cons_zero, List.setIfInBounds_toArray, List.set_cons_zero, List.set_cons_succ]
  refine wpAnyH_done (by kernel_rfl) ?_ _
  clear hHeld
  go_wp2_with fail
  refine bodyPost_ret (v := .agg #[.slice A1 l.length c1, .int .i64 kind, .int .i64 level, .slice ea ke ec, .int .i64 b, .string (s.extract 0 kr), .int .i64 r, .int .i64 c, .slice ca kc cc, .int .i64 f, .slice ga kg gc, .int .u64 seen]) (by simp [results, Tryz.results17, go_sem, q0, q1, q2, q3, q4, q5, q6, q7, q8, q9, q10, q11]) rfl ?_
  exact ⟨HS.out, A1, c1, rfl, HL9.out, fun ad e => (HA.out ad e).2⟩
end Go.Proofs.YtoffmclbnobllaaGreatDoor

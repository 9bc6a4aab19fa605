/-
  The walk of hist.Add.
-/
import Derived.Test.YtopddcabaiicgaaHistDone
namespace Go.Proofs.Ytopddcabaiicgaa
open Go.RowKit
set_option linter.unusedVariables false
set_option linter.unusedSimpArgs false
/-- What Add tells. -/
def addH (f : Int) (l : Bins) (v n : Int) : Int × Bins × Int := if rightB f l = true then (f, addL l (bucketF f v) n, 0) else (0, [], 90)
theorem bucketF_bd (f : Int) {v : Int} (hv : U v) : 0 ≤ bucketF f v ∧ bucketF f v ≤ 512 := by
  unfold bucketF
  split
  · rename_i h
    obtain ⟨h1, h2⟩ := fine_of h
    obtain ⟨u1, u2⟩ := hv
    have := bk_lt (f := f.toNat) (v := v.toNat) (by omega)
    have hp : 2 ^ f.toNat ≤ 8 := Nat.pow_le_pow_right (n := 2) (j := 3) (by decide) (by omega)
    omega
  · omega
theorem bucketF_i64 (f : Int) {v : Int} (hv : U v) : I64 (bucketF f v) := by have := bucketF_bd f hv; unfold I64; omega
theorem putL_ubs {m : Bins} {a n : Int} (h : UBs m) (ha : I64 a) (hn : U n) : UBs (putL m a n) := fun x hx => by
  refine ⟨?_, putL_ub h.ub hn x hx⟩
  rcases putL_keys hx with e | ⟨z, hz, e⟩
  · rw [e]; exact ha
  · rw [← e]; exact (h z hz).1
/-- Blocks of two cells that hold no number of 64 bits. -/
theorem no_u64 {a : Int} {A : Option Addr} {n c : Nat} : ∀ v ∈ (#[.int .i64 a, .slice A n c] : Array Value), ∀ m, v ≠ Value.int .u64 m := by
  intro v hv m e; simp at hv; rcases hv with rfl | rfl <;> cases e
theorem grow_set2 (w : World) (g : Nat) (x y : Value) : w.grownBy ((w.setCell ⟨g, 0, none⟩ x).setCell ⟨g, 1, none⟩ y) (some g) := grow_trans (grow_set1 _ _ _ _) (grow_set1 _ _ _ _)
theorem Blk.set2 {w : World} {g : Nat} {t : TypeId} {a b x y : Value} (h : Blk w g t #[a, b]) : Blk ((w.setCell ⟨g, 0, none⟩ x).setCell ⟨g, 1, none⟩ y) g t #[x, y] := by
  have := (h.set_ 0 x).set_ 1 y; simpa using this
theorem below_set2 {a w : World} {g : Nat} (h : Below a.heap.size a w) (hg : a.heap.size ≤ g) (x y : Value) : Below a.heap.size a ((w.setCell ⟨g, 0, none⟩ x).setCell ⟨g, 1, none⟩ y) := below_turned h (grow_set2 _ _ _ _) hg
theorem heldB_set2 {w : World} {base g : Nat} {t : TypeId} {a : Int} {A : Option Addr} {n c : Nat} {v x y : Value} {l : Bins} (h : HeldB w base v l) (hx : Blk w g t #[.int .i64 a, .slice A n c]) : HeldB ((w.setCell ⟨g, 0, none⟩ x).setCell ⟨g, 1, none⟩ y) base v l :=
  heldB_turned h hx no_u64 (grow_set2 _ _ _ _) hx.set2
theorem Blk.new2 (w : World) (o : Obj) (t : TypeId) (cs : Array Value) : Blk ((w.alloc o).alloc (.cells cs t)) (w.heap.size + 1) t cs := by
  have h := Blk.new (w.alloc o) t cs
  have e : (w.alloc o).heap.size = w.heap.size + 1 := by simp
  rwa [e] at h
set_option maxRecDepth 100000 in
set_option maxHeartbeats 4000000 in
theorem add_good (f : Int) (A : Option Addr) (l : Bins) (cap : Nat) (v n : Int) (hv : U v) (hn : U n) (hU : UBs l) (hl : l.length ≤ 60000) (hr : rightB f l = true) (w : World) (hS : Sb w w.heap.size A l) :
    Calls Try.prog 15 #[.agg #[.int .i64 f, .slice A l.length cap], .int .u64 v, .int .u64 n] w (HsRes w (f, addL l (bucketF f v) n, 0)) := by
  have T : Below w.heap.size w ((w.alloc (.cells #[.int .i64 f, .slice A l.length cap] 25)).alloc (.cells #[.int .i64 0, .slice none 0 0] 25)) := below_al (below_al (below_0 _) _) _
  have Y := Lib.hid (Blk.new2 w (.cells #[.int .i64 f, .slice A l.length cap] 25) 25 #[.int .i64 0, .slice none 0 0])
  have HS := Lib.hid (Sb.later hS T)
  have R := rt_of hr
  have hb := bucketF_i64 f hv
  have HR := Lib.hid hr
  clear hS hr
  go_enter Try.func15, Try.ntmps15
  go_wp2_with fail
  generalize (w.alloc (.cells #[.int .i64 f, .slice A l.length cap] 25)).alloc (.cells #[.int .i64 0, .slice none 0 0] 25) = w0 at *
  refine (begin_good f A l cap hU (by omega) HR.out _ HS.out).mono ?_
  rintro e w1 ⟨B, rfl, hM, hB, hb1⟩
  have X := Lib.hid (Blk.new w1 59 #[.map (some B), .int .i64 f])
  have hba := below_al (below_0 w1) (.cells #[.map (some B), .int .i64 f] 59)
  replace Y := Lib.hid ((Y.out.later hb1).later hba)
  have hwB : w.heap.size ≤ B := Nat.le_trans T.size hB
  have T1 := Lib.hid (Below.two (Below.two T hb1) hba)
  have M := Lib.hid (hM.later hba)
  clear T hb1 hba hM hB HS
  go_wp2_with fail
  generalize w1.alloc (.cells #[.map (some B), .int .i64 f] 59) = w2 at *
  have x0 := X.out.d0
  have x1 := X.out.d1
  have zx := X.out.lt
  obtain ⟨bb, hbb⟩ : ∃ b, bucketF f v = b := ⟨_, rfl⟩
  have HBB := Lib.hid hbb
  rw [hbb] at hb
  clear hbb
  refine wp_region_held_drew (S := fun w' => w'.cell? ⟨w1.heap.size, 0, none⟩ = some (.map (some B)) ∧ w'.cell? ⟨w1.heap.size, 1, none⟩ = some (.int .i64 f)) (by kernel_rfl) ⟨x0, x1⟩ (fun hHeld => ?_)
  refine wpAnyH_take (i := 0) (v := (.agg #[.map (some B), .int .i64 f])) rfl (by kernel_rfl) (by kernel_rfl) (by kernel_rfl) (fun _ _ _ h => h) (Or.inl ⟨by rfl, ?_⟩) hHeld ?_
  · (intro w hSw; (try dsimp only at hSw); (try obtain ⟨s0, s1⟩ := hSw); go_simp)
  simp only [Act.put, List.setIfInBounds_toArray, List.set_cons_zero, List.set_cons_succ]
  refine wpAnyH_take (i := 1) (v := (.pointer (some ⟨w1.heap.size, 1, none⟩))) rfl (by kernel_rfl) (by kernel_rfl) (by kernel_rfl) (fun _ _ _ h => h) (Or.inl ⟨by rfl, ?_⟩) hHeld ?_
  · (intro w hSw; (try dsimp only at hSw); (try obtain ⟨s0, s1⟩ := hSw); go_simp)
  simp only [Act.put, List.setIfInBounds_toArray, List.set_cons_zero, List.set_cons_succ]
  refine wpAnyH_take (i := 2) (v := (.int .i64 f)) rfl (by kernel_rfl) (by kernel_rfl) (by kernel_rfl) (fun _ _ _ h => h) (Or.inl ⟨by rfl, ?_⟩) hHeld ?_
  · (intro w hSw; (try dsimp only at hSw); (try obtain ⟨s0, s1⟩ := hSw); go_simp)
  simp only [Act.put, List.setIfInBounds_toArray, List.set_cons_zero, List.set_cons_succ]
  refine wpAnyH_take (i := 3) (v := (.int .u64 v)) rfl (by kernel_rfl) (by kernel_rfl) (by kernel_rfl) (fun _ _ _ h => h) (Or.inl ⟨by rfl, ?_⟩) hHeld ?_
  · (intro w hSw; (try dsimp only at hSw); (try obtain ⟨s0, s1⟩ := hSw); go_simp)
  simp only [Act.put, List.setIfInBounds_toArray, List.set_cons_zero, List.set_cons_succ]
  refine wpAnyH_take (i := 5) (v := (.int .u64 n)) rfl (by kernel_rfl) (by kernel_rfl) (by kernel_rfl) (fun _ _ _ h => h) (Or.inl ⟨by rfl, ?_⟩) hHeld ?_
  · (intro w hSw; (try dsimp only at hSw); (try obtain ⟨s0, s1⟩ := hSw); go_simp)
  simp only [Act.put, List.setIfInBounds_toArray, List.set_cons_zero, List.set_cons_succ]
  refine wpAnyH_ready (rs := [4]) (by kernel_rfl) (by simp) ?_
  refine AllReadyH.cons rfl (fun K hK => ?_) AllReadyH.nil
  go_simp
  refine (bucket_any f v hv _).mono ?_
  rintro e w3 ⟨rfl, q, rfl⟩
  rw [HBB.out]
  refine hK.out _ _ ⟨x0, x1⟩ (fun hHeld => ?_)
  clear hK K
  try simp only [Act.put, List.setIfInBounds_toArray, List.set_cons_zero, List.set_cons_succ]
  refine wpAnyH_ready (rs := [6]) (by kernel_rfl) (by simp) ?_
  refine AllReadyH.cons rfl (fun K hK => ?_) AllReadyH.nil
  go_simp
  refine (put_any l f bb n B l.length R.rise hU.ub hb hn _ (by exact M.out) (by unfold maxLen; omega)).mono ?_
  rintro e w4 ⟨rfl, hM4, hG4⟩
  have hG5 : w2.grownBy w4 (some B) := ⟨hG4.os, hG4.tape, hG4.output, hG4.size, hG4.block⟩
  have X4 := Lib.hid (X.out.grown hG5 (blk_not_mp M.out X.out))
  have Y4 := Lib.hid (Y.out.grown hG5 (blk_not_mp M.out Y.out))
  have T4 := Lib.hid (below_turned T1.out hG5 hwB)
  have M4 := Lib.hid hM4
  clear hM4 hG4 hG5 X Y T1 M x0 x1
  refine hK.out _ _ ⟨X4.out.d0, X4.out.d1⟩ (fun hHeld => ?_)
  clear hK K
  try simp only [Act.put, List.setIfInBounds_toArray, List.set_cons_zero, List.set_cons_succ]
  refine wpAnyH_done (by kernel_rfl) ?_ _
  have x0 := X4.out.d0
  have x1 := X4.out.d1
  have y0 := Y4.out.d0
  have y1 := Y4.out.d1
  have zx4 := X4.out.lt
  go_wp2_with fail
  refine (done_any (putL l bb n) f B (l.length + 1) (putL_rise R.rise) (putL_ubs hU hb hn) (by have := putL_length l bb n; omega) _ M4.out).mono ?_
  rintro e w5 ⟨hG5, v5, rfl, hh5⟩
  rw [dropZ_put hU.ub R.nz hn] at hh5
  obtain ⟨A5, c5, rfl, hc5, hA5, hS5, hF5⟩ := hh5
  have hh5 : HeldB w5 w.heap.size (.slice A5 (addL l bb n).length c5) (addL l bb n) := ⟨A5, c5, rfl, hc5, hA5, hS5, hF5.from T4.out.size⟩
  have Y5 := Lib.hid (Y4.out.grown hG5 (blk_not_mp M4.out Y4.out))
  have T5 := Lib.hid (below_turned T4.out hG5 hwB)
  have HH := Lib.hid hh5
  have y50 := Y5.out.d0
  have y51 := Y5.out.d1
  have fy0 := Y5.out.frozen 0
  have fy1 := Y5.out.frozen 1
  have zy := Y5.out.lt
  clear hh5 hS5 hF5 hA5 x0 x1 y0 y1 hG5
  have K := Y5.out.set2 (x := .int .i64 f) (y := .slice A5 (addL l bb n).length c5)
  have k0 := K.d0
  have k1 := K.d1
  go_wp2_with fail
  rw [HBB.out]
  exact bodyPost_ret (v := .tuple #[.agg #[.int .i64 f, .slice A5 (addL l bb n).length c5], .int .i64 0]) (by simp [results, Try.results15, go_sem, k0, k1]) rfl
    ⟨below_set2 T5.out (by omega) _ _, _, rfl, heldB_set2 HH.out Y5.out⟩
set_option maxHeartbeats 1000000 in
theorem add_bad (f : Int) (A : Option Addr) (l : Bins) (cap : Nat) (v n : Int) (hU : UBs l) (hl : l.length ≤ 60000) (hr : rightB f l = false) (w : World) (hS : Sb w w.heap.size A l) :
    Calls Try.prog 15 #[.agg #[.int .i64 f, .slice A l.length cap], .int .u64 v, .int .u64 n] w (HsRes w (0, [], 90)) := by
  have T : Below w.heap.size w ((w.alloc (.cells #[.int .i64 f, .slice A l.length cap] 25)).alloc (.cells #[.int .i64 0, .slice none 0 0] 25)) := below_al (below_al (below_0 _) _) _
  have Y := Lib.hid (Blk.new2 w (.cells #[.int .i64 f, .slice A l.length cap] 25) 25 #[.int .i64 0, .slice none 0 0])
  have HS := Lib.hid (Sb.later hS T)
  have HR := Lib.hid hr
  clear hS hr
  go_enter Try.func15, Try.ntmps15
  go_wp2_with fail
  generalize (w.alloc (.cells #[.int .i64 f, .slice A l.length cap] 25)).alloc (.cells #[.int .i64 0, .slice none 0 0] 25) = w0 at *
  refine (begin_bad f A l cap hU (by omega) HR.out _ HS.out).mono ?_
  rintro e w1 ⟨s, rfl, hb1⟩
  have hba := below_al (below_0 w1) (.cells #[.map none, .int .i64 0] 59)
  replace Y := Lib.hid ((Y.out.later hb1).later hba)
  replace T := Below.two (Below.two T hb1) hba
  clear hb1 hba HS
  go_wp2_with fail
  generalize w1.alloc (.cells #[.map none, .int .i64 0] 59) = w2 at *
  refine (errno_err s _).mono ?_
  rintro e w3 ⟨rfl, rfl⟩
  have hba := below_al (below_0 w2) (.cells #[.string s] 73)
  replace Y := Lib.hid (Y.out.later hba)
  replace T := Below.two T hba
  generalize w2.alloc (.cells #[.string s] 73) = w3 at *
  have y50 := Y.out.d0
  have y51 := Y.out.d1
  have fy0 := Y.out.frozen 0
  have fy1 := Y.out.frozen 1
  have zy := Y.out.lt
  have K := Y.out.set2 (x := .int .i64 0) (y := .slice none 0 0)
  have k0 := K.d0
  have k1 := K.d1
  go_wp2_with fail
  exact bodyPost_ret (v := .tuple #[.agg #[.int .i64 0, .slice none 0 0], .int .i64 90]) (by simp [results, Try.results15, go_sem, k0, k1]) rfl
    ⟨below_set2 T (by omega) _ _, _, rfl, heldB_set2 (heldB_nil _ _) Y.out⟩
theorem add_any (f : Int) (A : Option Addr) (l : Bins) (cap : Nat) (v n : Int) (hv : U v) (hn : U n) (hU : UBs l) (hl : l.length ≤ 60000) (w : World) (hS : Sb w w.heap.size A l) :
    Calls Try.prog 15 #[.agg #[.int .i64 f, .slice A l.length cap], .int .u64 v, .int .u64 n] w (HsRes w (addH f l v n)) := by
  cases h : rightB f l with
  | true => rw [addH, if_pos h]; exact add_good f A l cap v n hv hn hU hl h w hS
  | false => rw [addH, if_neg (by simp [h])]; exact add_bad f A l cap v n hU hl h w hS
end Go.Proofs.Ytopddcabaiicgaa

/-
  The closures of package cms: what two counters come to.
-/
import Derived.Test.YthjdonhabenmcaaCmsWalk3
import Derived.IntWalk
namespace Go.Proofs.Ythjdonhabenmcaa
open Go.RowKit
set_option linter.unusedVariables false
theorem add1_any (p : Nat) (o n : Int) (ho : U o) (hn : U n) (b : Nat) (w : World) (hB : Blk w b 25 #[.int .u64 n]) :
    Calls Try.prog 36 #[.int .i64 p, .int .u64 o, .pointer (some ⟨b, 0, none⟩)] w fun e w' => e = .returned (.int .u64 (sat o n)) ∧ Below w.heap.size w w' := by
  have hc := hB.one
  go_enter Try.func36, Try.ntmps36
  go_wp2_with fail
  have B2 := Blk.new w 25 #[.int .u64 o, .int .u64 n]
  refine (together_any o n ho hn _ w.heap.size 0 2 (B2.cell 0) (B2.cell 1)).mono ?_
  rintro e w' ⟨rfl, rfl⟩
  go_wp2_with fail
  go_ret
  exact ⟨rfl, below_al (below_0 _) _⟩
theorem merge1_any (p : Nat) (o : Int) (ho : U o) (b : Nat) (r c : Int) (A : Option Addr) (m : List Int) (cap : Nat) (hm : Us m) (hp : p < m.length) (hl : m.length ≤ 65536) (w : World) (hB : Blk w b 24 #[.int .i64 r, .int .i64 c, .slice A m.length cap]) (hS : Sl w w.heap.size A m) :
    Calls Try.prog 42 #[.int .i64 p, .int .u64 o, .pointer (some ⟨b, 0, none⟩)] w fun e w' => e = .returned (.int .u64 (sat o (nth m p))) ∧ Below w.heap.size w w' := by
  have hc := hB.c2
  obtain ⟨g, off, rfl, hg, hcs⟩ := hS.at_ (by omega)
  have hx := hcs p hp
  have hU := nth_U hm p
  obtain ⟨x, hx'⟩ : ∃ x, nth m p = x := ⟨_, rfl⟩
  rw [hx'] at hx hU ⊢
  have HM := Lib.hid hx'
  clear hcs hx'
  go_enter Try.func42, Try.ntmps42
  go_wp2_with fail
  have B2 := Blk.new w 25 #[.int .u64 o, .int .u64 x]
  refine (together_any o x ho hU _ w.heap.size 0 2 (B2.cell 0) (B2.cell 1)).mono ?_
  rintro e w' ⟨rfl, rfl⟩
  go_wp2_with fail
  go_ret
  exact ⟨rfl, below_al (below_0 _) _⟩
/-- Where a counter of half as many columns comes from. -/
def fromF (H p : Nat) : Nat := p / H * (2 * H) + p % H
theorem fromF_lt {R H p : Nat} (hH : 0 < H) (hp : p < R * H) : fromF H p + H < R * (2 * H) := by
  have h1 : p / H < R := Nat.div_lt_of_lt_mul (by rw [Nat.mul_comm]; exact hp)
  have h2 := Nat.mod_lt p hH
  have h3 : (p / H + 1) * (2 * H) ≤ R * (2 * H) := Nat.mul_le_mul_right _ h1
  rw [Nat.add_mul] at h3
  unfold fromF
  omega
set_option maxHeartbeats 1000000 in
theorem lower1_any (p R H : Nat) (o : Int) (hH : 0 < H) (hH2 : H ≤ 32) (hR : R ≤ 4) (hp : p < R * H) (b bx : Nat) (A A2 : Option Addr) (m : List Int) (n2 cap2 cap : Nat) (hm : Us m) (hl : m.length = R * (2 * H)) (w : World)
    (hW : Blk w b 48 #[.int .i64 R, .int .i64 H, .slice A2 n2 cap2]) (hB : Blk w bx 24 #[.int .i64 R, .int .i64 (2 * H : Nat), .slice A m.length cap]) (hS : Sl w w.heap.size A m) :
    Calls Try.prog 43 #[.int .i64 p, .int .u64 o, .pointer (some ⟨b, 0, none⟩), .pointer (some ⟨bx, 0, none⟩)] w fun e w' => e = .returned (.int .u64 (sat (nth m (fromF H p)) (nth m (fromF H p + H)))) ∧ Below w.heap.size w w' := by
  have hf := fromF_lt hH hp
  have hlm : fromF H p + H < m.length := by omega
  have hcap : R * (2 * H) ≤ 256 := Nat.le_trans (Nat.mul_le_mul hR (show 2 * H ≤ 64 by omega)) (by omega)
  obtain ⟨g, off, rfl, hg, hcs⟩ := hS.at_ (by omega)
  have x1 := hcs (fromF H p) (by omega)
  have x2 := hcs (fromF H p + H) (by omega)
  have u1 := nth_U hm (fromF H p)
  have u2 := nth_U hm (fromF H p + H)
  generalize nth m (fromF H p) = v1 at *
  generalize nth m (fromF H p + H) = v2 at *
  have hfm : (p : Int) / (H : Int) * ((2 * H : Nat) : Int) + (p : Int) % (H : Int) = ((fromF H p : Nat) : Int) := by unfold fromF; simp
  have hpq : p / H < R := Nat.div_lt_of_lt_mul (by rw [Nat.mul_comm]; exact hp)
  have hpi : (p : Int) / (H : Int) = ((p / H : Nat) : Int) := by simp
  have hw3 : wrap64 (wrap64 (wrap64 ((p : Int) / (H : Int)) * (2 * (H : Int))) + (p : Int) % (H : Int)) = ((fromF H p : Nat) : Int) := by
    have e2 : ((2 * H : Nat) : Int) = 2 * (H : Int) := by omega
    rw [e2] at hfm
    have h0 : 0 ≤ (p : Int) % (H : Int) := Int.emod_nonneg _ (by omega)
    have h1 : (p : Int) % (H : Int) < H := Int.emod_lt_of_pos _ (by omega)
    have h3 : 0 ≤ (p : Int) / (H : Int) := Int.ediv_nonneg (by omega) (by omega)
    have h2 : 0 ≤ (p : Int) / (H : Int) * (2 * (H : Int)) := Int.mul_nonneg h3 (by omega)
    rw [IntWalk.wrap64_in ((p : Int) / (H : Int)) (by omega), IntWalk.wrap64_in ((p : Int) / (H : Int) * (2 * (H : Int))) (by omega), IntWalk.wrap64_in _ (by omega)]
    exact hfm
  clear hpi hpq
  have b2 := hW.c1
  have z1 := hW.lt
  have z2 := hB.lt
  have b3 := hB.c1
  have b4 := hB.c2
  have hH' : (H : Int) ≠ 0 := by omega
  have hml : m.length ≤ 256 := by omega
  clear hcs hl hf hcap
  go_enter Try.func43, Try.ntmps43
  go_wp2_with fail
  go_quiet (fail)
  rw [hw3]
  clear hfm hw3
  generalize fromF H p = q at *
  have hq1 : (0 : Int) ≤ (q : Int) := by omega
  have hq2 : (q : Int) < (m.length : Int) := by omega
  have hq3 : (0 : Int) ≤ (q : Int) + (H : Int) := by omega
  have hq4 : (q : Int) + (H : Int) < (m.length : Int) := by omega
  have hq5 : IntKind.i64.wrap ((q : Int) + (H : Int)) = (q : Int) + (H : Int) := IntWalk.i64_in _ (by omega)
  have hq7 : q < m.length := by omega
  have hq6 : ((q : Int) + (H : Int)).toNat = q + H := by omega
  go_wp2_with fail
  go_region_held3 (fun w' => w'.cell? ⟨b, 1, none⟩ = some (.int .i64 H) ∧ w'.cell? ⟨bx, 2, none⟩ = some (.slice (some ⟨g, off, none⟩) m.length cap) ∧ w'.cell? ⟨g, off + q, none⟩ = some (.int .u64 v1) ∧ w'.cell? ⟨g, off + (q + H), none⟩ = some (.int .u64 v2)) (go_keep)
    (first | (go_at_call 37; refine (together_any v1 v2 u1 u2 _ w.heap.size 0 2 ?_ ?_).mono ?_; (exact (Blk.new (w.drewN _) 25 #[.int .u64 v1, .int .u64 v2]).cell 0); (exact (Blk.new (w.drewN _) 25 #[.int .u64 v1, .int .u64 v2]).cell 1); rintro e w' ⟨rfl, rfl⟩))
  go_wp2_with fail
  go_ret
  exact ⟨rfl, below_al (below_drewN (below_0 _) _) _⟩
end Go.Proofs.Ythjdonhabenmcaa

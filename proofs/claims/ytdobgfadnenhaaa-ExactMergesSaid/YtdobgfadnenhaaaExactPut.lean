/-
  The walk of the reference's put.
-/
import Derived.Test.YtdobgfadnenhaaaExactRef3
namespace Go.Proofs.Ytdobgfadnenhaaa
open Go.RowKit
set_option linter.unusedVariables false
theorem put_below (w : World) (n : Int) (w1 w2 : World) (v1 : Value) (k : Nat) (xs : List Value) (hg1 : w.grownBy w1 none) (hown1 : w1.ownsRow w.heap.size 25 1 v1 k xs) (hg2 : (w1.alloc (.cells #[.int .u64 n] 25)).grownBy w2 v1.ownBlock) : Below w.heap.size w w2 := by
  have hb1 : Below w.heap.size w w1 := (Below.refl _ _).grown hg1 (Nat.le_refl _) (fun k e => by cases e)
  exact (below_al hb1 _).grown hg2 (below_al hb1 _).size (fun j e => own_base' hown1 j e)
set_option maxHeartbeats 2000000 in
theorem put_any (w : World) (c : Nat) (A : Option Addr) (l : List Int) (n : Int) (hR : Rises l) (hS : Sl w w.heap.size A l) (hc : l.length ≤ c) (hA : A = none → c = 0) (hn : l.length ≤ 65536) :
    Calls Try.prog 31 #[.slice A l.length c, .int .u64 n] w (PutPost w l n) := by
  obtain ⟨i0, hi0, hz0, hz1, hz2⟩ := info_parts Try.infoU64
  have hlb := lb_le l n
  have HS := Lib.hid hS
  have HA := Lib.hid hA
  have HT := Lib.hid (Sl.take hS (lb l n))
  have HXX := Lib.hid (fun w1 (hb : Below w.heap.size w w1) => (hS.below hb).cut (lb l n) c hc)
  have BB := Lib.hid (put_below w n)
  have hiff := nth_lt_iff hR n
  have HIFF := Lib.hid hiff
  have hc' : (l.length : Int) ≤ (c : Int) := by omega
  clear hS hA hiff
  go_enter Try.func31, Try.ntmps31
  go_wp2_with fail
  go_loop [5] (fun i => ∃ k : Nat, k ≤ lb l n ∧ i = .int .i64 k) (fun i => l.length - (intOf i).toNat)
  case atStart => exact ⟨0, Nat.zero_le _, rfl⟩
  case round =>
    obtain ⟨k, hk, rfl⟩ := hrel
    by_cases hlt : k < lb l n
    · obtain ⟨b, off, rfl, _, hcc⟩ := HS.out.at_ (by omega)
      have h1 := hcc k (by omega)
      have h2 := (HIFF.out k (by omega)).2 hlt
      have h3 : (k : Int) < (l.length : Int) := by omega
      clear hcc
      go_wp2_with fail
      go_round
      case rel => exact ⟨k + 1, by omega, by go_num⟩
      case measure => simp [intOf]; omega
    · obtain rfl : k = lb l n := by omega
      clear hlt hk
      by_cases hlen : lb l n < l.length
      · obtain ⟨b, off, ea, hbl, hcc⟩ := HS.out.at_ (by omega)
        have h1 := hcc (lb l n) hlen
        have h2 : ¬ nth l (lb l n) < n := by have := HIFF.out (lb l n) hlen; omega
        have h3 : (lb l n : Int) < (l.length : Int) := by omega
        clear hcc
        by_cases he : nth l (lb l n) = n
        · subst ea
          have he' : (nth l (lb l n) == n) = true := by simpa using he
          have HI : Hid (atB l (lb l n) n = true) := by show atB _ _ _ = true; simp [atB, hlen, he]
          clear he h2
          have h2' : ¬ nth l (lb l n) < n := by have := HIFF.out (lb l n) hlen; omega
          go_wp2_with fail
          go_ret
          exact put_yes HI.out hc HA.out HS.out
        · have he' : (nth l (lb l n) == n) = false := by simpa using he
          have HI : Hid (atB l (lb l n) n = false) := by show atB _ _ _ = false; simp [atB, he]
          have HX : Hid (∀ w1, Below w.heap.size w w1 → Sl w1 w.heap.size (some ⟨b, off + lb l n, none⟩) (l.drop (lb l n))) := fun w1 hb => by
            have := HXX.out w1 hb
            rw [if_neg (by omega), ea] at this
            simpa [addr_add] using this
          have hcl : lb l n < c := by omega
          subst ea
          clear he HXX
          have tok0 : True := trivial
          go_wp2_with (first | (at_builtin; have _t2 := tok2; refine wpList_append_rd _ rfl (.tmp 42) (.tmp 45) 22 rfl w.heap.size 25 i0 (.int .u64 0) 1 8 Try.underlying22 hi0 hz0 hz1 hz2 rfl (by decide) _ _ _ rfl hown2 w.heap.size (some ⟨b, off + lb l n, none⟩) (l.length - lb l n) (c - lb l n) ((l.drop (lb l n)).map (Value.int .u64)) rfl (by simp) hx2 one_u64 (by unfold maxLen; omega) (by omega) hs2 ?_; intro v3 w3 hown3 hg3 _; obtain ⟨A3, c3, rfl, hc3, hr3, hf3⟩ := owns_form hown3) | (at_builtin; have _t1 := tok1; refine wpList_append_own _ rfl (.tmp 38) (.tmp 40) 22 rfl w.heap.size 25 i0 (.int .u64 0) 1 8 Try.underlying22 hi0 hz0 hz1 hz2 rfl (by decide) (.slice A1 (lb l n) c1) (lb l n) _ rfl (hown1.alloc _) ⟨w1.heap.size, 0, none⟩ 1 1 [.int .u64 n] rfl rfl (cell_one _ _ _ _ rfl) (by simp [Value.oneCell']) (by unfold maxLen; omega) (by omega) (by have := hg1.size; simp; omega) ?_; intro v2 w2 hown2 hg2 _; obtain ⟨A2, c2, rfl, hc2, hr2, hf2⟩ := owns_form hown2; have hs2 : w.heap.size ≤ w2.heap.size := (Nat.le_trans hg1.size (Nat.le_trans (by simp) hg2.size)); have hx2 := HX.out w2 (BB.out w1 w2 _ _ _ hg1 hown1 hg2); clear tok1; have tok2 : True := trivial) | (at_builtin; have _t0 := tok0; refine wpList_append_rd _ rfl (.tmp 34) (.tmp 37) 22 rfl w.heap.size 25 i0 (.int .u64 0) 1 8 Try.underlying22 hi0 hz0 hz1 hz2 rfl (by decide) (.slice none 0 0) 0 [] rfl (World.ownsRow_nil _ _ _ _) w.heap.size (some ⟨b, off, none⟩) (lb l n) c ((l.take (lb l n)).map (Value.int .u64)) rfl (by simp; omega) HT.out one_u64 (by unfold maxLen; omega) (by omega) (Nat.le_refl _) ?_; intro v1 w1 hown1 hg1 _; simp only [Nat.zero_add, List.nil_append] at hown1; obtain ⟨A1, c1, rfl, hc1, hr1, hf1⟩ := owns_form hown1; clear tok0; have tok1 : True := trivial))
          go_ret
          exact put_no HI.out hg1 hown1 rfl hg2 hown2 hown3 (by omega) hg3
      · have h3 : decide (lb l n < l.length) = false := by simpa using hlen
        have HI : Hid (atB l (lb l n) n = false) := by show atB _ _ _ = false; simp [atB]; omega
        have HD : Hid (l.drop (lb l n) = []) := List.drop_eq_nil_of_le (by omega)
        by_cases hcap : c = lb l n
        · subst hcap
          have tok0 : True := trivial
          go_wp2_with (first | (at_builtin; have _t2 := tok2; refine wpList_append_rd _ rfl (.tmp 42) (.tmp 45) 22 rfl w.heap.size 25 i0 (.int .u64 0) 1 8 Try.underlying22 hi0 hz0 hz1 hz2 rfl (by decide) _ _ _ rfl hown2 w.heap.size A 0 0 [] rfl (by simp) Rd.none_ (by simp) (by unfold maxLen; omega) (by omega) hs2 ?_; intro v3 w3 hown3 hg3 _; obtain ⟨A3, c3, rfl, hc3, hr3, hf3⟩ := owns_form hown3) | (at_builtin; have _t1 := tok1; refine wpList_append_own _ rfl (.tmp 38) (.tmp 40) 22 rfl w.heap.size 25 i0 (.int .u64 0) 1 8 Try.underlying22 hi0 hz0 hz1 hz2 rfl (by decide) (.slice A1 (lb l n) c1) (lb l n) _ rfl (hown1.alloc _) ⟨w1.heap.size, 0, none⟩ 1 1 [.int .u64 n] rfl rfl (cell_one _ _ _ _ rfl) (by simp [Value.oneCell']) (by unfold maxLen; omega) (by omega) (by have := hg1.size; simp; omega) ?_; intro v2 w2 hown2 hg2 _; obtain ⟨A2, c2, rfl, hc2, hr2, hf2⟩ := owns_form hown2; have hs2 : w.heap.size ≤ w2.heap.size := (Nat.le_trans hg1.size (Nat.le_trans (by simp) hg2.size)); clear tok1; have tok2 : True := trivial) | (at_builtin; have _t0 := tok0; refine wpList_append_rd _ rfl (.tmp 34) (.tmp 37) 22 rfl w.heap.size 25 i0 (.int .u64 0) 1 8 Try.underlying22 hi0 hz0 hz1 hz2 rfl (by decide) (.slice none 0 0) 0 [] rfl (World.ownsRow_nil _ _ _ _) w.heap.size A (lb l n) (lb l n) ((l.take (lb l n)).map (Value.int .u64)) rfl (by simp; omega) HT.out one_u64 (by unfold maxLen; omega) (by omega) (Nat.le_refl _) ?_; intro v1 w1 hown1 hg1 _; simp only [Nat.zero_add, List.nil_append] at hown1; obtain ⟨A1, c1, rfl, hc1, hr1, hf1⟩ := owns_form hown1; clear tok0; have tok1 : True := trivial))
          go_ret
          exact put_no (m := lb l n + 1 + 0) HI.out hg1 hown1 rfl hg2 hown2 (by rw [HD.out]; exact hown3) (by omega) hg3
        · have hne : A ≠ none := fun e => by have := HA.out e; omega
          obtain ⟨ad, rfl⟩ : ∃ ad, A = some ad := by cases A with | none => exact absurd rfl hne | some ad => exact ⟨ad, rfl⟩
          have hcl : lb l n < c := by omega
          clear hne hcap
          have tok0 : True := trivial
          go_wp2_with (first | (at_builtin; have _t2 := tok2; refine wpList_append_rd _ rfl (.tmp 42) (.tmp 45) 22 rfl w.heap.size 25 i0 (.int .u64 0) 1 8 Try.underlying22 hi0 hz0 hz1 hz2 rfl (by decide) _ _ _ rfl hown2 w.heap.size (some (ad.add (lb l n))) (l.length - lb l n) (c - lb l n) [] rfl (by simp; omega) Rd.none_ (by simp) (by unfold maxLen; omega) (by omega) hs2 ?_; intro v3 w3 hown3 hg3 _; obtain ⟨A3, c3, rfl, hc3, hr3, hf3⟩ := owns_form hown3) | (at_builtin; have _t1 := tok1; refine wpList_append_own _ rfl (.tmp 38) (.tmp 40) 22 rfl w.heap.size 25 i0 (.int .u64 0) 1 8 Try.underlying22 hi0 hz0 hz1 hz2 rfl (by decide) (.slice A1 (lb l n) c1) (lb l n) _ rfl (hown1.alloc _) ⟨w1.heap.size, 0, none⟩ 1 1 [.int .u64 n] rfl rfl (cell_one _ _ _ _ rfl) (by simp [Value.oneCell']) (by unfold maxLen; omega) (by omega) (by have := hg1.size; simp; omega) ?_; intro v2 w2 hown2 hg2 _; obtain ⟨A2, c2, rfl, hc2, hr2, hf2⟩ := owns_form hown2; have hs2 : w.heap.size ≤ w2.heap.size := (Nat.le_trans hg1.size (Nat.le_trans (by simp) hg2.size)); clear tok1; have tok2 : True := trivial) | (at_builtin; have _t0 := tok0; refine wpList_append_rd _ rfl (.tmp 34) (.tmp 37) 22 rfl w.heap.size 25 i0 (.int .u64 0) 1 8 Try.underlying22 hi0 hz0 hz1 hz2 rfl (by decide) (.slice none 0 0) 0 [] rfl (World.ownsRow_nil _ _ _ _) w.heap.size (some ad) (lb l n) c ((l.take (lb l n)).map (Value.int .u64)) rfl (by simp; omega) HT.out one_u64 (by unfold maxLen; omega) (by omega) (Nat.le_refl _) ?_; intro v1 w1 hown1 hg1 _; simp only [Nat.zero_add, List.nil_append] at hown1; obtain ⟨A1, c1, rfl, hc1, hr1, hf1⟩ := owns_form hown1; clear tok0; have tok1 : True := trivial))
          go_ret
          exact put_no (m := lb l n + 1 + (l.length - lb l n)) HI.out hg1 hown1 rfl hg2 hown2 (by rw [HD.out]; exact hown3) (by omega) hg3
end Go.Proofs.Ytdobgfadnenhaaa

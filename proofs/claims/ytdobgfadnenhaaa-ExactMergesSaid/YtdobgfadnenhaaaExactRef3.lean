/-
  Walks of the reference of chapter 6: Has, put.
-/
import Derived.Test.YtdobgfadnenhaaaExactRef2
import Derived.Test.YtdobgfadnenhaaaExactFew
namespace Go.Proofs.Ytdobgfadnenhaaa
open Go.RowKit
set_option linter.unusedVariables false

theorem hasB_yes {l : List Int} {k : Nat} {n : Int} (hk : k < l.length) (h : nth l k = n) : hasB l n = rightB l := by
  have : n ∈ l := by rw [← h]; exact nth_mem hk
  simp [hasB, this]
theorem hasB_no {l : List Int} {n : Int} (h : memTo l l.length n = false) : hasB l n = false := by
  simp only [memTo, List.take_length, decide_eq_false_iff_not] at h
  simp [hasB, h]
set_option maxHeartbeats 400000 in
theorem rhas_any (w : World) (c : Nat) (A : Option Addr) (l : List Int) (n : Int) (hS : Sl w w.heap.size A l) (hl : l.length ≤ 1152921504606846976) :
    Calls Try.prog 24 #[.agg #[.slice A l.length c], .int .u64 n] w fun e w' => e = .returned (.bool (hasB l n)) ∧ Below w.heap.size w w' := by
  have HS0 := Lib.hid hS
  go_enter Try.func24, Try.ntmps24
  go_wp2_with fail
  go_loop [5] (fun i => ∃ k : Nat, k ≤ l.length ∧ i = .int .i64 k ∧ memTo l k n = false) (fun i => l.length - (intOf i).toNat)
  case atStart => exact ⟨0, Nat.zero_le _, rfl, memTo_zero _ _⟩
  case round =>
    obtain ⟨k, hk, rfl, hm⟩ := hrel
    have HM := Lib.hid hm
    clear hm
    by_cases hlt : k < l.length
    · obtain ⟨b, off, rfl, hb, hc⟩ := hS.at_ (by omega)
      have hc1 := hc k hlt
      have hi : (k : Int) < (l.length : Int) := by omega
      have HMS := Lib.hid (memTo_succ hlt n)
      clear hc
      by_cases he : nth l k = n
      · have he' : (nth l k == n) = true := by simpa using he
        have HH := Lib.hid (hasB_yes hlt he)
        clear he
        go_wp2_with fail
        refine (rright_b _ c _ l (by exact HS0.out.later (below_al (below_0 _) _)) hl).mono ?_
        rintro e w1 ⟨rfl, hb1⟩
        go_wp2_with fail
        go_ret
        exact ⟨ret_bool HH.out.symm, below_old hb1⟩
      · have he' : (nth l k == n) = false := by simpa using he
        have HE : Hid (memTo l (k + 1) n = false) := by show memTo l (k + 1) n = false; rw [HMS.out, HM.out]; simpa using he
        clear he
        go_wp2_with fail
        go_round
        case rel => exact ⟨k + 1, by omega, by go_num, HE.out⟩
        case measure => simp [intOf]; omega
    · obtain rfl : k = l.length := by omega
      have HH := Lib.hid (hasB_no HM.out)
      go_wp2_with fail
      go_ret
      exact ⟨ret_bool HH.out.symm, below_al (below_0 _) _⟩

theorem own_base' {w : World} {base n : Nat} {e : TypeId} {size : Nat} {v : Value} {xs : List Value} (h : w.ownsRow base e size v n xs) (j : Nat) (hj : v.ownBlock = some j) : base ≤ j := by
  obtain ⟨A, c, rfl, _, _, hb⟩ := owns_form h
  cases A with
  | none => cases hj
  | some ad => cases hj; exact (hb ad rfl).1
/-- What put hands back: a slice of the numbers with n in its place. -/
def PutPost (w : World) (l : List Int) (n : Int) (e : Ending) (w' : World) : Prop :=
  ∃ A' c', e = .returned (.slice A' (ins l n).length c') ∧ (ins l n).length ≤ c' ∧ (A' = none → c' = 0) ∧ Sl w' w'.heap.size A' (ins l n) ∧ Below w.heap.size w w'
theorem put_yes {w : World} {l : List Int} {n : Int} {A : Option Addr} {c : Nat} (hi : atB l (lb l n) n = true) (hc : l.length ≤ c) (hA : A = none → c = 0) (hS : Sl w w.heap.size A l) : PutPost w l n (.returned (.slice A l.length c)) w := by
  have e : ins l n = l := by rw [ins, if_pos hi]
  unfold PutPost
  rw [e]
  exact ⟨A, c, rfl, hc, hA, hS, Below.refl _ _⟩
theorem put_no {w W w1 w2 w3 : World} {l : List Int} {n : Int} {v1 v2 v3 : Value} {m1 m : Nat} (hi : atB l (lb l n) n = false)
    (hg1 : w.grownBy w1 none) (hown1 : w1.ownsRow w.heap.size 25 1 v1 m1 ((l.take (lb l n)).map (Value.int .u64)))
    (hW : (w1.alloc (.cells #[.int .u64 n] 25)) = W) (hg2 : W.grownBy w2 v1.ownBlock)
    (hown2 : w2.ownsRow w.heap.size 25 1 v2 (m1 + 1) ((l.take (lb l n)).map (Value.int .u64) ++ [.int .u64 n]))
    (hown3 : w3.ownsRow w.heap.size 25 1 v3 m (((l.take (lb l n)).map (Value.int .u64) ++ [.int .u64 n]) ++ (l.drop (lb l n)).map (Value.int .u64))) (hm : m = l.length + 1)
    (hg3 : w2.grownBy w3 v2.ownBlock) : PutPost w l n (.returned v3) w3 := by
  have hlb := lb_le l n
  have e : ins l n = l.take (lb l n) ++ n :: l.drop (lb l n) := by rw [ins, if_neg (by rw [hi]; simp)]
  have hlen : (ins l n).length = l.length + 1 := by rw [e]; simp; omega
  obtain ⟨A3, c3, rfl, hc3, hr3, hf3⟩ := owns_form hown3
  have hb1 : Below w.heap.size w w1 := (Below.refl _ _).grown hg1 (Nat.le_refl _) (fun k e => by cases e)
  have hbW : Below w.heap.size w W := by rw [← hW]; exact below_al hb1 _
  have hb2 : Below w.heap.size w w2 := hbW.grown hg2 hbW.size (fun j e => own_base' hown1 j e)
  have hb3 : Below w.heap.size w w3 := hb2.grown hg3 hb2.size (fun j e => own_base' hown2 j e)
  have hs : Sl w3 w3.heap.size A3 (ins l n) := by
    rw [e]; unfold Sl; simpa using hr3
  refine ⟨A3, c3, by rw [hlen, hm], by rw [hlen]; omega, fun h => ?_, hs, hb3⟩
  subst h
  obtain ⟨_, _, h, _⟩ := hs.at_ (by omega)
  cases h
end Go.Proofs.Ytdobgfadnenhaaa

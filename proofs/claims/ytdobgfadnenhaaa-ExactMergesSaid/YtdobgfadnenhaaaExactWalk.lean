/-
  Walks of the package exact: what each of its functions computes.
-/
import Derived.Test.YtdobgfadnenhaaaRows
import Derived.Test.YtdobgfadnenhaaaExactPlain
namespace Go.Proofs.Ytdobgfadnenhaaa
open Go.RowKit
set_option linter.unusedVariables false

set_option maxHeartbeats 400000 in
theorem right_any (w : World) (B : Nat) (A : Option Addr) (c : Nat) (l : List Int) (hS : Sl w B A l) (hB : B ≤ w.heap.size) (hn : l.length ≤ 9223372036854775807) :
    Calls Try.prog 22 #[.agg #[.slice A l.length c]] w fun e w' => e = .returned (.bool (rightB l)) ∧ w.alloc (.cells #[.slice A l.length c] 24) = w' := by
  by_cases h64 : 64 < l.length
  · have hr : Hid (rightB l = false) := by show rightB l = false; simp [rightB]; omega
    have d64 : decide (64 < (l.length : Int)) = true := by simp; omega
    go_enter Try.func22, Try.ntmps22
    go_wp2
    go_ret
    exact ⟨ret_bool hr.out.symm, rfl⟩
  · have d64 : decide (64 < (l.length : Int)) = false := by simp; omega
    go_enter Try.func22, Try.ntmps22
    go_wp2
    go_loop [12] (fun i => ∃ k : Nat, k ≤ l.length ∧ i = .int .i64 k ∧ risesTo l k = true) (fun i => l.length - (intOf i).toNat)
    case atStart => exact ⟨0, Nat.zero_le _, rfl, rfl⟩
    case round =>
      obtain ⟨k, hk, rfl, hr⟩ := hrel
      have HR := Lib.hid hr
      clear hr d64
      by_cases hlt : k < l.length
      · obtain ⟨b, off, rfl, hb, hc⟩ := hS.at_ (by omega)
        have hb' : b < w.heap.size := by omega
        have hne : b ≠ w.heap.size := by omega
        have hc1 : w.cell? ⟨b, off + k, none⟩ = some (.int .u64 (nth l k)) := hc k hlt
        have hs := risesTo_succ l k
        rw [HR.out] at hs
        by_cases h0 : k = 0
        · subst h0
          have hc0 : w.cell? ⟨b, off, none⟩ = some (.int .u64 (nth l 0)) := hc1
          have HS : Hid (risesTo l (0 + 1) = true) := by rw [hs]; rfl
          clear hs hc
          go_wp2
          go_round
          case rel => exact ⟨1, by omega, by go_num, HS.out⟩
          case measure => simp [intOf]; omega
        · have hc2 : w.cell? ⟨b, off + (k - 1), none⟩ = some (.int .u64 (nth l (k - 1))) := hc (k - 1) (by omega)
          clear hc
          have hk0 : 0 < k := by omega
          by_cases hle : nth l (k - 1) < nth l k
          · have HS : Hid (risesTo l (k + 1) = true) := by show risesTo l (k + 1) = true; rw [hs]; simp [hle]
            have hnle : ¬ nth l k ≤ nth l (k - 1) := by omega
            clear hs
            go_wp2
            go_round
            case rel => exact ⟨k + 1, by omega, by go_num, HS.out⟩
            case measure => simp [intOf]; omega
          · have HS : Hid (risesTo l (k + 1) = false) := by show risesTo l (k + 1) = false; rw [hs]; simp [hle, h0]
            have HF : Hid (rightB l = false) := rightB_of_not hlt HS.out
            have hnle : nth l k ≤ nth l (k - 1) := by omega
            clear hs
            go_wp2
            go_ret
            exact ⟨ret_bool HF.out.symm, rfl⟩
      · have HF : Hid (rightB l = true) := by
          obtain rfl : k = l.length := by omega
          show rightB l = true
          simp [rightB, HR.out]; omega
        go_wp2
        go_ret
        exact ⟨ret_bool HF.out.symm, rfl⟩

theorem geq_any (w : World) (x : Int) (i : Nat) (hx : x = (i : Int)) (p q b off c : Nat) (l : List Int) (n : Int) (hi : i < l.length)
    (hp : w.cell? ⟨p, 0, none⟩ = some (.slice (some ⟨b, off, none⟩) l.length c)) (hq : w.cell? ⟨q, 0, none⟩ = some (.int .u64 n))
    (hc : w.cell? ⟨b, off + i, none⟩ = some (.int .u64 (nth l i))) (hn : l.length ≤ 9223372036854775807) (r : Bool) (hr : decide (n ≤ nth l i) = r) :
    Calls Try.prog 36 #[.int .i64 x, .pointer (some ⟨p, 0, none⟩), .pointer (some ⟨q, 0, none⟩)] w fun e w' => e = .returned (.bool r) ∧ ∃ k, w' = w.drewN k := by
  subst hx
  have H := Lib.hid hr
  clear hr
  have hi' : (i : Int) < (l.length : Int) := by omega
  go_enter Try.func36, Try.ntmps36
  go_wp2
  go_quiet (fail)
  go_wp2
  go_ret
  exact ⟨ret_bool H.out, _, rfl⟩

set_option maxHeartbeats 400000 in
theorem search_any (w : World) (p q c B : Nat) (A : Option Addr) (l : List Int) (n : Int) (hR : Rises l)
    (hp : w.cell? ⟨p, 0, none⟩ = some (.slice A l.length c)) (hq : w.cell? ⟨q, 0, none⟩ = some (.int .u64 n)) (hS : Sl w B A l) (hn : l.length ≤ 1152921504606846976) :
    Calls Try.prog 35 #[.int .i64 l.length, .func (.func 36) #[] #[.pointer (some ⟨p, 0, none⟩), .pointer (some ⟨q, 0, none⟩)]] w fun e w' => e = .returned (.int .i64 (lb l n : Nat)) ∧ ∃ k, w' = w.drewN k := by
  have hlb := lb_le l n
  go_enter Try.func35, Try.ntmps35
  go_wp2_with fail
  go_loopw [5, 6] (fun i j wr => ∃ a d m : Nat, i = .int .i64 a ∧ j = .int .i64 d ∧ a ≤ lb l n ∧ lb l n ≤ d ∧ d ≤ l.length ∧ wr = w.drewN m) (fun i j _ => (intOf j).toNat - (intOf i).toNat)
  case atStart => exact ⟨0, l.length, 0, rfl, rfl, Nat.zero_le _, hlb, Nat.le_refl _, rfl⟩
  case round =>
    obtain ⟨a, d, m, rfl, rfl, h1, h2, h3, rfl⟩ := hrel
    by_cases hlt : a < d
    · obtain ⟨b, off, rfl, _, hc⟩ := hS.at_ (by omega)
      have HC := Lib.hid hc
      clear hc
      go_wp2_with fail
      have hh : (a + d) / 2 < l.length := by omega
      have hcc := HC.out ((a + d) / 2) hh
      have hiff := nth_lt_iff hR n ((a + d) / 2) hh
      cases hr : decide (n ≤ nth l ((a + d) / 2)) with
      | true =>
        refine (geq_any (w.drewN m) (((a : Int) + (d : Int)) / 2) ((a + d) / 2) (by omega) p q b off c l n hh hp hq hcc (by omega) true hr).mono ?_
        rintro e w' ⟨rfl, k, rfl⟩
        have h4 : lb l n ≤ (a + d) / 2 := by simp at hr; omega
        clear hr hiff hcc
        go_wp2_with fail
        go_roundw
        case rel => exact ⟨a, (a + d) / 2, _, rfl, by go_num, h1, h4, by omega, rfl⟩
        case measure => simp [intOf]; omega
      | false =>
        refine (geq_any (w.drewN m) (((a : Int) + (d : Int)) / 2) ((a + d) / 2) (by omega) p q b off c l n hh hp hq hcc (by omega) false hr).mono ?_
        rintro e w' ⟨rfl, k, rfl⟩
        have h4 : (a + d) / 2 < lb l n := by simp at hr; omega
        clear hr hiff hcc
        go_wp2_with fail
        go_roundw
        case rel => exact ⟨(a + d) / 2 + 1, d, _, by go_num, rfl, h4, h2, h3, rfl⟩
        case measure => simp [intOf]; omega
    · obtain rfl : a = d := by omega
      have h4 : a = lb l n := by omega
      have H4 := Lib.hid h4
      clear h4
      go_wp2_with fail
      go_ret
      exact ⟨ret_int (by rw [H4.out]), _, rfl⟩

theorem place_any (w : World) (c : Nat) (A : Option Addr) (l : List Int) (n : Int) (hR : Rises l) (hS : Sl w w.heap.size A l) (hn : l.length ≤ 1152921504606846976) :
    Calls Try.prog 30 #[.slice A l.length c, .int .u64 n] w fun e w' => e = .returned (.int .i64 (lb l n : Nat)) ∧ ∃ k, w' = ((w.alloc (.cells #[.slice A l.length c] 22)).alloc (.cells #[.int .u64 n] 25)).drewN k := by
  have hS2 := Lib.hid ((hS.alloc (Nat.le_refl _) (.cells #[.slice A l.length c] 22)).alloc (by simp) (.cells #[.int .u64 n] 25))
  go_enter Try.func30, Try.ntmps30
  go_wp2_with fail
  refine (search_any _ _ _ c w.heap.size A l n hR (by simp) (by simp) hS2.out hn).mono ?_
  rintro e w' ⟨rfl, k, rfl⟩
  go_wp2_with fail
  go_ret
  exact ⟨rfl, _, rfl⟩

theorem isAt_any (w : World) (c k : Nat) (A : Option Addr) (l : List Int) (n : Int) (r : Bool) (hr : atB l k n = r) (hS : Sl w w.heap.size A l) (hk : k ≤ l.length) (hn : l.length ≤ 1152921504606846976) :
    Calls Try.prog 29 #[.slice A l.length c, .int .i64 k, .int .u64 n] w fun e w' => e = .returned (.bool r) ∧ w = w' := by
  have H := Lib.hid hr
  clear hr
  by_cases hlt : k < l.length
  · obtain ⟨b, off, rfl, _, hc⟩ := hS.at_ (by omega)
    have hc1 := hc k hlt
    clear hc
    have hlt' : (k : Int) < (l.length : Int) := by omega
    by_cases he : nth l k = n
    · have he' : (nth l k == n) = true := by simpa using he
      go_enter Try.func29, Try.ntmps29
      go_wp2
      go_ret
      refine ⟨ret_bool ?_, rfl⟩
      rw [← H.out]; simp [atB, hlt, he]
    · have he' : (nth l k == n) = false := by simpa using he
      go_enter Try.func29, Try.ntmps29
      go_wp2
      go_ret
      refine ⟨ret_bool ?_, rfl⟩
      rw [← H.out]; simp [atB, he]
  · have hlt' : decide ((k : Int) < (l.length : Int)) = false := by simp; omega
    go_enter Try.func29, Try.ntmps29
    go_wp2
    go_ret
    refine ⟨ret_bool ?_, rfl⟩
    rw [← H.out]; simp [atB]; omega

theorem Try.infoU64 : (Try.prog.info? 25).map (fun i => (i.zero, i.size, i.bytes)) = some (some (.int .u64 0), 1, 8) := by kernel_rfl

theorem with_in (w : World) (c : Nat) (A : Option Addr) (l : List Int) (n : Int) (hR : Rises l) (hS : Sl w w.heap.size A l) (hn : l.length ≤ 65536) (hi : atB l (lb l n) n = true) :
    Calls Try.prog 34 #[.slice A l.length c, .int .u64 n] w fun e w' => e = .returned (.slice A l.length c) ∧ Below w.heap.size w w' := by
  have hlb := lb_le l n
  have hS2 : ∀ k, Sl (((w.alloc (.cells #[.slice A l.length c] 22)).alloc (.cells #[.int .u64 n] 25)).drewN k) w.heap.size A l := fun k => (hS.alloc (Nat.le_refl _) (.cells #[.slice A l.length c] 22)).alloc (by simp) (.cells #[.int .u64 n] 25)
  have HS := Lib.hid hS2
  have HI := Lib.hid hi
  clear hi hS2
  go_enter Try.func34, Try.ntmps34
  go_wp2_with fail
  refine (place_any _ c A l n hR hS (by omega)).mono ?_
  rintro e w' ⟨rfl, k, rfl⟩
  go_wp2_with fail
  refine (isAt_any _ c (lb l n) A l n true HI.out ((HS.out k).more (by simp; omega)) hlb (by omega)).mono ?_
  rintro e w' ⟨rfl, rfl⟩
  go_wp2_with fail
  go_ret
  exact ⟨rfl, below_drewN (((Below.refl _ _).alloc (Nat.le_refl _) _).alloc (by simp) _) _⟩

/-- The world in which 'with' makes its longer list. -/
def withW (w : World) (A : Option Addr) (m c k : Nat) (n : Int) : World := (((w.alloc (.cells #[.slice A m c] 22)).alloc (.cells #[.int .u64 n] 25)).drewN k).alloc (.cells #[.int .u64 n] 25)
theorem withW_sl {w : World} {A : Option Addr} {l : List Int} (hS : Sl w w.heap.size A l) (m c k : Nat) (n : Int) : Sl (withW w A m c k n) w.heap.size A l :=
  Sl.alloc (w := ((w.alloc (.cells #[.slice A m c] 22)).alloc (.cells #[.int .u64 n] 25)).drewN k) ((hS.alloc (Nat.le_refl _) (.cells #[.slice A m c] 22)).alloc (by simp) (.cells #[.int .u64 n] 25)) (by simp; omega) _
theorem withW_below (w : World) (A : Option Addr) (m c k : Nat) (n : Int) : Below w.heap.size w (withW w A m c k n) :=
  (below_drewN (((Below.refl _ _).alloc (Nat.le_refl _) _).alloc (by simp) _) _).alloc (by simp; omega) _
theorem withW_cell (w : World) (A : Option Addr) (m c k : Nat) (n : Int) : ∀ j u, [Value.int .u64 n][j]? = some u → (withW w A m c k n).cell? ((⟨w.heap.size + 1 + 1, 0, none⟩ : Addr).add j) = some u := cell_one _ _ _ _ (by simp)
theorem withW_size (w : World) (A : Option Addr) (m c k : Nat) (n : Int) : (withW w A m c k n).heap.size = w.heap.size + 3 := by simp [withW]

/-- What 'with' leaves where n was not there. -/
def WithPost (w : World) (l : List Int) (n : Int) (e : Ending) (w' : World) : Prop :=
  ∃ A' c', e = .returned (.slice A' (l.length + 1) c') ∧ l.length + 1 ≤ c' ∧ Sl w' w'.heap.size A' (l.take (lb l n) ++ n :: l.drop (lb l n)) ∧ Below w.heap.size w w' ∧ Fresh w' w.heap.size A'
theorem withPost_of {w W w1 w2 : World} {l : List Int} {n : Int} {v1 v2 : Value} {m : Nat} (hb : Below w.heap.size w W) (hg1 : W.grownBy w1 none)
    (hown1 : w1.ownsRow W.heap.size 25 1 v1 (lb l n + 1) ((l.take (lb l n)).map (Value.int .u64) ++ [.int .u64 n]))
    (hm : m = lb l n + 1 + (l.length - lb l n))
    (hown2 : w2.ownsRow W.heap.size 25 1 v2 m (((l.take (lb l n)).map (Value.int .u64) ++ [.int .u64 n]) ++ (l.drop (lb l n)).map (Value.int .u64)))
    (hg2 : w1.grownBy w2 v1.ownBlock) : WithPost w l n (.returned v2) w2 := by
  have hlb := lb_le l n
  obtain rfl : m = l.length + 1 := by omega
  obtain ⟨A2, c2, rfl, hc2, hr2, ha2⟩ := owns_form hown2
  obtain ⟨A1, c1, rfl, hc1, hr1, ha1⟩ := owns_form hown1
  refine ⟨A2, c2, rfl, hc2, ?_, ?_, ha2.from hb.size⟩
  · unfold Sl
    simpa using hr2
  · have h1 : Below w.heap.size w w1 := hb.grown hg1 hb.size (fun k e => by cases e)
    refine h1.grown hg2 h1.size (fun k e => ?_)
    cases A1 with
    | none => cases e
    | some ad => cases e; exact Nat.le_trans hb.size (ha1 ad rfl).1

theorem with_out (w : World) (c : Nat) (A : Option Addr) (l : List Int) (n : Int) (hR : Rises l) (hS : Sl w w.heap.size A l) (hc : l.length ≤ c) (hA : A = none → c = 0) (hn : l.length ≤ 65536) (hi : atB l (lb l n) n = false) :
    Calls Try.prog 34 #[.slice A l.length c, .int .u64 n] w (WithPost w l n) := by
  obtain ⟨i0, hi0, hz0, hz1, hz2⟩ := info_parts Try.infoU64
  have hlb := lb_le l n
  have HS := Lib.hid hS
  have HI := Lib.hid hi
  have HA := Lib.hid (fun h : A = none => show lb l n = 0 ∧ lb l n = 0 by have := hA h; omega)
  have HA2 := Lib.hid hA
  clear hi hA
  have hw3 := fun k => withW_sl hS l.length c k n
  have HT := Lib.hid (fun k => (hw3 k).take (lb l n))
  have HX := Lib.hid (fun k w1 (hb : Below w.heap.size (withW w A l.length c k n) w1) => ((hw3 k).below hb).cut (lb l n) c hc)
  have HS2 : Hid (∀ k, Sl (((w.alloc (.cells #[.slice A l.length c] 22)).alloc (.cells #[.int .u64 n] 25)).drewN k) w.heap.size A l) := fun k => (hS.alloc (Nat.le_refl _) (.cells #[.slice A l.length c] 22)).alloc (by simp) (.cells #[.int .u64 n] 25)
  clear hw3 hS
  by_cases hcap : c = lb l n
  · have hd : Hid (l.drop (lb l n) = []) := List.drop_eq_nil_of_le (by omega)
    subst hcap
    go_enter Try.func34, Try.ntmps34
    go_wp2_with fail
    refine (place_any _ _ A l n hR HS.out (by omega)).mono ?_
    rintro e w' ⟨rfl, k, rfl⟩
    go_wp2_with fail
    refine (isAt_any _ _ (lb l n) A l n false HI.out (by exact (HS2.out k).more (by simp; omega)) hlb (by omega)).mono ?_
    rintro e w' ⟨rfl, rfl⟩
    go_wp2_with (first | (at_builtin; have _t := tok; refine wpList_append_rd _ rfl (.tmp 22) (.tmp 25) 22 rfl (withW w A l.length (lb l n) k n).heap.size 25 i0 (.int .u64 0) 1 8 Try.underlying22 hi0 hz0 hz1 hz2 rfl (by decide) _ _ _ rfl hown1 w.heap.size A 0 0 [] rfl (by simp) Rd.none_ (by simp [Value.oneCell']) (by unfold maxLen; omega) (by omega) hs1 ?_; intro v2 w2 hown2 hg2 _) | (at_builtin; refine wpList_append_grows _ rfl (.tmp 18) (.tmp 20) 22 rfl 25 i0 (.int .u64 0) 1 8 Try.underlying22 hi0 hz0 hz1 hz2 rfl (by decide) A (lb l n) (lb l n) ((l.take (lb l n)).map (Value.int .u64)) rfl HA.out (by simp; omega) (Rd.adds (HT.out k)) ⟨w.heap.size + 1 + 1, 0, none⟩ 1 1 [.int .u64 n] rfl rfl (withW_cell w A l.length (lb l n) k n) (by simp [Value.oneCell']) (by omega) (by unfold maxLen; omega) (by omega) ?_; intro v1 w1 hown1 hg1; obtain ⟨A1, c1, rfl, hc1, hr1, ha1⟩ := owns_form hown1; have hx1 := HX.out k w1 ((Below.refl _ (withW w A l.length (lb l n) k n)).grown hg1 (by rw [withW_size]; omega) (fun k e => by cases e)); have hs1 : (withW w A l.length (lb l n) k n).heap.size ≤ w1.heap.size := hg1.size; have tok : True := trivial))
    go_ret
    exact withPost_of (m := lb l n + 1 + 0) (withW_below w A l.length (lb l n) k n) hg1 hown1 (by omega) (by rw [hd.out]; exact hown2) hg2
  · have hne : A ≠ none := fun e => by have := HA2.out e; omega
    obtain ⟨ad, rfl⟩ : ∃ ad, A = some ad := by cases A with | none => exact absurd rfl hne | some ad => exact ⟨ad, rfl⟩
    have HX1 : Hid (∀ k w1, Below w.heap.size (withW w (some ad) l.length c k n) w1 → Sl w1 w.heap.size (some (ad.add (lb l n))) (l.drop (lb l n))) := fun k w1 hb => by have := HX.out k w1 hb; rwa [if_neg hcap] at this
    clear HX hne
    have hcap' : lb l n < c := by omega
    clear hcap
    go_enter Try.func34, Try.ntmps34
    go_wp2_with fail
    refine (place_any _ _ (some ad) l n hR HS.out (by omega)).mono ?_
    rintro e w' ⟨rfl, k, rfl⟩
    go_wp2_with fail
    refine (isAt_any _ _ (lb l n) (some ad) l n false HI.out (by exact (HS2.out k).more (by simp; omega)) hlb (by omega)).mono ?_
    rintro e w' ⟨rfl, rfl⟩
    go_wp2_with (first | (at_builtin; have _t := tok; refine wpList_append_rd _ rfl (.tmp 22) (.tmp 25) 22 rfl (withW w (some ad) l.length c k n).heap.size 25 i0 (.int .u64 0) 1 8 Try.underlying22 hi0 hz0 hz1 hz2 rfl (by decide) _ _ _ rfl hown1 w.heap.size (some (ad.add (lb l n))) (l.length - lb l n) (c - lb l n) ((l.drop (lb l n)).map (Value.int .u64)) rfl (by simp) hx1 one_u64 (by unfold maxLen; omega) (by omega) hs1 ?_; intro v2 w2 hown2 hg2 _) | (at_builtin; refine wpList_append_grows _ rfl (.tmp 18) (.tmp 20) 22 rfl 25 i0 (.int .u64 0) 1 8 Try.underlying22 hi0 hz0 hz1 hz2 rfl (by decide) (some ad) (lb l n) (lb l n) ((l.take (lb l n)).map (Value.int .u64)) rfl (fun h => by cases h) (by simp; omega) (Rd.adds (HT.out k)) ⟨w.heap.size + 1 + 1, 0, none⟩ 1 1 [.int .u64 n] rfl rfl (withW_cell w (some ad) l.length c k n) (by simp [Value.oneCell']) (by omega) (by unfold maxLen; omega) (by omega) ?_; intro v1 w1 hown1 hg1; obtain ⟨A1, c1, rfl, hc1, hr1, ha1⟩ := owns_form hown1; have hx1 := HX1.out k w1 ((Below.refl _ (withW w (some ad) l.length c k n)).grown hg1 (by rw [withW_size]; omega) (fun k e => by cases e)); have hs1 : (withW w (some ad) l.length c k n).heap.size ≤ w1.heap.size := hg1.size; have tok : True := trivial))
    go_ret
    exact withPost_of (withW_below w (some ad) l.length c k n) hg1 hown1 rfl hown2 hg2

theorem with_any (w : World) (base c : Nat) (A : Option Addr) (l : List Int) (n : Int) (hR : Rises l) (hS : Sl w w.heap.size A l) (hc : l.length ≤ c) (hA : A = none → c = 0) (hF : Fresh w base A) (hb : base ≤ w.heap.size) (hn : l.length ≤ 65536) :
    Calls Try.prog 34 #[.slice A l.length c, .int .u64 n] w fun e w' => ∃ v, e = .returned v ∧ Held w' base v (ins l n) ∧ Below w.heap.size w w' := by
  cases hi : atB l (lb l n) n with
  | true =>
    refine (with_in w c A l n hR hS hn hi).mono ?_
    rintro e w' ⟨rfl, hb'⟩
    refine ⟨_, rfl, ?_, hb'⟩
    rw [ins, if_pos hi]
    exact ⟨A, c, rfl, hc, hA, hS.later hb', hF.later hb'⟩
  | false =>
    refine (with_out w c A l n hR hS hc hA hn hi).mono ?_
    rintro e w' ⟨A', c', rfl, hc', hS', hb', hF'⟩
    have hi' : ¬ atB l (lb l n) n = true := by rw [hi]; simp
    have hlb := lb_le l n
    refine ⟨_, rfl, ?_, hb'⟩
    rw [ins, if_neg hi']
    refine ⟨A', c', ?_, ?_, ?_, hS', hF'.from hb⟩
    · congr 1; simp; omega
    · simp; omega
    · rintro rfl
      obtain ⟨_, _, h, _⟩ := hS'.at_ (by simp; omega)
      cases h
end Go.Proofs.Ytdobgfadnenhaaa

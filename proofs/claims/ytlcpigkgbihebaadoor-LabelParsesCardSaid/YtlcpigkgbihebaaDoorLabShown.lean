/-
  aviarylaw04.shown is true; Parse comes to one thing alone.
-/
import Derived.Test.YtlcpigkgbihebaaDoorLabText
namespace Go.Proofs.YtlcpigkgbihebaaDoor
open Go.RowKit
set_option linter.unusedVariables false
set_option linter.unusedSimpArgs false
theorem leq_ls {a b : List UInt8} (h : leqB a b = false) : lsB b a = true := by
  unfold leqB at h
  rw [Bool.or_eq_false_iff] at h
  rcases lsB_tri a b with h1 | h1 | h1
  · have := h.1
    rw [show Op.bytesLess a b = lsB a b from rfl, h1] at this
    cases this
  · have := h.2
    rw [h1] at this
    simp at this
  · exact h1
theorem chain_pair : ∀ (l : List Lab) (pv : List UInt8), chainB pv l = true → (∀ x ∈ l, lsB pv (tx x.1) = true) ∧ l.Pairwise (fun x y => ahead x y = true)
  | [], _, _ => ⟨(fun _ h => (by cases h)), List.Pairwise.nil⟩
  | y :: l, pv, h => by
    rw [chainB, Bool.and_eq_true] at h
    obtain ⟨h1, h2⟩ := h
    obtain ⟨ih1, ih2⟩ := chain_pair l _ h2
    rw [okStep] at h1
    simp only [Bool.and_eq_true, Bool.not_eq_true'] at h1
    have hy : lsB pv (tx y.1) = true := leq_ls h1.2.1
    refine ⟨fun x hx => ?_, List.pairwise_cons.2 ⟨fun x hx => ih1 x hx, ih2⟩⟩
    rcases List.mem_cons.1 hx with rfl | hx
    · exact hy
    · exact lsB_trans hy (ih1 x hx)
theorem setB_pair {l : List Lab} (h : setB l = true) : l.Pairwise (fun x y => ahead x y = true) := by
  unfold setB at h
  simp only [Bool.and_eq_true] at h
  exact (chain_pair l [] h.2).2
theorem srt_pair {l : List Lab} (h : Srt l l.length) : l.Pairwise (fun x y => ahead y x = false) := by
  rw [List.pairwise_iff_getElem]
  intro i j hi hj hij
  have := h i j hij hj
  have e1 : lth l i = l[i] := by simp [lth, hi]
  have e2 : lth l j = l[j] := by simp [lth, hj]
  rw [e1, e2] at this
  exact this
theorem pair_unique : ∀ {m cur : List Lab}, cur.Perm m → cur.Pairwise (fun x y => ahead y x = false) → m.Pairwise (fun x y => ahead x y = true) → cur = m
  | [], cur, p, _, _ => p.eq_nil
  | y :: m, [], p, _, _ => by have := p.length_eq; simp at this
  | y :: m, z :: cur, p, hc, hm => by
    obtain ⟨c1, c2⟩ := List.pairwise_cons.1 hc
    obtain ⟨m1, m2⟩ := List.pairwise_cons.1 hm
    have e : z = y := by
      apply Classical.byContradiction
      intro hne
      have hz : z ∈ m := by
        rcases List.mem_cons.1 (p.mem_iff.1 (List.mem_cons_self ..)) with h | h
        · exact absurd h hne
        · exact h
      have hy : y ∈ cur := by
        rcases List.mem_cons.1 (p.symm.mem_iff.1 (List.mem_cons_self ..)) with h | h
        · exact absurd h.symm hne
        · exact h
      have h1 := m1 z hz
      have h2 := c1 y hy
      rw [h1] at h2
      cases h2
    subst e
    rw [pair_unique (p.cons_inv) c2 m2]
theorem sorted_unique {l m cur : List Lab} (h1 : cur.Perm l) (h2 : Srt cur cur.length) (h3 : m.Perm l) (h4 : setB m = true) : cur = m :=
  pair_unique (h1.trans h3.symm) (srt_pair h2) (setB_pair h4)
/-- A text that tells a list of which some order is a set tells that set. -/
theorem parse_some {t : List UInt8} {r : Option (List Lab)} {l m : List Lab} (h : ParseIs t r) (hl : readF t = some l) (h3 : m.Perm l) (h4 : setB m = true) : r = some m := by
  unfold ParseIs at h
  rw [hl] at h
  obtain ⟨cur, h1, h2, rfl⟩ := h
  rw [sorted_unique h1 h2 h3 h4, if_pos h4]
theorem parse_none {t : List UInt8} {r : Option (List Lab)} {l : List Lab} (h : ParseIs t r) (hl : readF t = some l) (hn : ∀ m : List Lab, m.Perm l → setB m = false) : r = none := by
  unfold ParseIs at h
  rw [hl] at h
  obtain ⟨cur, h1, h2, rfl⟩ := h
  rw [hn cur h1, if_neg (by simp)]
theorem parse_bad {t : List UInt8} {r : Option (List Lab)} (h : ParseIs t r) (hl : readF t = none) : r = none := by
  unfold ParseIs at h
  rw [hl] at h
  exact h
theorem parse_eq {t : List UInt8} {r r' : Option (List Lab)} (h : ParseIs t r) (h' : ParseIs t r') : r = r' := by
  cases hl : readF t with
  | none => rw [parse_bad h hl, parse_bad h' hl]
  | some l =>
    by_cases hm : ∃ m : List Lab, m.Perm l ∧ setB m = true
    · obtain ⟨m, h3, h4⟩ := hm
      rw [parse_some h hl h3 h4, parse_some h' hl h3 h4]
    · have hn : ∀ m : List Lab, m.Perm l → setB m = false := fun m hm' => by
        cases e : setB m with
        | false => rfl
        | true => exact absurd ⟨m, hm', e⟩ hm
      rw [parse_none h hl hn, parse_none h' hl hn]
def c1 : List UInt8 := [98, 61, 120, 92, 121, 44, 97, 61, 195, 169, 92, 44]
def labA : Lab := (⟨#[97]⟩, ⟨#[195, 169, 44]⟩)
def labB : Lab := (⟨#[98]⟩, ⟨#[120, 121]⟩)
theorem read_c1 : readF c1 = some [labB, labA] := by decide +kernel
theorem set_c1 : setB [labA, labB] = true := by decide +kernel
theorem text_c1 : textB [labA, labB] = [97, 61, 195, 169, 92, 44, 44, 98, 61, 120, 121] := by decide +kernel
def c2 : List UInt8 := [97, 61, 49, 44, 97, 61, 50]
theorem read_c2 : readF c2 = some [(⟨#[97]⟩, ⟨#[49]⟩), (⟨#[97]⟩, ⟨#[50]⟩)] := by decide +kernel
theorem runes_c3 : runesF [195, 169, 44] = (2, true) := by decide +kernel
theorem set_c2 (m : List Lab) (h : m.Perm [(⟨#[97]⟩, ⟨#[49]⟩), (⟨#[97]⟩, ⟨#[50]⟩)]) : setB m = false := by
  cases e : setB m with
  | false => rfl
  | true =>
    have hp := setB_pair e
    have hl := h.length_eq
    match m, hl with
    | [x, y], _ =>
      have hx : tx x.1 = [97] := by
        rcases List.mem_cons.1 (h.mem_iff.1 (List.mem_cons_self ..)) with h | h
        · rw [h]; rfl
        · rw [List.mem_singleton.1 h]; rfl
      have hy : tx y.1 = [97] := by
        rcases List.mem_cons.1 (h.mem_iff.1 (List.mem_cons_of_mem _ (List.mem_cons_self ..))) with h | h
        · rw [h]; rfl
        · rw [List.mem_singleton.1 h]; rfl
      have := (List.pairwise_cons.1 hp).1 y (List.mem_cons_self ..)
      unfold ahead at this
      rw [hx, hy] at this
      cases this
set_option maxRecDepth 100000 in
set_option maxHeartbeats 1000000 in
theorem shown_any (w : World) (hT : Tb w) : Calls Tryd.prog 10 #[] w fun e w' => e = .returned (.bool true) ∧ Below w.heap.size w w' := by
  have HT := Lib.hid hT
  have Q1 := Lib.hid (parse_any ⟨#[98, 61, 120, 92, 121, 44, 97, 61, 195, 169, 92, 44]⟩ w (by decide) hT)
  clear hT
  go_enter Tryd.func10, Tryd.ntmps10
  go_wp2_with fail
  refine Q1.out.mono ?_
  rintro e w1 ⟨hb1, r, hr, hm⟩
  obtain rfl := parse_some (m := [labA, labB]) hr read_c1 (List.Perm.swap _ _ _) set_c1
  obtain ⟨A, cap, rfl, hcap, _, hS⟩ := hm
  have HB1 := Lib.hid hb1
  have hlen : [labA, labB].length = 2 := rfl
  have Q2 : Hid (Calls Tryd.prog 18 #[.slice A 2 cap] w1 fun e w' => e = .returned (.tuple #[.string ⟨#[97, 61, 195, 169, 92, 44, 44, 98, 61, 120, 121]⟩, .int .i64 0]) ∧ Below w1.heap.size w1 w') := by
    have := text_any A [labA, labB] cap (by decide) w1 (HT.out.later hb1) hS
    rw [if_pos set_c1, text_c1] at this
    exact this
  clear hr hb1 hS hlen Q1
  show _
  go_wp2_with fail
  refine Q2.out.mono ?_
  rintro e w2 ⟨rfl, hb2⟩
  have HB2 := Lib.hid (Below.two HB1.out hb2)
  have Q3 := Lib.hid (parse_any ⟨#[97, 61, 49, 44, 97, 61, 50]⟩ w2 (by decide) (HT.out.later HB2.out))
  clear hb2
  go_wp2_with fail
  refine Q3.out.mono ?_
  rintro e w3 ⟨hb3, r, hr, hm⟩
  obtain rfl := parse_none hr read_c2 set_c2
  simp only at hm
  subst hm
  have HB3 := Lib.hid (Below.two HB2.out hb3)
  have Q4 := Lib.hid (runes_any ⟨#[195, 169, 44]⟩ w3 (by decide) (HT.out.later HB3.out))
  rw [show tx ⟨#[195, 169, 44]⟩ = [195, 169, 44] from rfl, runes_c3] at Q4
  clear hb3 hr
  go_wp2_with fail
  refine Q4.out.mono ?_
  rintro e w4 ⟨rfl, hb4⟩
  go_wp2_with fail
  go_ret
  exact ⟨rfl, Below.two HB3.out hb4⟩
end Go.Proofs.YtlcpigkgbihebaaDoor

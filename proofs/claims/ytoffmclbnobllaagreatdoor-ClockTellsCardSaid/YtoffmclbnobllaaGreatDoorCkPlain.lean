/-
  Plain laws of the clock.
-/
import Derived.Test.YtoffmclbnobllaaGreatDoorCkFew3
namespace Go.Proofs.YtoffmclbnobllaaGreatDoor
open Go.RowKit
set_option linter.unusedVariables false
set_option linter.unusedSimpArgs false
theorem lessL_trans : ∀ {l m n : List Lab}, lessL l m = true → lessL m n = true → lessL l n = true
  | [], [], _, h, _ => by simp [lessL] at h
  | [], _ :: _, [], _, h => by simp [lessL] at h
  | [], _ :: _, _ :: _, _, _ => rfl
  | _ :: _, [], _, h, _ => by simp [lessL] at h
  | _ :: _, _ :: _, [], _, h => by simp [lessL] at h
  | x :: l, y :: m, z :: n, h, k => by
    rw [lessL] at h k ⊢
    by_cases p1 : tx x.1 = tx y.1 <;> by_cases q1 : tx y.1 = tx z.1
    · by_cases p2 : tx x.2 = tx y.2 <;> by_cases q2 : tx y.2 = tx z.2
      · rw [if_pos ⟨p1, p2⟩] at h
        rw [if_pos ⟨q1, q2⟩] at k
        rw [if_pos ⟨p1.trans q1, p2.trans q2⟩]
        exact lessL_trans h k
      · rw [if_neg (fun e => q2 e.2), if_pos q1] at k
        rw [if_neg (fun e => q2 (p2.symm.trans e.2)), if_pos (p1.trans q1), p2]; exact k
      · rw [if_neg (fun e => p2 e.2), if_pos p1] at h
        rw [if_neg (fun e => p2 (e.2.trans q2.symm)), if_pos (p1.trans q1), ← q2]; exact h
      · rw [if_neg (fun e => p2 e.2), if_pos p1] at h
        rw [if_neg (fun e => q2 e.2), if_pos q1] at k
        have t := lsB_trans h k
        rw [if_neg (fun e => by rw [e.2, lsB_irr] at t; cases t), if_pos (p1.trans q1)]; exact t
    · rw [if_neg (fun e => q1 e.1), if_neg q1] at k
      rw [if_neg (fun e => q1 (p1.symm.trans e.1)), if_neg (fun e => q1 (p1.symm.trans e)), p1]; exact k
    · rw [if_neg (fun e => p1 e.1), if_neg p1] at h
      rw [if_neg (fun e => p1 (e.1.trans q1.symm)), if_neg (fun e => p1 (e.trans q1.symm)), ← q1]; exact h
    · rw [if_neg (fun e => p1 e.1), if_neg p1] at h
      rw [if_neg (fun e => q1 e.1), if_neg q1] at k
      have t := lsB_trans h k
      have ne : tx x.1 ≠ tx z.1 := fun e => by rw [e, lsB_irr] at t; cases t
      rw [if_neg (fun e => ne e.1), if_neg ne]; exact t
def Tight (t : List Ser) : Prop := (∀ s ∈ t, rightS s = true) ∧ t.Pairwise (fun a b => lessL a.l b.l = true)
theorem sth_get {t : List Ser} {k : Nat} (h : k < t.length) : sth t k = t[k] := by simp [sth, h]
theorem okUp_all {t : List Ser} {n : Nat} : okUp t n = true ↔ ∀ k, k < n → okAt t k = true := by
  unfold okUp; rw [List.all_eq_true]; simp
theorem tight_up {t : List Ser} (h : okUp t t.length = true) : Tight t := by
  rw [okUp_all] at h
  have h' : ∀ k (hk : k < t.length), rightS t[k] = true ∧ (k = 0 ∨ ∃ hp : k - 1 < t.length, lessL (t[k - 1]).l (t[k]).l = true) := fun k hk => by
    have := h k hk
    unfold okAt at this
    rw [Bool.and_eq_true, Bool.or_eq_true, decide_eq_true_eq, sth_get hk, sth_get (by omega : k - 1 < t.length)] at this
    exact ⟨this.1, this.2.imp id (fun e => ⟨by omega, e⟩)⟩
  refine ⟨fun s hs => ?_, List.pairwise_iff_getElem.2 fun i j hi hj hij => ?_⟩
  · obtain ⟨k, hk, rfl⟩ := List.getElem_of_mem hs
    exact (h' k hk).1
  · have go : ∀ d (hd : i + 1 + d < t.length), lessL (t[i]).l (t[i + 1 + d]).l = true := by
      intro d
      induction d with
      | zero =>
        intro hd
        rcases (h' (i + 1) hd).2 with e | ⟨_, e⟩
        · omega
        · exact e
      | succ d ih =>
        intro hd
        rcases (h' (i + 1 + d + 1) hd).2 with e | ⟨_, e⟩
        · omega
        · exact lessL_trans (ih (by omega)) e
    have e : j = i + 1 + (j - i - 1) := by omega
    have := go (j - i - 1) (by omega)
    simpa [← e] using this
theorem up_tight {t : List Ser} (h : Tight t) : okUp t t.length = true := by
  rw [okUp_all]
  intro k hk
  unfold okAt
  rw [Bool.and_eq_true, Bool.or_eq_true, decide_eq_true_eq, sth_get hk, sth_get (by omega : k - 1 < t.length)]
  refine ⟨h.1 _ (List.getElem_mem hk), ?_⟩
  by_cases e : k = 0
  · exact .inl e
  · exact .inr (List.pairwise_iff_getElem.1 h.2 (k - 1) k (by omega) hk (by omega))
theorem rightT_iff {t : List Ser} : rightT t = true ↔ t.length ≤ 20 ∧ Tight t := by
  unfold rightT
  rw [Bool.and_eq_true, decide_eq_true_eq]
  exact ⟨fun h => ⟨h.1, tight_up h.2⟩, fun h => ⟨h.1, up_tight h.2⟩⟩
/-- A part of a table is a table. -/
theorem rightT_filter {t : List Ser} (p : Ser → Bool) (h : rightT t = true) : rightT (t.filter p) = true := by
  rw [rightT_iff] at h ⊢
  exact ⟨Nat.le_trans (List.length_filter_le _ _) h.1, fun s hs => h.2.1 s (List.mem_filter.1 hs).1, h.2.2.filter _⟩
/-- What is stale stays stale. -/
theorem stale_mono {s a b l m : Int} (h1 : a ≤ b) (h2 : m ≤ l) (h : staleF s a l = true) : staleF s b m = true := by
  unfold staleF at h ⊢
  rw [decide_eq_true_eq] at h ⊢
  omega
theorem fresh_mono {a b l m : Int} (h1 : a ≤ b) (h2 : m ≤ l) (s : Ser) (h : freshF b m s = true) : freshF a l s = true := by
  unfold freshF at h ⊢
  cases hs : staleF s.seen a l with
  | false => rfl
  | true => rw [stale_mono h1 h2 hs] at h; cases h
theorem filter_len_le {p q : Ser → Bool} (h : ∀ s, q s = true → p s = true) : ∀ t : List Ser, (t.filter q).length ≤ (t.filter p).length
  | [] => Nat.le_refl _
  | s :: t => by
    have ih := filter_len_le h t
    rw [List.filter_cons, List.filter_cons]
    cases hq : q s with
    | true => rw [h s hq]; simpa using ih
    | false =>
      rw [if_neg (by decide)]
      cases p s with
      | true => rw [if_pos rfl, List.length_cons]; omega
      | false => rw [if_neg (by decide)]; exact ih
theorem filter_two {p q : Ser → Bool} (h : ∀ s, q s = true → p s = true) (t : List Ser) : (t.filter p).filter q = t.filter q := by
  rw [List.filter_filter]
  congr 1
  funext s
  cases hq : q s with
  | true => rw [h s hq]; rfl
  | false => rfl
theorem filter_fresh (now life : Int) (t : List Ser) : ∀ s ∈ t.filter (freshF now life), staleF s.seen now life = false := fun s hs => by
  have := (List.mem_filter.1 hs).2
  unfold freshF at this
  cases h : staleF s.seen now life with
  | false => rfl
  | true => rw [h] at this; cases this
/-- The next time: told, it is the first at which one is stale; not told, none ever is. -/
def NextIs (life : Int) (t : List Ser) (p : Int × Bool) : Prop :=
  (p.2 = false → ∀ s ∈ t, life = 18446744073709551615 ∨ 18446744073709551614 - life < s.seen) ∧
  (p.2 = true → U p.1 ∧ (∃ s ∈ t, life ≠ 18446744073709551615 ∧ s.seen ≤ 18446744073709551614 - life ∧ p.1 = s.seen + life + 1) ∧ ∀ s ∈ t, life = 18446744073709551615 ∨ 18446744073709551614 - life < s.seen ∨ p.1 ≤ s.seen + life + 1)
theorem nextF_is {life : Int} (hl : U life) (t : List Ser) (hu : ∀ s ∈ t, U s.seen) : NextIs life t (nextF life t) := by
  have go : ∀ (t r : List Ser) (p : Int × Bool), (∀ s ∈ t, U s.seen) → NextIs life r p → NextIs life (r ++ t) (t.foldl (nextS life) p) := by
    intro t
    induction t with
    | nil => intro r p _ h; rw [List.append_nil]; exact h
    | cons s t ih =>
      intro r p hu h
      have e : r ++ s :: t = (r ++ [s]) ++ t := by simp
      rw [e, List.foldl_cons]
      refine ih _ _ (fun x hx => hu x (List.mem_cons_of_mem _ hx)) ?_
      have us := hu s List.mem_cons_self
      obtain ⟨u1, u2⟩ := us
      obtain ⟨l1, l2⟩ := hl
      obtain ⟨p1, p2⟩ := p
      obtain ⟨ha, hb⟩ := h
      dsimp only at ha hb
      have hmem : ∀ x, x ∈ r ++ [s] ↔ x ∈ r ∨ x = s := fun x => by simp
      unfold nextS
      by_cases c1 : life = 18446744073709551615 ∨ 18446744073709551614 - life < s.seen
      · rw [if_pos c1]
        refine ⟨fun h2 x hx => ?_, fun h2 => ?_⟩
        · rcases (hmem x).1 hx with hx | rfl
          · exact ha h2 x hx
          · exact c1
        · obtain ⟨hU, ⟨y, hy, hy2⟩, hall⟩ := hb h2
          refine ⟨hU, ⟨y, (hmem y).2 (.inl hy), hy2⟩, fun x hx => ?_⟩
          rcases (hmem x).1 hx with hx | rfl
          · exact hall x hx
          · exact c1.imp id .inl
      · rw [if_neg c1]
        by_cases c2 : p2 = false ∨ s.seen + life + 1 < p1
        · rw [if_pos c2]
          refine ⟨fun h2 => (by cases h2), fun _ => ⟨⟨by dsimp only; omega, by dsimp only; omega⟩, ⟨s, (hmem s).2 (.inr rfl), by omega, by omega, rfl⟩, fun x hx => ?_⟩⟩
          dsimp only
          rcases (hmem x).1 hx with hx | rfl
          · cases p2 with
            | false => exact (ha rfl x hx).imp id .inl
            | true =>
              have := (hb rfl).2.2 x hx
              rcases c2 with c2 | c2
              · cases c2
              · omega
          · exact .inr (.inr (Int.le_refl _))
        · rw [if_neg c2]
          refine ⟨fun h2 => absurd (.inl h2) c2, fun h2 => ?_⟩
          obtain ⟨hU, ⟨y, hy, hy2⟩, hall⟩ := hb h2
          refine ⟨hU, ⟨y, (hmem y).2 (.inl hy), hy2⟩, fun x hx => ?_⟩
          rcases (hmem x).1 hx with hx | rfl
          · exact hall x hx
          · dsimp only at c2 ⊢; omega
  have := go t [] (0, false) hu ⟨fun _ s hs => (by cases hs), fun h => (by cases h)⟩
  simpa [nextF] using this
theorem filter_all_len {p : Ser → Bool} {t : List Ser} (h : ∀ s ∈ t, p s = true) : (t.filter p).length = t.length := by rw [List.filter_eq_self.2 h]
theorem filter_some_len {p : Ser → Bool} {t : List Ser} {s : Ser} (hs : s ∈ t) (h : p s = false) : (t.filter p).length < t.length := by
  rcases Nat.lt_or_ge (t.filter p).length t.length with h1 | h1
  · exact h1
  · have e := List.filter_sublist (p := p) (l := t) |>.eq_of_length_le h1
    rw [← e] at hs
    rw [(List.mem_filter.1 hs).2] at h; cases h
/-- Not told: nothing is ever stale. -/
theorem next_none {life now : Int} {t : List Ser} (hn : U now) (hu : ∀ s ∈ t, U s.seen) (hl : U life) (h : (nextF life t).2 = false) : (t.filter (freshF now life)).length = t.length := by
  refine filter_all_len fun s hs => ?_
  have := (nextF_is hl t hu).1 h s hs
  obtain ⟨u1, u2⟩ := hu s hs
  obtain ⟨n1, n2⟩ := hn
  have : staleF s.seen now life = false := by unfold staleF; rw [decide_eq_false_iff_not]; omega
  unfold freshF; rw [this]; rfl
/-- Told: one is stale at a time just where that time is not before it. -/
theorem next_some {life now : Int} {t : List Ser} (hn : U now) (hu : ∀ s ∈ t, U s.seen) (hl : U life) (h : (nextF life t).2 = true) : ((t.filter (freshF now life)).length < t.length) ↔ (nextF life t).1 ≤ now := by
  obtain ⟨hU, ⟨y, hy, h1, h2, h3⟩, hall⟩ := (nextF_is hl t hu).2 h
  obtain ⟨n1, n2⟩ := hn
  constructor
  · intro hlt
    refine Decidable.byContradiction fun hc => ?_
    have : (t.filter (freshF now life)).length = t.length := filter_all_len fun s hs => by
      have q := hall s hs
      obtain ⟨u1, u2⟩ := hu s hs
      have : staleF s.seen now life = false := by unfold staleF; rw [decide_eq_false_iff_not]; omega
      unfold freshF; rw [this]; rfl
    omega
  · intro hle
    obtain ⟨u1, u2⟩ := hu y hy
    obtain ⟨l1, l2⟩ := hl
    refine filter_some_len hy ?_
    have : staleF y.seen now life = true := by unfold staleF; rw [decide_eq_true_eq]; omega
    unfold freshF; rw [this]; rfl
end Go.Proofs.YtoffmclbnobllaaGreatDoor

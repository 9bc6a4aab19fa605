/-
  A text of labels read byte by byte with no questions asked, and how the reader's answer hangs on it. No program in sight.
-/
import Derived.Test.YtlcpigkgbihebaaDoorLabQuo
namespace Go.Proofs.YtlcpigkgbihebaaDoor
set_option linter.unusedVariables false
set_option linter.unusedSimpArgs false
/-- A raw reader: a name, a value, where it stands, what it has. -/
structure RB where
  nm : List UInt8
  vl : List UInt8
  place : Nat
  l : List Lab
def mkL (n v : List UInt8) : Lab := (⟨n.toArray⟩, ⟨v.toArray⟩)
def stepB (s : RB) (b : UInt8) : RB :=
  if s.place = 0 then (if b = 61 then { s with place := 1 } else { s with nm := s.nm ++ [b] })
  else if s.place = 1 then (if b = 44 then ⟨[], [], 0, s.l ++ [mkL s.nm s.vl]⟩ else if b = 92 then { s with place := 2 } else { s with vl := s.vl ++ [b] })
  else { s with vl := s.vl ++ [b], place := 1 }
def endB (s : RB) : Option (List Lab) := if s.place = 1 then some (s.l ++ [mkL s.nm s.vl]) else none
def RB.zero : RB := ⟨[], [], 0, []⟩
def rawF (t : List UInt8) : Option (List Lab) := endB (t.foldl stepB RB.zero)
def stepD (s : RB) (d : Rn) : RB :=
  if s.place = 0 then (if d.1 = 61 then { s with place := 1 } else { s with nm := s.nm ++ encL d })
  else if s.place = 1 then (if d.1 = 44 then ⟨[], [], 0, s.l ++ [mkL s.nm s.vl]⟩ else if d.1 = 92 then { s with place := 2 } else { s with vl := s.vl ++ encL d })
  else { s with vl := s.vl ++ encL d, place := 1 }
theorem enc_ne {d : Rn} (g : Good d) : encL d ≠ [] := by
  intro e
  have := g.cp_ []
  rw [e, List.append_nil, cp_nil] at this
  simp at this
theorem enc_cases {d : Rn} (g : Good d) : (∃ b, encL d = [b] ∧ b.toNat = d.1 ∧ d.1 < 128) ∨ (128 ≤ d.1 ∧ ∀ b ∈ encL d, 128 ≤ b.toNat) := by
  have hne := enc_ne g
  have hc := g.cp_ []
  rw [List.append_nil, cp_nil, cp_cons hne] at hc
  have hd : decL (encL d) = d := (List.cons.inj hc).1
  have ht : encL d = (encL d).take (decL (encL d)).2 := by
    have := enc_dec hne (by rw [hd]; exact g.ok)
    rw [hd] at this
    rw [hd]; exact this
  by_cases hb : ((encL d).getD 0 0).toNat < 128
  · left
    have e := dec_low hb
    rw [hd] at e
    have e1 : d.1 = ((encL d).getD 0 0).toNat := congrArg Prod.fst e
    have e2 : (decL (encL d)).2 = 1 := by rw [hd]; exact congrArg Prod.snd e
    refine ⟨(encL d).getD 0 0, ?_, e1.symm, by rw [e1]; exact hb⟩
    rw [e2] at ht
    clear e e1 e2 hd hc hb
    cases h : encL d with
    | nil => exact absurd h hne
    | cons x r => rw [h] at ht; simp at ht; simp [ht]
  · right
    have h1 := dec_high hb
    rw [hd] at h1
    refine ⟨h1, fun b hb2 => ?_⟩
    have hok : okR (decL (encL d)) = true := by rw [hd]; exact g.ok
    rw [ht] at hb2
    exact take_high hne hok hb b hb2
theorem step_high0 : ∀ (l : List UInt8) (s : RB), (∀ b ∈ l, 128 ≤ b.toNat) → s.place = 0 → l.foldl stepB s = { s with nm := s.nm ++ l }
  | [], s, _, _ => by simp
  | b :: l, s, h, hp => by
    have hb := h b List.mem_cons_self
    have h1 : b ≠ 61 := by rintro rfl; revert hb; decide
    have e : stepB s b = { s with nm := s.nm ++ [b] } := by rw [stepB, if_pos hp, if_neg h1]
    rw [List.foldl_cons, e, step_high0 l { s with nm := s.nm ++ [b] } (fun c hc => h c (List.mem_cons_of_mem _ hc)) hp]
    simp
theorem step_high1 : ∀ (l : List UInt8) (s : RB), (∀ b ∈ l, 128 ≤ b.toNat) → s.place = 1 → l.foldl stepB s = { s with vl := s.vl ++ l }
  | [], s, _, _ => by simp
  | b :: l, s, h, hp => by
    have hb := h b List.mem_cons_self
    have h1 : b ≠ 44 := by rintro rfl; revert hb; decide
    have h2 : b ≠ 92 := by rintro rfl; revert hb; decide
    have e : stepB s b = { s with vl := s.vl ++ [b] } := by rw [stepB, if_neg (by omega), if_pos hp, if_neg h1, if_neg h2]
    rw [List.foldl_cons, e, step_high1 l { s with vl := s.vl ++ [b] } (fun c hc => h c (List.mem_cons_of_mem _ hc)) hp]
    simp
theorem byte_is {b : UInt8} {n : Nat} (h : b.toNat = n) (k : UInt8) : b = k ↔ n = k.toNat := by
  rw [← h]; exact ⟨fun e => by rw [e], fun e => UInt8.toNat_inj.1 e⟩
theorem step_enc {d : Rn} (g : Good d) (s : RB) : (encL d).foldl stepB s = stepD s d := by
  rcases enc_cases g with ⟨b, e, hb, hl⟩ | ⟨h1, h2⟩
  · have i1 : b = 61 ↔ d.1 = 61 := byte_is hb 61
    have i2 : b = 44 ↔ d.1 = 44 := byte_is hb 44
    have i3 : b = 92 ↔ d.1 = 92 := byte_is hb 92
    rw [e]
    show stepB s b = _
    unfold stepB stepD
    simp only [i1, i2, i3, e]
  · unfold stepD
    by_cases p0 : s.place = 0
    · rw [if_pos p0, if_neg (by omega), step_high0 _ _ h2 p0]
    · rw [if_neg p0]
      by_cases p1 : s.place = 1
      · rw [if_pos p1, if_neg (by omega), if_neg (by omega), step_high1 _ _ h2 p1]
      · rw [if_neg p1]
        cases h : encL d with
        | nil => exact absurd h (enc_ne g)
        | cons b r =>
          have e : stepB s b = { s with vl := s.vl ++ [b], place := 1 } := by rw [stepB, if_neg p0, if_neg p1]
          rw [List.foldl_cons, e, step_high1 r _ (fun c hc => h2 c (by rw [h]; exact List.mem_cons_of_mem _ hc)) rfl]
          simp
theorem fold_enc : ∀ (ds : List Rn) (s : RB), (∀ d ∈ ds, Good d) → (ds.flatMap encL).foldl stepB s = ds.foldl stepD s
  | [], _, _ => rfl
  | d :: ds, s, h => by
    rw [List.flatMap_cons, List.foldl_append, step_enc (h d List.mem_cons_self), List.foldl_cons]
    exact fold_enc ds _ (fun x hx => h x (List.mem_cons_of_mem _ hx))
theorem raw_runes {t : List UInt8} (hv : validL t = true) : rawF t = endB ((cp t).foldl stepD RB.zero) := by
  obtain ⟨g, e⟩ := good_is hv
  unfold rawF
  rw [← fold_enc (cp t) RB.zero g, e]
/-- A reader without its questions. -/
def era (s : RS) : RB := ⟨tx s.nm, tx s.vl, s.place.toNat, s.l⟩
theorem mk_tx (n v : ByteArray) : mkL (tx n) (tx v) = (n, v) := rfl
theorem tx_enc {d : Rn} (g : Good d) (a : ByteArray) : tx (a ++ encR d) = tx a ++ encL d := by rw [tx_append, g.enc]
theorem era_val {s : RS} {d : Rn} (g : Good d) (p : Int) (k : Int) : era { s with vl := s.vl ++ encR d, place := p, runes := k } = { era s with vl := (era s).vl ++ encL d, place := p.toNat } := by
  unfold era; simp only [tx_enc g]
theorem step_sim {s s' : RS} {d : Rn} (g : Good d) (hp : s.place = 0 ∨ s.place = 1 ∨ s.place = 2) (h : stepF s d = some s') : stepD (era s) d = era s' ∧ (s'.place = 0 ∨ s'.place = 1 ∨ s'.place = 2) := by
  obtain ⟨nm, vl, place, runes, l⟩ := s
  simp only at hp
  rcases hp with rfl | rfl | rfl
  · rw [stepF, if_neg (by simp)] at h
    by_cases c1 : d.1 = 61
    · rw [if_pos c1, equalsF, if_neg (by simp)] at h
      split at h
      · cases h
      · cases h
        exact ⟨by unfold stepD era; simp [c1], by simp⟩
    · rw [if_neg c1] at h
      by_cases c2 : d.1 = 44
      · rw [if_pos c2, endF, if_neg (by simp)] at h; cases h
      · rw [if_neg c2] at h
        by_cases c3 : d.1 = 92
        · rw [if_pos c3, quoteF, if_pos rfl] at h; cases h
        · rw [if_neg c3, plainF, if_pos rfl] at h
          split at h
          · cases h
            exact ⟨by unfold stepD era; simp [c1, tx_enc g], by simp⟩
          · cases h
  · rw [stepF, if_neg (by simp)] at h
    by_cases c1 : d.1 = 61
    · rw [if_pos c1, equalsF, if_pos rfl, plainF, if_neg (by simp)] at h
      split at h
      · cases h
        exact ⟨by unfold stepD era; simp [c1, tx_enc g], by simp⟩
      · cases h
    · rw [if_neg c1] at h
      by_cases c2 : d.1 = 44
      · rw [if_pos c2, endF, if_pos rfl] at h
        split at h
        · cases h
          exact ⟨by unfold stepD era; simp [c2]; first | exact mk_tx _ _ | exact ⟨rfl, rfl, mk_tx _ _⟩ | exact ⟨rfl, mk_tx _ _⟩, by simp⟩
        · cases h
      · rw [if_neg c2] at h
        by_cases c3 : d.1 = 92
        · rw [if_pos c3, quoteF, if_neg (by simp)] at h
          cases h
          exact ⟨by unfold stepD era; simp [c3], by simp⟩
        · rw [if_neg c3, plainF, if_neg (by simp)] at h
          split at h
          · cases h
            exact ⟨by unfold stepD era; simp [c2, c3, tx_enc g], by simp⟩
          · cases h
  · rw [stepF, if_pos rfl, plainF, if_neg (by simp)] at h
    split at h
    · cases h
      exact ⟨by unfold stepD era; simp [tx_enc g], by simp⟩
    · cases h
theorem run_sim : ∀ (ds : List Rn) (s s' : RS), (∀ d ∈ ds, Good d) → (s.place = 0 ∨ s.place = 1 ∨ s.place = 2) → runF s ds = some s' → ds.foldl stepD (era s) = era s' ∧ (s'.place = 0 ∨ s'.place = 1 ∨ s'.place = 2)
  | [], s, s', _, hp, h => by cases h; exact ⟨rfl, hp⟩
  | d :: ds, s, s', hg, hp, h => by
    rw [runF] at h
    cases e : stepF s d with
    | none => rw [e] at h; cases h
    | some s1 =>
      rw [e] at h
      obtain ⟨h1, h2⟩ := step_sim (hg d List.mem_cons_self) hp e
      rw [List.foldl_cons, h1]
      exact run_sim ds s1 s' (fun x hx => hg x (List.mem_cons_of_mem _ hx)) h2 h
theorem read_raw {t : List UInt8} {l : List Lab} (h : readF t = some l) : rawF t = some l := by
  unfold readF at h
  cases hv : validL t with
  | false => rw [hv] at h; simp at h
  | true =>
    rw [hv, if_pos rfl] at h
    rw [raw_runes hv]
    cases e : runF RS.zero (cp t) with
    | none => rw [e] at h; cases h
    | some s1 =>
      rw [e] at h
      obtain ⟨h1, h2⟩ := run_sim (cp t) RS.zero s1 (good_is hv).1 (.inl rfl) e
      have z : era RS.zero = RB.zero := rfl
      rw [← z, h1]
      show endB (era s1) = some l
      have h : (endF s1).map (·.l) = some l := h
      unfold endF at h
      split at h
      · rename_i hp
        split at h
        · rw [endB, if_pos (by show s1.place.toNat = 1; omega)]
          exact h
        · cases h
      · cases h
/-- What a raw reader has, its end has too. -/
theorem raw_prefix : ∀ (ds : List Rn) (r : RB) (L : List Lab), r.place ≤ 2 → endB (ds.foldl stepD r) = some L →
    ∃ x rest, L = r.l ++ x :: rest ∧ (if r.place = 0 then ∃ u, tx x.1 = r.nm ++ u else tx x.1 = r.nm ∧ ∃ u, tx x.2 = r.vl ++ u)
  | [], r, L, hp, h => by
    have h : endB r = some L := h
    unfold endB at h
    split at h
    · rename_i h1
      cases h
      exact ⟨mkL r.nm r.vl, [], rfl, by rw [if_neg (by omega)]; exact ⟨tx_mk _, [], by rw [List.append_nil]; exact tx_mk _⟩⟩
    · cases h
  | d :: ds, r, L, hp, h => by
    rw [List.foldl_cons] at h
    obtain ⟨nm, vl, place, l⟩ := r
    simp only at hp ⊢
    match place, hp with
    | 0, _ =>
      unfold stepD at h
      simp only [if_true] at h
      split at h
      · obtain ⟨x, rest, h1, h2⟩ := raw_prefix ds _ L (by simp) h
        simp only [Nat.one_ne_zero, if_false] at h1 h2
        exact ⟨x, rest, h1, by simp only [if_true]; exact ⟨[], by rw [h2.1, List.append_nil]⟩⟩
      · obtain ⟨x, rest, h1, h2⟩ := raw_prefix ds _ L (by simp) h
        simp only [if_true] at h1 h2
        obtain ⟨u, hu⟩ := h2
        exact ⟨x, rest, h1, by simp only [if_true]; exact ⟨encL d ++ u, by rw [hu, List.append_assoc]⟩⟩
    | 1, _ =>
      unfold stepD at h
      simp only [Nat.one_ne_zero, if_false, if_true] at h
      split at h
      · obtain ⟨x, rest, h1, h2⟩ := raw_prefix ds _ L (by simp) h
        exact ⟨mkL nm vl, x :: rest, by rw [h1, List.append_assoc]; rfl, by simp only [Nat.one_ne_zero, if_false]; exact ⟨tx_mk _, [], by rw [List.append_nil]; exact tx_mk _⟩⟩
      · split at h
        · obtain ⟨x, rest, h1, h2⟩ := raw_prefix ds _ L (by simp) h
          exact ⟨x, rest, h1, by simpa using h2⟩
        · obtain ⟨x, rest, h1, h2⟩ := raw_prefix ds _ L (by simp) h
          simp only [Nat.one_ne_zero, if_false] at h1 h2
          obtain ⟨h2, u, hu⟩ := h2
          exact ⟨x, rest, h1, by simp only [Nat.one_ne_zero, if_false]; exact ⟨h2, encL d ++ u, by rw [hu, List.append_assoc]⟩⟩
    | 2, _ =>
      unfold stepD at h
      simp only [show ¬ (2 : Nat) = 0 by omega, show ¬ (2 : Nat) = 1 by omega, if_false] at h
      obtain ⟨x, rest, h1, h2⟩ := raw_prefix ds _ L (by simp) h
      simp only [Nat.one_ne_zero, if_false] at h1 h2
      obtain ⟨h2, u, hu⟩ := h2
      exact ⟨x, rest, h1, by simp only [show ¬ (2 : Nat) = 0 by omega, if_false]; exact ⟨h2, encL d ++ u, by rw [hu, List.append_assoc]⟩⟩
    | n + 3, hp => omega
theorem name_part {a u : List UInt8} {d : Rn} (g : Good d) (h : nameB (a ++ encL d ++ u) = true) : nameRune d = true ∧ a.length < 12 := by
  rw [name_bytes] at h
  simp only [Bool.and_eq_true, decide_eq_true_eq, List.all_append, List.length_append] at h
  obtain ⟨⟨_, hl⟩, ⟨_, he⟩, _⟩ := h
  have hn : 0 < (encL d).length := List.length_pos_iff.2 (enc_ne g)
  refine ⟨?_, by omega⟩
  rcases enc_cases g with ⟨b, e, hb, _⟩ | ⟨_, h2⟩
  · rw [e] at he
    simp only [List.all_cons, List.all_nil, Bool.and_true, byteName, Bool.and_eq_true, decide_eq_true_eq] at he
    simp only [nameRune, Bool.and_eq_true, decide_eq_true_eq]
    omega
  · cases h : encL d with
    | nil => exact absurd h (enc_ne g)
    | cons b r =>
      have := h2 b (by rw [h]; exact List.mem_cons_self)
      rw [h] at he
      simp only [List.all_cons, byteName, Bool.and_eq_true, decide_eq_true_eq] at he
      omega
theorem value_part {es : List Rn} {u : List UInt8} {d : Rn} (ge : ∀ e ∈ es, Good e) (g : Good d) (h : valueB (es.flatMap encL ++ encL d ++ u) = true) : valueRune d = true ∧ es.length < 24 := by
  have e1 : es.flatMap encL ++ encL d ++ u = (es ++ [d]).flatMap encL ++ u := by simp
  rw [e1] at h
  unfold valueB at h
  rw [cp_goods (es ++ [d]) (fun x hx => by rcases List.mem_append.1 hx with hx | hx; exact ge x hx; simp at hx; subst hx; exact g)] at h
  simp only [Bool.and_eq_true, decide_eq_true_eq, List.all_append, List.length_append, List.all_cons, List.all_nil, List.length_singleton, Bool.and_true] at h
  exact ⟨h.2.1.2, by omega⟩
structure RawOk (s : RS) (es : List Rn) : Prop where
  place : s.place = 0 ∨ s.place = 1 ∨ s.place = 2
  good : ∀ e ∈ es, Good e
  vl : tx s.vl = es.flatMap encL
  runes : s.runes = es.length
theorem step_back {s : RS} {es : List Rn} {d : Rn} {ds : List Rn} {L : List Lab} (g : Good d) (ok : RawOk s es) (h : endB (ds.foldl stepD (stepD (era s) d)) = some L)
    (hr : ∀ x ∈ L, nameB (tx x.1) = true ∧ valueB (tx x.2) = true) (h6 : L.length ≤ 6) : ∃ s' es', stepF s d = some s' ∧ era s' = stepD (era s) d ∧ RawOk s' es' := by
  obtain ⟨hp, ge, hv, hn⟩ := ok
  obtain ⟨nm, vl, place, runes, l⟩ := s
  simp only at hp hv hn
  have plain : ∀ p : Int, stepD (era ⟨nm, vl, p, runes, l⟩) d = era ⟨nm, vl ++ encR d, 1, runes + 1, l⟩ → stepD (era ⟨nm, vl, p, runes, l⟩) d = stepD (era ⟨nm, vl, place, runes, l⟩) d →
      valueRune d = true ∧ runes < 24 ∧ RawOk ⟨nm, vl ++ encR d, 1, runes + 1, l⟩ (es ++ [d]) := fun p e e2 => by
    rw [← e2, e] at h
    obtain ⟨x, rest, h1, h2⟩ := raw_prefix ds _ L (by show (1 : Nat) ≤ 2; omega) h
    have h2 : tx x.1 = tx nm ∧ ∃ u, tx x.2 = tx (vl ++ encR d) ++ u := h2
    obtain ⟨_, u, hu⟩ := h2
    have hx := (hr x (by rw [h1]; simp)).2
    rw [hu, tx_enc g, hv] at hx
    obtain ⟨q1, q2⟩ := value_part ge g hx
    refine ⟨q1, by omega, ⟨.inr (.inl rfl), fun y hy => ?_, by show tx (vl ++ encR d) = _; rw [tx_enc g, hv]; simp, by show runes + 1 = _; rw [List.length_append, hn]; simp⟩⟩
    rcases List.mem_append.1 hy with hy | hy
    · exact ge y hy
    · simp at hy; subst hy; exact g
  rcases hp with rfl | rfl | rfl
  · by_cases c1 : d.1 = 61
    · have e1 : stepD (era ⟨nm, vl, 0, runes, l⟩) d = era ⟨nm, vl, 1, runes, l⟩ := by unfold stepD era; simp [c1]
      rw [e1] at h
      obtain ⟨x, rest, h1, h2⟩ := raw_prefix ds _ L (by show (1 : Nat) ≤ 2; omega) h
      have h2 : tx x.1 = tx nm ∧ _ := h2
      have hx := (hr x (by rw [h1]; simp)).1
      rw [h2.1] at hx
      have hne : ¬ tx nm = [] := by intro e; rw [e] at hx; simp [nameB] at hx
      exact ⟨⟨nm, vl, 1, runes, l⟩, es, by rw [stepF, if_neg (by simp), if_pos c1, equalsF, if_neg (by simp), if_neg hne], e1.symm, ⟨.inr (.inl rfl), ge, hv, hn⟩⟩
    · have e1 : stepD (era ⟨nm, vl, 0, runes, l⟩) d = era ⟨nm ++ encR d, vl, 0, runes, l⟩ := by unfold stepD era; simp [c1, tx_enc g]
      rw [e1] at h
      obtain ⟨x, rest, h1, h2⟩ := raw_prefix ds _ L (by show (0 : Nat) ≤ 2; omega) h
      have h2 : ∃ u, tx x.1 = tx (nm ++ encR d) ++ u := h2
      obtain ⟨u, hu⟩ := h2
      have hx := (hr x (by rw [h1]; simp)).1
      rw [hu, tx_enc g] at hx
      obtain ⟨q1, q2⟩ := name_part g hx
      rw [tx_len] at q2
      have q3 := q1
      simp only [nameRune, Bool.and_eq_true, decide_eq_true_eq] at q3
      exact ⟨⟨nm ++ encR d, vl, 0, runes, l⟩, es, by rw [stepF, if_neg (by simp), if_neg c1, if_neg (by omega), if_neg (by omega), plainF, if_pos rfl, if_pos ⟨q1, q2⟩], e1.symm, ⟨.inl rfl, ge, hv, hn⟩⟩
  · by_cases c2 : d.1 = 44
    · have e1 : stepD (era ⟨nm, vl, 1, runes, l⟩) d = era ⟨⟨#[]⟩, ⟨#[]⟩, 0, 0, l ++ [(nm, vl)]⟩ := by unfold stepD era; simp [c2]; first | exact mk_tx _ _ | exact ⟨rfl, rfl, mk_tx _ _⟩ | exact ⟨rfl, mk_tx _ _⟩
      rw [e1] at h
      obtain ⟨x, rest, h1, h2⟩ := raw_prefix ds _ L (by show (0 : Nat) ≤ 2; omega) h
      have h1 : L = (l ++ [(nm, vl)]) ++ x :: rest := h1
      have hl : l.length < 6 := by rw [h1] at h6; simp at h6; omega
      exact ⟨⟨⟨#[]⟩, ⟨#[]⟩, 0, 0, l ++ [(nm, vl)]⟩, [], by rw [stepF, if_neg (by simp), if_neg (by omega), if_pos c2, endF, if_pos rfl, if_pos hl], e1.symm, ⟨.inl rfl, fun y hy => by simp at hy, rfl, rfl⟩⟩
    · by_cases c3 : d.1 = 92
      · have e1 : stepD (era ⟨nm, vl, 1, runes, l⟩) d = era ⟨nm, vl, 2, runes, l⟩ := by unfold stepD era; simp [c3]
        exact ⟨⟨nm, vl, 2, runes, l⟩, es, by rw [stepF, if_neg (by simp), if_neg (by omega), if_neg c2, if_pos c3, quoteF, if_neg (by simp)], e1.symm, ⟨.inr (.inr rfl), ge, hv, hn⟩⟩
      · have e1 : stepD (era ⟨nm, vl, 1, runes, l⟩) d = era ⟨nm, vl ++ encR d, 1, runes + 1, l⟩ := by unfold stepD era; simp [c2, c3, tx_enc g]
        obtain ⟨q1, q2, q3⟩ := plain 1 e1 rfl
        refine ⟨⟨nm, vl ++ encR d, 1, runes + 1, l⟩, es ++ [d], ?_, e1.symm, q3⟩
        rw [stepF, if_neg (by simp)]
        by_cases c1 : d.1 = 61
        · rw [if_pos c1, equalsF, if_pos rfl, plainF, if_neg (by simp), if_pos ⟨q1, q2⟩]
        · rw [if_neg c1, if_neg c2, if_neg c3, plainF, if_neg (by simp), if_pos ⟨q1, q2⟩]
  · have e1 : stepD (era ⟨nm, vl, 2, runes, l⟩) d = era ⟨nm, vl ++ encR d, 1, runes + 1, l⟩ := by unfold stepD era; simp [tx_enc g]
    obtain ⟨q1, q2, q3⟩ := plain 2 e1 rfl
    refine ⟨⟨nm, vl ++ encR d, 1, runes + 1, l⟩, es ++ [d], ?_, e1.symm, q3⟩
    rw [stepF, if_pos rfl, plainF, if_neg (by simp), if_pos ⟨q1, q2⟩]
theorem run_back : ∀ (ds : List Rn) (s : RS) (es : List Rn) (L : List Lab), (∀ d ∈ ds, Good d) → RawOk s es → endB (ds.foldl stepD (era s)) = some L →
    (∀ x ∈ L, nameB (tx x.1) = true ∧ valueB (tx x.2) = true) → L.length ≤ 6 → ((runF s ds).bind endF).map (·.l) = some L
  | [], s, es, L, _, ok, h, hr, h6 => by
    have h : endB (era s) = some L := h
    rw [runF]
    show (endF s).map _ = some L
    unfold endB at h
    split at h
    · rename_i h1
      have h1 : s.place.toNat = 1 := h1
      have hp : s.place = 1 := by omega
      cases h
      have h6 : (s.l ++ [mkL (tx s.nm) (tx s.vl)]).length ≤ 6 := h6
      rw [List.length_append, List.length_singleton] at h6
      rw [endF, if_pos hp, if_pos (by omega)]
      rfl
    · cases h
  | d :: ds, s, es, L, hg, ok, h, hr, h6 => by
    rw [List.foldl_cons] at h
    obtain ⟨s', es', h1, h2, h3⟩ := step_back (hg d List.mem_cons_self) ok h hr h6
    rw [← h2] at h
    rw [runF, h1]
    exact run_back ds s' es' L (fun x hx => hg x (List.mem_cons_of_mem _ hx)) h3 h hr h6
theorem raw_read {t : List UInt8} {L : List Lab} (hv : validL t = true) (h : rawF t = some L) (hr : ∀ x ∈ L, nameB (tx x.1) = true ∧ valueB (tx x.2) = true) (h6 : L.length ≤ 6) : readF t = some L := by
  rw [raw_runes hv] at h
  rw [readF, if_pos hv]
  exact run_back (cp t) RS.zero [] L (good_is hv).1 ⟨.inl rfl, fun y hy => by simp at hy, rfl, rfl⟩ h hr h6
/-- A label put into labels, by its name. -/
def putF (l : List Lab) (x : Lab) : List Lab := l.takeWhile (fun y => ahead y x) ++ x :: l.dropWhile (fun y => ahead y x)
theorem put_perm (l : List Lab) (x : Lab) : (putF l x).Perm (x :: l) := by
  unfold putF
  have := List.takeWhile_append_dropWhile (p := fun y => ahead y x) (l := l)
  exact List.perm_middle.trans (by rw [this])
theorem put_cons_pos {l : List Lab} {x y : Lab} (h : ahead y x = true) : putF (y :: l) x = y :: putF l x := by
  unfold putF; rw [List.takeWhile_cons_of_pos (p := fun y => ahead y x) h, List.dropWhile_cons_of_pos (p := fun y => ahead y x) h]; rfl
theorem put_cons_neg {l : List Lab} {x y : Lab} (h : ahead y x = false) : putF (y :: l) x = x :: y :: l := by
  unfold putF; rw [List.takeWhile_cons_of_neg (p := fun y => ahead y x) (by simp [h]), List.dropWhile_cons_of_neg (p := fun y => ahead y x) (by simp [h])]; rfl
theorem put_pair : ∀ (l : List Lab) (x : Lab), l.Pairwise (fun a b => ahead b a = false) → (putF l x).Pairwise (fun a b => ahead b a = false)
  | [], x, _ => by simp [putF]
  | y :: l, x, h => by
    obtain ⟨h1, h2⟩ := List.pairwise_cons.1 h
    cases c : ahead y x with
    | true =>
      rw [put_cons_pos c]
      refine List.pairwise_cons.2 ⟨fun z hz => ?_, put_pair l x h2⟩
      rcases List.mem_cons.1 ((put_perm l x).mem_iff.1 hz) with rfl | hz
      · exact lsB_asymm c
      · exact h1 z hz
    | false =>
      rw [put_cons_neg c]
      refine List.pairwise_cons.2 ⟨fun z hz => ?_, h⟩
      rcases List.mem_cons.1 hz with rfl | hz
      · exact c
      · exact lsB_ntrans c (h1 z hz)
def insF (l : List Lab) : List Lab := l.foldl putF []
theorem ins_all : ∀ (l acc : List Lab), acc.Pairwise (fun a b => ahead b a = false) → (l.foldl putF acc).Pairwise (fun a b => ahead b a = false) ∧ (l.foldl putF acc).Perm (l ++ acc)
  | [], acc, h => ⟨h, List.Perm.refl _⟩
  | x :: l, acc, h => by
    obtain ⟨h1, h2⟩ := ins_all l (putF acc x) (put_pair acc x h)
    refine ⟨h1, h2.trans ?_⟩
    rw [List.cons_append]
    exact ((put_perm acc x).append_left l).trans List.perm_middle
theorem ins_pair (l : List Lab) : (insF l).Pairwise (fun a b => ahead b a = false) := (ins_all l [] List.Pairwise.nil).1
theorem ins_perm (l : List Lab) : (insF l).Perm l := by
  have := (ins_all l [] List.Pairwise.nil).2
  rw [List.append_nil] at this; exact this
/-- The document's answer. -/
def docF (t : List UInt8) : Option (List Lab) := if validL t = true then (rawF t).bind fun l => if setB (insF l) = true then some (insF l) else none else none
theorem doc_is {t : List UInt8} {r : Option (List Lab)} (h : ParseIs t r) : r = docF t := by
  unfold docF
  cases hv : validL t with
  | false =>
    have : readF t = none := by rw [readF, hv]; rfl
    rw [ParseIs, this] at h
    rw [if_neg (by simp)]; exact h
  | true =>
    rw [if_pos rfl]
    have hq : ∀ l, rawF t = some l → setB (insF l) = true → readF t = some l := fun l hl hs => by
      have p := ins_perm l
      exact raw_read hv hl (fun x hx => setB_all hs x (p.mem_iff.2 hx)) (by
        have h6 : (insF l).length ≤ 6 := by
          unfold setB at hs
          simp only [Bool.and_eq_true, decide_eq_true_eq] at hs
          exact hs.1.2
        rw [p.length_eq] at h6; exact h6)
    cases e : readF t with
    | none =>
      rw [ParseIs, e] at h
      have h : r = none := h
      rw [h]
      cases e2 : rawF t with
      | none => rfl
      | some l =>
        show none = if setB (insF l) = true then some (insF l) else none
        rw [if_neg]
        intro hs
        rw [hq l e2 hs] at e; cases e
    | some l =>
      rw [read_raw e]
      show r = if setB (insF l) = true then some (insF l) else none
      cases hs : setB (insF l) with
      | true => rw [if_pos rfl]; exact parse_some h e (ins_perm l) hs
      | false =>
        rw [if_neg (by simp)]
        rw [ParseIs, e] at h
        obtain ⟨cur, p, hsrt, hr⟩ := h
        rw [hr]
        cases hc : setB cur with
        | false => rfl
        | true =>
          have : insF l = cur := pair_unique ((ins_perm l).trans p.symm) (ins_pair l) (setB_pair hc)
          rw [this, hc] at hs; cases hs
end Go.Proofs.YtlcpigkgbihebaaDoor

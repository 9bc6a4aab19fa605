/-
  Patterns and scopes, in plain words. No program in sight.
-/
import Derived.Test.YtgfoeicfigfepaaDoorScLab
import Derived.Lib.MapLaws
namespace Go.Proofs.YtgfoeicfigfepaaDoor
set_option linter.unusedVariables false
set_option linter.unusedSimpArgs false
/-- What one part of a pattern stands for. -/
inductive Sg where
  | any
  | one
  | that (c : Nat)
deriving DecidableEq
/-- One rune of a pattern: the signs so far, and is the next rune quoted? -/
def stepS (s : List Sg × Bool) (d : Nat × Nat) : List Sg × Bool :=
  if s.2 = true then (s.1 ++ [.that d.1], false)
  else if d.1 = 42 then (s.1 ++ [.any], false)
  else if d.1 = 63 then (s.1 ++ [.one], false)
  else if d.1 = 126 then (s.1, true)
  else (s.1 ++ [.that d.1], false)
def sgF (s : List Sg × Bool) (ds : List (Nat × Nat)) : List Sg × Bool := ds.foldl stepS s
/-- The signs of a pattern, if it is one. -/
def signsF (p : List UInt8) : Option (List Sg) :=
  if valueB p = true then (if (sgF ([], false) (cp p)).2 = true then none else some (sgF ([], false) (cp p)).1) else none
theorem stepS_front (a : List Sg) (q : Bool) (d : Nat × Nat) : stepS (a, q) d = (a ++ (stepS ([], q) d).1, (stepS ([], q) d).2) := by
  unfold stepS
  cases q <;> simp only <;> (repeat' split) <;> simp_all
theorem sgF_front : ∀ (ds : List (Nat × Nat)) (a : List Sg) (q : Bool), sgF (a, q) ds = (a ++ (sgF ([], q) ds).1, (sgF ([], q) ds).2)
  | [], a, q => by simp [sgF]
  | d :: ds, a, q => by
    have e : ∀ s, sgF s (d :: ds) = sgF (stepS s d) ds := fun s => rfl
    rw [e, e, stepS_front a q d, sgF_front ds _ _]
    have h := sgF_front ds (stepS ([], q) d).1 (stepS ([], q) d).2
    rw [show stepS ([], q) d = ((stepS ([], q) d).1, (stepS ([], q) d).2) from rfl, h]
    simp
theorem sgF_snoc (s : List Sg × Bool) (ds : List (Nat × Nat)) (d : Nat × Nat) : sgF s (ds ++ [d]) = stepS (sgF s ds) d := by simp [sgF]
theorem sgF_len : ∀ (ds : List (Nat × Nat)) (s : List Sg × Bool), (sgF s ds).1.length ≤ s.1.length + ds.length
  | [], s => by simp [sgF]
  | d :: ds, s => by
    have h := sgF_len ds (stepS s d)
    have h2 : (stepS s d).1.length ≤ s.1.length + 1 := by unfold stepS; (repeat' split) <;> simp
    show (sgF (stepS s d) ds).1.length ≤ _
    simp only [List.length_cons]; omega
/-- Does a sign stand for one rune? -/
def forB : Sg → Nat → Bool
  | .any, _ => false
  | .one, _ => true
  | .that c, d => c == d
/-- What signs stand for. -/
inductive Mt : List Sg → List Nat → Prop where
  | nil : Mt [] []
  | any (l : List Sg) (u v : List Nat) : Mt l v → Mt (.any :: l) (u ++ v)
  | for_ (s : Sg) (l : List Sg) (c : Nat) (v : List Nat) : forB s c = true → Mt l v → Mt (s :: l) (c :: v)
theorem Mt.append {a b : List Sg} {u v : List Nat} (h : Mt a u) (k : Mt b v) : Mt (a ++ b) (u ++ v) := by
  induction h with
  | nil => exact k
  | any l x y _ ih => rw [List.append_assoc]; exact .any _ _ _ ih
  | for_ s l c y h _ ih => exact .for_ _ _ _ _ h ih
theorem Mt.parts {a b : List Sg} : ∀ {v : List Nat}, Mt (a ++ b) v → ∃ x y, v = x ++ y ∧ Mt a x ∧ Mt b y := by
  induction a with
  | nil => intro v h; exact ⟨[], v, rfl, .nil, h⟩
  | cons s a ih =>
    intro v h
    cases h with
    | any _ u w h =>
      obtain ⟨x, y, rfl, h1, h2⟩ := ih h
      exact ⟨u ++ x, y, by rw [List.append_assoc], .any _ _ _ h1, h2⟩
    | for_ _ _ c w hc h =>
      obtain ⟨x, y, rfl, h1, h2⟩ := ih h
      exact ⟨c :: x, y, rfl, .for_ _ _ _ _ hc h1, h2⟩
theorem Mt.nil_iff {v : List Nat} : Mt [] v ↔ v = [] := ⟨fun h => by cases h; rfl, fun h => h ▸ .nil⟩
theorem Mt.star (v : List Nat) : Mt [.any] v := by have := Mt.any [] v [] .nil; rwa [List.append_nil] at this
theorem Mt.one_iff {s : Sg} {v : List Nat} (hs : s ≠ .any) : Mt [s] v ↔ ∃ c, v = [c] ∧ forB s c = true := by
  constructor
  · intro h
    cases h with
    | any => exact absurd rfl hs
    | for_ _ _ c w hc h => rw [Mt.nil_iff] at h; subst h; exact ⟨c, rfl, hc⟩
  · rintro ⟨c, rfl, h⟩; exact .for_ _ _ _ _ h .nil
/-- A pattern, a star, another pattern. -/
theorem Mt.join {a b : List Sg} {v : List Nat} : Mt (a ++ .any :: b) v ↔ ∃ x u y, v = x ++ (u ++ y) ∧ Mt a x ∧ Mt b y := by
  constructor
  · intro h
    obtain ⟨x, z, rfl, h1, h2⟩ := h.parts
    cases h2 with
    | any _ u y h3 => exact ⟨x, u, y, rfl, h1, h3⟩
    | for_ _ _ c w hc h3 => simp [forB] at hc
  · rintro ⟨x, u, y, rfl, h1, h2⟩
    exact h1.append (.any _ _ _ h2)
/-- The signs up to a place, with the any that stands there. -/
def tk (l : List Sg) (j : Nat) : List Sg := if l[j]? = some .any then l.take (j + 1) else l.take j
/-- The places that may be next, when v is read. -/
def Pl (l : List Sg) (v : List Nat) (j : Nat) : Prop := j ≤ l.length ∧ Mt (tk l j) v
theorem Pl.end_ {l : List Sg} {v : List Nat} : Pl l v l.length ↔ Mt l v := by
  unfold Pl tk
  rw [List.getElem?_eq_none (Nat.le_refl _), if_neg (by simp), List.take_length]
  exact ⟨fun h => h.2, fun h => ⟨Nat.le_refl _, h⟩⟩
/-- The places that put adds: at, and those behind it that no rune is needed for. -/
def Cl (l : List Sg) (k j : Nat) : Prop := k ≤ j ∧ j ≤ l.length ∧ ∀ i, k ≤ i → i < j → l[i]? = some .any
theorem Cl.self {l : List Sg} {k : Nat} (h : k ≤ l.length) : Cl l k k := ⟨Nat.le_refl _, h, fun i h1 h2 => by omega⟩
theorem take_any {l : List Sg} {i : Nat} (h : l[i]? = some .any) : l.take (i + 1) = l.take i ++ [.any] := by
  have hi : i < l.length := by
    rcases Nat.lt_or_ge i l.length with h1 | h1
    · exact h1
    · rw [List.getElem?_eq_none h1] at h; cases h
  rw [List.take_succ_eq_append_getElem hi]
  rw [List.getElem?_eq_getElem hi] at h
  rw [Option.some.inj h]
theorem Mt.any_more {a : List Sg} {v w : List Nat} (h : Mt (a ++ [.any]) v) : Mt (a ++ [.any]) (v ++ w) := by
  obtain ⟨x, y, rfl, h1, h2⟩ := h.parts
  rw [List.append_assoc]
  exact h1.append (Mt.star _)
/-- Through anys a text read stays read. -/
theorem Mt.anys {l : List Sg} {v : List Nat} {k : Nat} (h : Mt (l.take k) v) : ∀ (n : Nat), (∀ i, k ≤ i → i < k + n → l[i]? = some .any) → Mt (l.take (k + n)) v
  | 0, _ => h
  | n + 1, ha => by
    have ih := Mt.anys h n fun i h1 h2 => ha i h1 (by omega)
    rw [← Nat.add_assoc, take_any (ha (k + n) (by omega) (by omega))]
    have := ih.append (Mt.star [])
    rwa [List.append_nil] at this
theorem Mt.tk_of {l : List Sg} {v : List Nat} {j : Nat} (h : Mt (l.take j) v) : Mt (tk l j) v := by
  unfold tk
  split
  · next e =>
    rw [take_any e]
    have := h.append (Mt.star [])
    rwa [List.append_nil] at this
  · exact h
/-- At the start: place 0 and what put adds to it. -/
theorem Pl.start {l : List Sg} {j : Nat} : Pl l [] j ↔ Cl l 0 j := by
  constructor
  · rintro ⟨hj, h⟩
    refine ⟨Nat.zero_le _, hj, fun i _ hi => ?_⟩
    have hk : ∀ a : List Sg, Mt a [] → ∀ s ∈ a, s = .any := by
      intro a h
      generalize he : ([] : List Nat) = v at h
      induction h with
      | nil => intro s hs; cases hs
      | any l u v h ih =>
        have e2 : v = [] := (List.append_eq_nil_iff.1 he.symm).2
        intro s hs
        rcases List.mem_cons.1 hs with e | e
        · exact e
        · exact ih e2.symm s e
      | for_ => cases he
    have hl : i < l.length := by omega
    have := hk _ h l[i] (by
      unfold tk
      split
      · exact List.mem_take_iff_getElem.2 ⟨i, by omega, rfl⟩
      · exact List.mem_take_iff_getElem.2 ⟨i, by omega, rfl⟩)
    rw [List.getElem?_eq_getElem hl, this]
  · rintro ⟨_, hj, h⟩
    refine ⟨hj, Mt.tk_of ?_⟩
    have := Mt.anys (l := l) (v := []) (k := 0) (by rw [List.take_zero]; exact .nil) j fun i h1 h2 => h i h1 (by omega)
    rwa [Nat.zero_add] at this
/-- What one place before a rune gives behind it. -/
def From (l : List Sg) (c at_ j : Nat) : Prop :=
  (l[at_]? = some .any ∧ Cl l at_ j) ∨ ∃ s, l[at_]? = some s ∧ s ≠ .any ∧ forB s c = true ∧ Cl l (at_ + 1) j
theorem tk_not {l : List Sg} {j : Nat} (h : ¬ l[j]? = some .any) : tk l j = l.take j := if_neg h
theorem tk_any {l : List Sg} {j : Nat} (h : l[j]? = some .any) : tk l j = l.take j ++ [.any] := by unfold tk; rw [if_pos h, take_any h]
theorem get_lt {l : List Sg} {i : Nat} {s : Sg} (h : l[i]? = some s) : ∃ hi : i < l.length, l[i] = s := by
  obtain ⟨hi, e⟩ := List.getElem?_eq_some_iff.1 h
  exact ⟨hi, e⟩
/-- The places a rune later: what a prefix of signs means, read from its end. -/
theorem Mt.back {l : List Sg} {v : List Nat} {c : Nat} : ∀ (j : Nat), j ≤ l.length → Mt (l.take j) (v ++ [c]) →
    ∃ k, k < j ∧ (∀ i, k < i → i < j → l[i]? = some .any) ∧ ((l[k]? = some .any ∧ Mt (l.take (k + 1)) v) ∨ ∃ s, l[k]? = some s ∧ s ≠ .any ∧ forB s c = true ∧ Mt (l.take k) v)
  | 0, _, h => by
    rw [List.take_zero, Mt.nil_iff] at h
    exact absurd h (by simp)
  | j + 1, hj, h => by
    have hl : j < l.length := by omega
    rw [List.take_succ_eq_append_getElem hl] at h
    obtain ⟨x, y, e, h1, h2⟩ := h.parts
    by_cases ha : l[j] = .any
    · have ea : l[j]? = some .any := by rw [List.getElem?_eq_getElem hl, ha]
      rcases List.eq_nil_or_concat y with rfl | ⟨y', b, rfl⟩
      · rw [List.append_nil] at e
        subst e
        obtain ⟨k, k1, k2, k3⟩ := Mt.back j (by omega) h1
        refine ⟨k, by omega, fun i h1 h2 => ?_, k3⟩
        by_cases hij : i = j
        · rw [hij]; exact ea
        · exact k2 i h1 (by omega)
      · rw [List.concat_eq_append, ← List.append_assoc] at e
        obtain ⟨e1, _⟩ := List.append_inj' e rfl
        refine ⟨j, by omega, fun i h1 h2 => by omega, .inl ⟨ea, ?_⟩⟩
        rw [take_any ea, e1]
        exact h1.append (Mt.star _)
    · rw [Mt.one_iff ha] at h2
      obtain ⟨d, rfl, hf⟩ := h2
      obtain ⟨e1, e2⟩ := List.append_inj' e rfl
      obtain rfl : c = d := by simpa using e2
      exact ⟨j, by omega, fun i h1 h2 => by omega, .inr ⟨l[j], List.getElem?_eq_getElem hl, ha, hf, by rw [e1]; exact h1⟩⟩
theorem Pl.next {l : List Sg} {v : List Nat} {c j : Nat} : Pl l (v ++ [c]) j ↔ ∃ at_, Pl l v at_ ∧ From l c at_ j := by
  constructor
  · rintro ⟨hj, h⟩
    obtain ⟨m, hm, hm2, hm3, h⟩ : ∃ m, m ≤ l.length ∧ (m = j ∨ (m = j + 1 ∧ l[j]? = some .any)) ∧ j ≤ m ∧ Mt (l.take m) (v ++ [c]) := by
      unfold tk at h
      split at h
      · next e => obtain ⟨hl, _⟩ := get_lt e; exact ⟨j + 1, by omega, .inr ⟨rfl, e⟩, by omega, h⟩
      · exact ⟨j, hj, .inl rfl, Nat.le_refl _, h⟩
    obtain ⟨k, k1, k2, k3⟩ := Mt.back m hm h
    rcases k3 with ⟨ea, hk⟩ | ⟨s, es, hs, hf, hk⟩
    · refine ⟨k, ⟨by omega, by rw [tk_any ea, ← take_any ea]; exact hk⟩, .inl ⟨ea, by omega, hj, fun i h1 h2 => ?_⟩⟩
      by_cases e : i = k
      · rw [e]; exact ea
      · exact k2 i (by omega) (by omega)
    · have hkj : k ≠ j := by
        rcases hm2 with e | ⟨e, ea⟩
        · omega
        · rintro rfl; rw [ea] at es; exact hs (Option.some.inj es).symm
      refine ⟨k, ⟨by omega, ?_⟩, .inr ⟨s, es, hs, hf, by omega, hj, fun i h1 h2 => k2 i (by omega) (by omega)⟩⟩
      rw [tk_not (by rw [es]; exact fun e => hs (Option.some.inj e))]
      exact hk
  · rintro ⟨k, ⟨hk, h⟩, ⟨ea, k1, k2, k3⟩ | ⟨s, es, hs, hf, k1, k2, k3⟩⟩
    · refine ⟨k2, ?_⟩
      rw [tk_any ea] at h
      have h2 : Mt (l.take (k + 1)) (v ++ [c]) := by rw [take_any ea]; exact h.any_more
      by_cases e : k = j
      · subst e; rw [tk_any ea]; exact h.any_more
      · have h3 := Mt.anys h2 (j - (k + 1)) fun i h1 h2 => k3 i (by omega) (by omega)
        rw [show k + 1 + (j - (k + 1)) = j by omega] at h3
        exact h3.tk_of
    · refine ⟨k2, ?_⟩
      obtain ⟨hl, e1⟩ := get_lt es
      rw [tk_not (by rw [es]; exact fun e => hs (Option.some.inj e))] at h
      have h2 : Mt (l.take (k + 1)) (v ++ [c]) := by
        rw [List.take_succ_eq_append_getElem hl, e1]
        exact h.append ((Mt.one_iff hs).2 ⟨c, rfl, hf⟩)
      have h3 := Mt.anys h2 (j - (k + 1)) fun i h1 h2 => k3 i (by omega) (by omega)
      rw [show k + 1 + (j - (k + 1)) = j by omega] at h3
      exact h3.tk_of
/-- Where no place is left, none comes. -/
theorem Pl.dead {l : List Sg} : ∀ (w v : List Nat), (∀ j, ¬ Pl l v j) → ∀ j, ¬ Pl l (v ++ w) j
  | [], v, h => by rw [List.append_nil]; exact h
  | c :: w, v, h => by
    have h2 := Pl.dead w (v ++ [c]) fun j hj => by
      obtain ⟨k, hk, _⟩ := Pl.next.1 hj
      exact h k hk
    rwa [List.append_assoc] at h2
/-- A text's runes. -/
def rn (v : List UInt8) : List Nat := (cp v).map (·.1)
/-- What Fits tells. -/
noncomputable def fitsF (p v : List UInt8) : Bool := @decide (∃ l, signsF p = some l ∧ validL v = true ∧ Mt l (rn v)) (Classical.propDecidable _)
theorem fitsF_iff {p v : List UInt8} : fitsF p v = true ↔ ∃ l, signsF p = some l ∧ validL v = true ∧ Mt l (rn v) := by
  unfold fitsF; rw [@decide_eq_true_iff _ (Classical.propDecidable _)]
theorem fitsF_some {p v : List UInt8} {l : List Sg} (hp : signsF p = some l) (hv : validL v = true) : fitsF p v = true ↔ Mt l (rn v) := by
  rw [fitsF_iff]
  constructor
  · rintro ⟨m, h1, _, h2⟩; rw [hp] at h1; cases h1; exact h2
  · exact fun h => ⟨l, hp, hv, h⟩
theorem dec_b {b : UInt8} {t : List UInt8} (h : b.toNat < 128) : decL (b :: t) = (b.toNat, 1) := by
  unfold decL Lib.decodeN
  rw [if_pos (by simpa using h)]
  rfl
theorem okR_not {d : Nat × Nat} (h : okR d = true) : ¬ (d.1 = 65533 ∧ d.2 = 1) := by
  intro e; simp [okR, e.1, e.2] at h
theorem decL_take {l : List UInt8} (hne : l ≠ []) (ok : okR (decL l) = true) : decL (l.take (decL l).2) = decL l := by
  have hl : 0 < l.length := List.length_pos_iff.2 hne
  have hk := okR_not ok
  have k0 := (l.getD 0 0).toNat_lt
  unfold decL at hk ⊢
  rcases Lib.decodeN_shape l.length (l.getD 0 0).toNat (l.getD 1 0).toNat (l.getD 2 0).toNat (l.getD 3 0).toNat with ⟨c, e⟩ | ⟨c1, c2, c3, cv, e⟩ | ⟨c1, c2, c3, c4, cv, cs, e⟩ | ⟨c1, c2, c3, c4, c5, cv, cw, e⟩ | e
  · rw [e]; dsimp only; rw [Lib.takeA l hl]
    show Lib.decodeN 1 (l.getD 0 0).toNat 0 0 0 = _
    rw [Lib.decodeN, if_pos c]
  · rw [e]; dsimp only; rw [Lib.takeB l c2]
    show Lib.decodeN 2 (l.getD 0 0).toNat (l.getD 1 0).toNat 0 0 = _
    rw [Lib.decodeN, if_neg (by omega), if_pos ⟨c1, by omega, c3⟩, if_pos (by omega)]
  · rw [e]; dsimp only; rw [Lib.takeC l c2]
    show Lib.decodeN 3 (l.getD 0 0).toNat (l.getD 1 0).toNat (l.getD 2 0).toNat 0 = _
    rw [Lib.decodeN, if_neg (by omega), if_neg (by omega), if_pos ⟨c1, ⟨by omega, c3⟩, by omega, c4⟩, if_pos ⟨by omega, by omega⟩]
  · rw [e]; dsimp only; rw [Lib.takeD l c2]
    show Lib.decodeN 4 (l.getD 0 0).toNat (l.getD 1 0).toNat (l.getD 2 0).toNat (l.getD 3 0).toNat = _
    rw [Lib.decodeN, if_neg (by omega), if_neg (by omega), if_neg (by omega), if_pos ⟨c1, ⟨by omega, c3⟩, ⟨by omega, c4⟩, by omega, c5⟩, if_pos ⟨by omega, by omega⟩]
  · rw [e] at hk; exact absurd ⟨rfl, rfl⟩ hk
theorem cp_one {v : List UInt8} (hne : v ≠ []) (ok : okR (decL v) = true) : cp (v.take (decL v).2) = [decL v] ∧ validL (v.take (decL v).2) = true := by
  have hb := decL_bd v
  have hl : 0 < v.length := List.length_pos_iff.2 hne
  have hne2 : v.take (decL v).2 ≠ [] := by
    intro e
    have := congrArg List.length e
    rw [List.length_take, List.length_nil] at this
    omega
  have e := decL_take hne ok
  have e2 : (v.take (decL v).2).drop (decL v).2 = [] := List.drop_eq_nil_of_le (by rw [List.length_take]; omega)
  refine ⟨by rw [cp_cons hne2, e, e2, cp_nil], by rw [valid_cons hne2, e, e2, ok]; rfl⟩
/-- Where a text's runes part, its bytes part. -/
theorem cp_split : ∀ (n : Nat) (v : List UInt8) (r1 r2 : List (Nat × Nat)), v.length ≤ n → validL v = true → cp v = r1 ++ r2 →
    ∃ i, i ≤ v.length ∧ validL (v.take i) = true ∧ cp (v.take i) = r1 ∧ validL (v.drop i) = true ∧ cp (v.drop i) = r2
  | n, v, [], r2, _, hv, h => ⟨0, Nat.zero_le _, by rw [List.take_zero]; rfl, by rw [List.take_zero]; rfl, hv, h⟩
  | 0, v, d :: r1, r2, hn, hv, h => by
    have : v = [] := List.eq_nil_of_length_eq_zero (by omega)
    subst this; rw [cp_nil] at h; cases h
  | n + 1, v, d :: r1, r2, hn, hv, h => by
    have hne : v ≠ [] := by rintro rfl; rw [cp_nil] at h; cases h
    have hb := decL_bd v
    rw [cp_cons hne, List.cons_append] at h
    injection h with h1 h2
    rw [valid_cons hne, Bool.and_eq_true] at hv
    obtain ⟨i, hi, a1, a2, a3, a4⟩ := cp_split n _ r1 r2 (by rw [List.length_drop]; omega) hv.2 h2
    obtain ⟨o1, o2⟩ := cp_one hne hv.1
    have hs := hb.2.2.2 hne
    rw [List.length_drop] at hi
    refine ⟨(decL v).2 + i, by omega, ?_, ?_, ?_, ?_⟩
    · rw [List.take_add, valid_append o2]; exact a1
    · rw [List.take_add, cp_append _ _ _ (Nat.le_refl _) o2, o1, a2, h1]; rfl
    · rw [← List.drop_drop]; exact a3
    · rw [← List.drop_drop]; exact a4
theorem rn_append {a b : List UInt8} (h : validL a = true) : rn (a ++ b) = rn a ++ rn b := by
  unfold rn; rw [cp_append _ _ _ (Nat.le_refl _) h, List.map_append]
theorem rn_split {v : List UInt8} {r1 r2 : List Nat} (hv : validL v = true) (h : rn v = r1 ++ r2) :
    ∃ i, i ≤ v.length ∧ validL (v.take i) = true ∧ rn (v.take i) = r1 ∧ validL (v.drop i) = true ∧ rn (v.drop i) = r2 := by
  unfold rn at h
  obtain ⟨a, b, e, rfl, rfl⟩ := List.map_eq_append_iff.1 h
  obtain ⟨i, h1, h2, h3, h4, h5⟩ := cp_split v.length v a b (Nat.le_refl _) hv e
  exact ⟨i, h1, h2, by unfold rn; rw [h3], h4, by unfold rn; rw [h5]⟩
theorem signs_valid {p : List UInt8} {a : List Sg} (h : signsF p = some a) : valueB p = true ∧ sgF ([], false) (cp p) = (a, false) := by
  unfold signsF at h
  split at h
  · next hv =>
    split at h
    · cases h
    · next hq => exact ⟨hv, Prod.ext (Option.some.inj h) (by simpa using hq)⟩
  · cases h
theorem valueB_valid {p : List UInt8} (h : valueB p = true) : validL p = true := by
  unfold valueB at h; simp only [Bool.and_eq_true] at h; exact h.1.1
theorem valueB_len {p : List UInt8} (h : valueB p = true) : (cp p).length ≤ 24 := by
  unfold valueB at h; simp only [Bool.and_eq_true, decide_eq_true_eq] at h; exact h.1.2
theorem signs_join {p q : List UInt8} {a b : List Sg} (hp : signsF p = some a) (hq : signsF q = some b) (hall : (signsF (p ++ 42 :: q)).isSome = true) : signsF (p ++ 42 :: q) = some (a ++ .any :: b) := by
  obtain ⟨c, hc⟩ := Option.isSome_iff_exists.1 hall
  obtain ⟨p1, p2⟩ := signs_valid hp
  obtain ⟨q1, q2⟩ := signs_valid hq
  obtain ⟨c1, c2⟩ := signs_valid hc
  have e : cp (42 :: q) = (42, 1) :: cp q := by
    rw [cp_cons (by simp), dec_b (by decide)]; rfl
  rw [cp_append _ _ _ (Nat.le_refl _) (valueB_valid p1), e] at c2
  unfold sgF at c2
  rw [List.foldl_append] at c2
  have h2 : List.foldl stepS ([], false) (cp p) = (a, false) := p2
  rw [h2] at c2
  have h3 : sgF (a ++ [.any], false) (cp q) = (c, false) := c2
  rw [sgF_front, q2] at h3
  have h4 := congrArg Prod.fst h3
  simp only [List.append_assoc, List.singleton_append] at h4
  rw [hc, h4]
/-- A value parts into one that p stands for, any runes, and one that q stands for. -/
def Joins (p q v : List UInt8) : Prop := ∃ i k, i ≤ k ∧ k ≤ v.length ∧ validL (v.take i) = true ∧ fitsF p (v.take i) = true ∧ validL (v.drop k) = true ∧ fitsF q (v.drop k) = true
theorem scope_joins {p q v : List UInt8} (hp : (signsF p).isSome = true) (hq : (signsF q).isSome = true) (hall : (signsF (p ++ 42 :: q)).isSome = true) (hv : validL v = true) : fitsF (p ++ 42 :: q) v = true ↔ Joins p q v := by
  obtain ⟨a, ha⟩ := Option.isSome_iff_exists.1 hp
  obtain ⟨b, hb⟩ := Option.isSome_iff_exists.1 hq
  rw [fitsF_some (signs_join ha hb hall) hv, Mt.join]
  constructor
  · rintro ⟨x, u, y, e, h1, h2⟩
    obtain ⟨i, i1, i2, i3, i4, i5⟩ := rn_split hv e
    obtain ⟨k, k1, k2, k3, k4, k5⟩ := rn_split i4 i5
    rw [List.length_drop] at k1
    rw [List.drop_drop] at k4 k5
    refine ⟨i, i + k, by omega, by omega, i2, (fitsF_some ha i2).2 (by rw [i3]; exact h1), k4, (fitsF_some hb k4).2 (by rw [k5]; exact h2)⟩
  · rintro ⟨i, k, h1, h2, h3, h4, h5, h6⟩
    have e0 : v = v.take i ++ ((v.drop i).take (k - i) ++ v.drop k) := by
      have e1 : v.drop k = (v.drop i).drop (k - i) := by rw [List.drop_drop]; congr 1; omega
      rw [e1, List.take_append_drop, List.take_append_drop]
    have e2 : validL ((v.drop i).take (k - i)) = true := by
      have hd : validL (v.drop i) = true := by
        rw [← valid_append h3 (b := v.drop i), List.take_append_drop]; exact hv
      cases h : validL ((v.drop i).take (k - i)) with
      | true => rfl
      | false =>
        have := valid_bad _ _ (v.drop k) (Nat.le_refl _) h h5
        have e1 : v.drop k = (v.drop i).drop (k - i) := by rw [List.drop_drop]; congr 1; omega
        rw [e1, List.take_append_drop, hd] at this
        cases this
    refine ⟨rn (v.take i), rn ((v.drop i).take (k - i)), rn (v.drop k), ?_, (fitsF_some ha h3).1 h4, (fitsF_some hb h5).1 h6⟩
    conv => lhs; rw [e0]
    rw [rn_append h3, rn_append e2]
/-- A text's pieces between its ';'. -/
def splitL : List UInt8 → List (List UInt8)
  | [] => [[]]
  | b :: t => if b = 59 then [] :: splitL t else (b :: (splitL t).headD []) :: (splitL t).tail
theorem splitL_ne : ∀ l : List UInt8, splitL l ≠ []
  | [] => by simp [splitL]
  | b :: t => by unfold splitL; split <;> simp
theorem splitL_none : ∀ {a : List UInt8}, 59 ∉ a → splitL a = [a]
  | [], _ => rfl
  | b :: t, h => by
    have h1 : b ≠ 59 := fun e => h (by rw [e]; exact List.mem_cons_self)
    have h2 := splitL_none (a := t) fun e => h (List.mem_cons_of_mem _ e)
    unfold splitL
    rw [if_neg h1, h2]; rfl
theorem splitL_append : ∀ (a b : List UInt8), splitL (a ++ 59 :: b) = splitL a ++ splitL b
  | [], b => by simp [splitL]
  | c :: a, b => by
    have ih := splitL_append a b
    rw [List.cons_append]
    have e : ∀ t, splitL (c :: t) = if c = 59 then [] :: splitL t else (c :: (splitL t).headD []) :: (splitL t).tail := fun t => rfl
    rw [e, e, ih]
    split
    · rfl
    · cases e : splitL a with
      | nil => exact absurd e (splitL_ne a)
      | cons x r => rfl
theorem splitL_cons {a : List UInt8} (h : 59 ∉ a) (b : List UInt8) : splitL (a ++ 59 :: b) = a :: splitL b := by
  rw [splitL_append, splitL_none h]; rfl
end Go.Proofs.YtgfoeicfigfepaaDoor

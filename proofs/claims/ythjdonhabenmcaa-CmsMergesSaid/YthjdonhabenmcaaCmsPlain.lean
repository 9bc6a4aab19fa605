/-
  Counters (chapter 8) in plain words: shapes, places, saturated sums. No program in sight.
-/
import Derived.Test.YthjdonhabenmcaaMem
namespace Go.Proofs.Ythjdonhabenmcaa
/-- May there be so many rows and columns? -/
def shapeB (r c : Int) : Bool := decide (1 ≤ r ∧ r ≤ 4 ∧ (c = 4 ∨ c = 8 ∨ c = 16 ∨ c = 32))
/-- Are n numbers counters of that shape? -/
def rightC (r c : Int) (n : Nat) : Bool := shapeB r c && decide ((n : Int) = r * c)
/-- A sum, saturated. -/
def sat (a b : Int) : Int := if 18446744073709551615 - b < a then 18446744073709551615 else a + b
/-- The column that h tells in a row. -/
def colF (c row h : Int) : Int := (h / 4294967296 + row * (h % 4294967296)) % c
/-- The place of the counter that h tells in row k. -/
def place (c : Nat) (h : Int) (k : Nat) : Nat := k * c + (colF c k h).toNat
def places (r c : Nat) (h : Int) : List Nat := (List.range r).map (place c h)
/-- One counter is made anew. -/
def chg (f : Nat → Int → Int) (l : List Int) (p : Nat) : List Int := l.set p (f p (nth l p))
def chgAll (f : Nat → Int → Int) (l : List Int) (ps : List Nat) : List Int := ps.foldl (chg f) l

theorem sat_eq (a b : Int) : sat a b = min (a + b) 18446744073709551615 := by unfold sat; split <;> omega
theorem sat_U {a b : Int} (ha : 0 ≤ a) (hb : 0 ≤ b) : 0 ≤ sat a b ∧ sat a b ≤ 18446744073709551615 := by unfold sat; split <;> omega
theorem shape_of {r c : Int} (h : shapeB r c = true) : 1 ≤ r ∧ r ≤ 4 ∧ (c = 4 ∨ c = 8 ∨ c = 16 ∨ c = 32) := by simpa [shapeB] using h
theorem shape_nat {r c : Int} (h : shapeB r c = true) : ∃ R C : Nat, r = R ∧ c = C ∧ 1 ≤ R ∧ R ≤ 4 ∧ (C = 4 ∨ C = 8 ∨ C = 16 ∨ C = 32) := by
  obtain ⟨h1, h2, h3⟩ := shape_of h
  exact ⟨r.toNat, c.toNat, by omega, by omega, by omega, by omega, by omega⟩
theorem right_of {r c : Int} {n : Nat} (h : rightC r c n = true) : shapeB r c = true ∧ (n : Int) = r * c := by simpa [rightC] using h
theorem right_mk {r c : Int} {n : Nat} (h : shapeB r c = true) (e : (n : Int) = r * c) : rightC r c n = true := by simp [rightC, h, e]
theorem shape_mul {R C : Nat} (h2 : R ≤ 4) (hc : C = 4 ∨ C = 8 ∨ C = 16 ∨ C = 32) : R * C ≤ 128 := by rcases hc with rfl | rfl | rfl | rfl <;> omega
theorem colF_bd {c : Int} (hc : 0 < c) (row h : Int) : 0 ≤ colF c row h ∧ colF c row h < c := ⟨Int.emod_nonneg _ (by omega), Int.emod_lt_of_pos _ hc⟩
theorem place_lt {r c : Nat} (hc : 0 < c) (h : Int) {k : Nat} (hk : k < r) : place c h k < r * c := by
  have h1 := colF_bd (c := c) (by omega) k h
  have h2 : k * c + c ≤ r * c := by rw [← Nat.succ_mul]; exact Nat.mul_le_mul_right c hk
  unfold place; omega
theorem places_lt {r c : Nat} (hc : 0 < c) (h : Int) : ∀ p ∈ places r c h, p < r * c := by
  intro p hp
  obtain ⟨k, hk, rfl⟩ := List.mem_map.1 hp
  exact place_lt hc h (List.mem_range.1 hk)
theorem length_places (r c : Nat) (h : Int) : (places r c h).length = r := by simp [places]
theorem length_chg (f : Nat → Int → Int) (l : List Int) (p : Nat) : (chg f l p).length = l.length := by simp [chg]
theorem chgAll_snoc (f : Nat → Int → Int) (l : List Int) (ps : List Nat) (p : Nat) : chgAll f l (ps ++ [p]) = chg f (chgAll f l ps) p := by simp [chgAll]
theorem length_chgAll (f : Nat → Int → Int) (l : List Int) (ps : List Nat) : (chgAll f l ps).length = l.length := by
  induction ps generalizing l with
  | nil => rfl
  | cons p ps ih => exact (ih _).trans (length_chg _ _ _)
theorem nth_set (l : List Int) (p i : Nat) (v : Int) (hp : p < l.length) : nth (l.set p v) i = if i = p then v else nth l i := by
  unfold nth
  rw [List.getElem?_set]
  by_cases h : p = i
  · subst h; simp [hp]
  · rw [if_neg h, if_neg (fun e => h e.symm)]
theorem nth_chg (f : Nat → Int → Int) (l : List Int) (p i : Nat) (hp : p < l.length) : nth (chg f l p) i = if i = p then f p (nth l p) else nth l i := nth_set l p i _ hp
/-- What stands at i behind all changes: made anew, if i is among the places. -/
theorem nth_chgAll (f : Nat → Int → Int) (i : Nat) : ∀ (ps : List Nat) (l : List Int), (∀ p ∈ ps, p < l.length) → ps.Nodup → nth (chgAll f l ps) i = if i ∈ ps then f i (nth l i) else nth l i
  | [], l, _, _ => by simp [chgAll]
  | p :: ps, l, hp, hn => by
    have hn' := List.nodup_cons.1 hn
    have h1 : nth (chgAll f l (p :: ps)) i = nth (chgAll f (chg f l p) ps) i := rfl
    rw [h1, nth_chgAll f i ps (chg f l p) (fun q hq => by rw [length_chg]; exact hp q (List.mem_cons_of_mem _ hq)) hn'.2, nth_chg f l p i (hp p (List.mem_cons_self ..))]
    by_cases e : i = p
    · subst e; simp [hn'.1]
    · simp [e]
theorem Us.set {l : List Int} (h : Us l) (p : Nat) {v : Int} (hv : U v) : Us (l.set p v) := fun x hx => by
  rcases List.mem_or_eq_of_mem_set hx with h1 | h1
  · exact h x h1
  · rw [h1]; exact hv
theorem Us.chgAll {f : Nat → Int → Int} (hf : ∀ p o, U o → U (f p o)) : ∀ {ps : List Nat} {l : List Int}, Us l → Us (chgAll f l ps)
  | [], _, h => h
  | p :: ps, l, h => Us.chgAll hf (l := chg f l p) (ps := ps) (h.set p (hf p _ (nth_U h p)))
/-- Lists are the same whose numbers are, place by place. -/
theorem list_ext {l m : List Int} (h : l.length = m.length) (hn : ∀ i, i < l.length → nth l i = nth m i) : l = m := by
  apply List.ext_getElem h
  intro i h1 h2
  have := hn i h1
  simpa [nth, h1, h2] using this
end Go.Proofs.Ythjdonhabenmcaa

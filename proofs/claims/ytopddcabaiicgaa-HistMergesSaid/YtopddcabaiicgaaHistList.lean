/-
  Histograms (chapter 9) in plain words: bins, rising; what is put, merged, counted. No program in sight.
-/
import Derived.Test.YtopddcabaiicgaaHistPlain
namespace Go.Proofs.Ytopddcabaiicgaa
set_option linter.unusedVariables false
/-- A sum, saturated. -/
def sat (a b : Int) : Int := if 18446744073709551615 - b < a then 18446744073709551615 else a + b
theorem sat_eq (a b : Int) : sat a b = min (a + b) 18446744073709551615 := by unfold sat; split <;> omega
theorem sat_U {a b : Int} (ha : U a) (hb : U b) : U (sat a b) := by unfold U at *; unfold sat; split <;> omega
abbrev Bins := List (Int × Int)
/-- Bins, with n more at a place. -/
def putL : Bins → Int → Int → Bins
  | [], a, n => [(a, n)]
  | x :: l, a, n => if x.1 < a then x :: putL l a n else if x.1 = a then (a, sat x.2 n) :: l else (a, n) :: x :: l
/-- How many are at a place. -/
def getL : Bins → Int → Int
  | [], _ => 0
  | x :: l, a => if x.1 = a then x.2 else getL l a
/-- How many are at places that p means. -/
def S (p : Int → Bool) : Bins → Int
  | [] => 0
  | x :: l => (if p x.1 then x.2 else 0) + S p l
def Rise (l : Bins) : Prop := l.Pairwise fun x y => x.1 < y.1
def UB (l : Bins) : Prop := ∀ x ∈ l, U x.2
def NZ (l : Bins) : Prop := ∀ x ∈ l, x.2 ≠ 0
def cap (a : Int) : Int := min a 18446744073709551615
theorem UB.cons {x : Int × Int} {l : Bins} (h : UB (x :: l)) : U x.2 ∧ UB l := ⟨h x (by simp), fun y hy => h y (by simp [hy])⟩
theorem UB.mk {x : Int × Int} {l : Bins} (h : U x.2) (hl : UB l) : UB (x :: l) := fun y hy => by
  rcases List.mem_cons.1 hy with rfl | h'
  · exact h
  · exact hl y h'
theorem S_nonneg {p : Int → Bool} : ∀ {l : Bins}, UB l → 0 ≤ S p l
  | [], _ => by simp [S]
  | x :: l, h => by
    obtain ⟨h1, h2⟩ := h.cons
    have := S_nonneg (p := p) h2
    unfold U at h1
    simp only [S]; split <;> omega
theorem putL_ub : ∀ {l : Bins} {a n : Int}, UB l → U n → UB (putL l a n)
  | [], a, n, _, hn => fun y hy => by simp [putL] at hy; subst hy; exact hn
  | x :: l, a, n, h, hn => by
    obtain ⟨h1, h2⟩ := h.cons
    unfold putL
    split
    · exact UB.mk h1 (putL_ub h2 hn)
    · split
      · exact UB.mk (sat_U h1 hn) h2
      · exact UB.mk hn h
theorem putL_keys : ∀ {l : Bins} {a n : Int} {y : Int × Int}, y ∈ putL l a n → y.1 = a ∨ ∃ z ∈ l, z.1 = y.1
  | [], a, n, y, h => by simp [putL] at h; subst h; exact .inl rfl
  | x :: l, a, n, y, h => by
    unfold putL at h
    split at h
    · rcases List.mem_cons.1 h with rfl | h'
      · exact .inr ⟨_, by simp, rfl⟩
      · rcases putL_keys h' with h1 | ⟨z, hz, e⟩
        · exact .inl h1
        · exact .inr ⟨z, by simp [hz], e⟩
    · split at h
      · rcases List.mem_cons.1 h with rfl | h'
        · exact .inl rfl
        · exact .inr ⟨y, by simp [h'], rfl⟩
      · rcases List.mem_cons.1 h with rfl | h'
        · exact .inl rfl
        · exact .inr ⟨y, h', rfl⟩
theorem putL_rise : ∀ {l : Bins} {a n : Int}, Rise l → Rise (putL l a n)
  | [], a, n, _ => by simp [putL, Rise]
  | x :: l, a, n, h => by
    obtain ⟨h1, h2⟩ := List.pairwise_cons.1 h
    unfold putL
    split
    · refine List.pairwise_cons.2 ⟨fun y hy => ?_, putL_rise h2⟩
      rcases putL_keys hy with e | ⟨z, hz, e⟩
      · omega
      · have := h1 z hz; omega
    · split
      · rename_i e
        exact List.pairwise_cons.2 ⟨fun y hy => by have := h1 y hy; show a < y.1; omega, h2⟩
      · refine List.pairwise_cons.2 ⟨fun y hy => ?_, h⟩
        rcases List.mem_cons.1 hy with rfl | h'
        · show a < y.1; omega
        · have := h1 y h'; show a < y.1; omega
theorem putL_nz : ∀ {l : Bins} {a n : Int}, UB l → NZ l → U n → n ≠ 0 → NZ (putL l a n)
  | [], a, n, _, _, hn, h0 => fun y hy => by simp [putL] at hy; subst hy; exact h0
  | x :: l, a, n, hu, hz, hn, h0 => by
    obtain ⟨u1, u2⟩ := hu.cons
    have z1 : x.2 ≠ 0 := hz x (by simp)
    have z2 : NZ l := fun y hy => hz y (by simp [hy])
    unfold putL
    intro y hy
    split at hy
    · rcases List.mem_cons.1 hy with rfl | h'
      · exact z1
      · exact putL_nz u2 z2 hn h0 y h'
    · split at hy
      · rcases List.mem_cons.1 hy with rfl | h'
        · show sat x.2 n ≠ 0
          unfold U at u1 hn
          unfold sat; split <;> omega
        · exact z2 y h'
      · rcases List.mem_cons.1 hy with rfl | h'
        · exact h0
        · exact hz y h'
theorem S_put {p : Int → Bool} : ∀ {l : Bins} {a n : Int}, UB l → U n → cap (S p (putL l a n)) = cap (S p l + if p a then n else 0)
  | [], a, n, _, _ => by simp [putL, S]
  | x :: l, a, n, h, hn => by
    obtain ⟨h1, h2⟩ := h.cons
    have hs := S_nonneg (p := p) h2
    have ih := S_put (p := p) (a := a) h2 hn
    unfold U at h1 hn
    unfold putL
    split
    · simp only [S]
      unfold cap at ih ⊢
      have hs2 := S_nonneg (p := p) (putL_ub (a := a) h2 hn)
      split <;> split at ih <;> split <;> simp_all <;> omega
    · split
      · rename_i e
        simp only [S, e]
        unfold cap
        rw [sat_eq]
        split <;> omega
      · simp only [S]
        unfold cap
        split <;> split <;> omega
theorem cap_cap_add (a a' b : Int) (hb : 0 ≤ b) (h : cap a = cap a') : cap (a + b) = cap (a' + b) := by unfold cap at *; omega
/-- Bins, with all of others. -/
def putAll (l : Bins) (m : Bins) : Bins := m.foldl (fun x y => putL x y.1 y.2) l
theorem putAll_nil (l : Bins) : putAll l [] = l := rfl
theorem putAll_cons (l : Bins) (x : Int × Int) (m : Bins) : putAll l (x :: m) = putAll (putL l x.1 x.2) m := rfl
theorem putAll_snoc (l : Bins) (m : Bins) (x : Int × Int) : putAll l (m ++ [x]) = putL (putAll l m) x.1 x.2 := by simp [putAll]
theorem putAll_ub : ∀ {m l : Bins}, UB l → UB m → UB (putAll l m)
  | [], _, h, _ => h
  | x :: m, l, h, hm => putAll_ub (m := m) (putL_ub h hm.cons.1) hm.cons.2
theorem putAll_rise : ∀ {m l : Bins}, Rise l → Rise (putAll l m)
  | [], _, h => h
  | x :: m, l, h => putAll_rise (m := m) (putL_rise h)
theorem putAll_nz : ∀ {m l : Bins}, UB l → UB m → NZ l → NZ m → NZ (putAll l m)
  | [], _, _, _, h, _ => h
  | x :: m, l, u, um, h, hm => putAll_nz (m := m) (putL_ub u um.cons.1) um.cons.2 (putL_nz u h um.cons.1 (hm x (by simp))) (fun y hy => hm y (by simp [hy]))
theorem S_putAll {p : Int → Bool} : ∀ {m l : Bins}, UB l → UB m → cap (S p (putAll l m)) = cap (S p l + S p m)
  | [], l, _, _ => by simp [putAll, S]
  | x :: m, l, h, hm => by
    obtain ⟨h1, h2⟩ := hm.cons
    rw [putAll_cons, S_putAll (m := m) (putL_ub h h1) h2, cap_cap_add _ _ _ (S_nonneg h2) (S_put h h1)]
    simp only [S]
    congr 1; omega
theorem S_append (p : Int → Bool) (l m : Bins) : S p (l ++ m) = S p l + S p m := by
  induction l with
  | nil => simp [S]
  | cons x l ih => simp only [List.cons_append, S, ih]; omega
theorem S_rev (p : Int → Bool) (l : Bins) : S p l.reverse = S p l := by
  induction l with
  | nil => rfl
  | cons x l ih => rw [List.reverse_cons, S_append, ih]; simp only [S]; omega
theorem S_le {p q : Int → Bool} : ∀ {l : Bins}, UB l → (∀ x ∈ l, p x.1 = true → q x.1 = true) → S p l ≤ S q l
  | [], _, _ => by simp [S]
  | x :: l, h, hp => by
    obtain ⟨h1, h2⟩ := h.cons
    have := S_le (p := p) (q := q) h2 (fun y hy => hp y (by simp [hy]))
    have h3 := hp x (by simp)
    unfold U at h1
    simp only [S]
    cases e1 : p x.1 <;> cases e2 : q x.1 <;> simp_all <;> omega
theorem S_congr {p q : Int → Bool} : ∀ {l : Bins}, (∀ x ∈ l, p x.1 = q x.1) → S p l = S q l
  | [], _ => rfl
  | x :: l, h => by
    simp only [S]
    rw [S_congr (p := p) (q := q) (l := l) (fun y hy => h y (by simp [hy])), h x (by simp)]
theorem S_none {p : Int → Bool} : ∀ {l : Bins}, (∀ x ∈ l, p x.1 = false) → S p l = 0
  | [], _ => rfl
  | x :: l, h => by
    simp only [S]
    rw [S_none (p := p) (l := l) (fun y hy => h y (by simp [hy])), h x (by simp)]; simp
/-- Rising bins without noughts are known by how many are at each place. -/
theorem bins_ext : ∀ {l m : Bins}, Rise l → Rise m → UB l → UB m → NZ l → NZ m → (∀ a, cap (S (· == a) l) = cap (S (· == a) m)) → l = m
  | [], [], _, _, _, _, _, _, _ => rfl
  | [], y :: m, _, hm, _, um, _, zm, h => by
    exfalso
    obtain ⟨u1, u2⟩ := um.cons
    have := h y.1
    have h0 := zm y (by simp)
    have hs := S_nonneg (p := (· == y.1)) u2
    simp only [S, cap, beq_self_eq_true, if_true] at this
    unfold U at u1
    omega
  | x :: l, [], hl, _, ul, _, zl, _, h => by
    exfalso
    obtain ⟨u1, u2⟩ := ul.cons
    have := h x.1
    have h0 := zl x (by simp)
    have hs := S_nonneg (p := (· == x.1)) u2
    simp only [S, cap, beq_self_eq_true, if_true] at this
    unfold U at u1
    omega
  | x :: l, y :: m, hl, hm, ul, um, zl, zm, h => by
    obtain ⟨l1, l2⟩ := List.pairwise_cons.1 hl
    obtain ⟨m1, m2⟩ := List.pairwise_cons.1 hm
    obtain ⟨u1, u2⟩ := ul.cons
    obtain ⟨v1, v2⟩ := um.cons
    have x0 := zl x (by simp)
    have y0 := zm y (by simp)
    unfold U at u1 v1
    have e1 : x.1 = y.1 := by
      rcases Int.lt_trichotomy x.1 y.1 with hlt | heq | hgt
      · exfalso
        have := h x.1
        have n1 : S (· == x.1) (y :: m) = 0 := S_none (fun z hz => by
          rcases List.mem_cons.1 hz with rfl | h'
          · simp; omega
          · have := m1 z h'; simp; omega)
        have hs := S_nonneg (p := (· == x.1)) u2
        rw [n1] at this
        simp only [S, cap, beq_self_eq_true, if_true] at this
        omega
      · exact heq
      · exfalso
        have := h y.1
        have n1 : S (· == y.1) (x :: l) = 0 := S_none (fun z hz => by
          rcases List.mem_cons.1 hz with rfl | h'
          · simp; omega
          · have := l1 z h'; simp; omega)
        have hs := S_nonneg (p := (· == y.1)) v2
        rw [n1] at this
        simp only [S, cap, beq_self_eq_true, if_true] at this
        omega
    have nl : S (· == x.1) l = 0 := S_none (fun z hz => by have := l1 z hz; simp; omega)
    have nm : S (· == x.1) m = 0 := S_none (fun z hz => by have := m1 z hz; simp; omega)
    have e2 : x.2 = y.2 := by
      have := h x.1
      simp only [S, cap, nl, nm, beq_self_eq_true, if_true, ← e1] at this
      omega
    have ht : l = m := bins_ext l2 m2 u2 v2 (fun z hz => zl z (by simp [hz])) (fun z hz => zm z (by simp [hz])) (fun a => by
      have := h a
      by_cases ea : x.1 = a
      · subst ea; rw [nl, nm]
      · simp only [S] at this
        have d1 : (x.1 == a) = false := by simp [ea]
        have d2 : (y.1 == a) = false := by rw [← e1]; exact d1
        simp only [d1, d2] at this
        simpa using this)
    rw [ht, Prod.ext e1 e2]
theorem putL_end : ∀ {l : Bins} {a n : Int}, (∀ x ∈ l, x.1 < a) → putL l a n = l ++ [(a, n)]
  | [], _, _, _ => rfl
  | x :: l, a, n, h => by
    unfold putL
    rw [if_pos (h x (by simp)), putL_end (fun y hy => h y (by simp [hy]))]; rfl
theorem putAll_rising : ∀ {m l : Bins}, Rise (l ++ m) → putAll l m = l ++ m
  | [], l, _ => by simp [putAll]
  | x :: m, l, h => by
    have h' : Rise ((l ++ [x]) ++ m) := by simpa using h
    have hx : ∀ y ∈ l, y.1 < x.1 := fun y hy => by
      have := (List.pairwise_append.1 h).2.2 y hy x (by simp)
      exact this
    rw [putAll_cons, putL_end hx, putAll_rising (l := l ++ [(x.1, x.2)]) h']
    simp
theorem putAll_self {m : Bins} (h : Rise m) : putAll [] m = m := putAll_rising (l := []) (by simpa using h)
/-- What is left without noughts. -/
def dropZ (l : Bins) : Bins := l.filter fun x => x.2 != 0
theorem dropZ_nz {l : Bins} (h : NZ l) : dropZ l = l := List.filter_eq_self.2 fun x hx => by simp [h x hx]
/-- Bins with n more, which may be none. -/
def addL (l : Bins) (a n : Int) : Bins := if n = 0 then l else putL l a n
theorem putL_zero : ∀ {l : Bins} {a : Int}, UB l → NZ l → dropZ (putL l a 0) = l
  | [], a, _, _ => by simp [putL, dropZ]
  | x :: l, a, hu, hz => by
    obtain ⟨u1, u2⟩ := hu.cons
    have z1 : x.2 ≠ 0 := hz x (by simp)
    have z2 : NZ l := fun y hy => hz y (by simp [hy])
    have ih := putL_zero (a := a) u2 z2
    unfold U at u1
    unfold putL
    split
    · unfold dropZ at ih ⊢
      rw [List.filter_cons, ih]; simp [z1]
    · split
      · rename_i e
        have es : sat x.2 0 = x.2 := by unfold sat; split <;> omega
        have := dropZ_nz hz
        rw [es, ← e]; exact this
      · have := dropZ_nz hz
        unfold dropZ at this ⊢
        rw [List.filter_cons, this]; simp
theorem dropZ_put {l : Bins} {a n : Int} (hu : UB l) (hz : NZ l) (hn : U n) : dropZ (putL l a n) = addL l a n := by
  unfold addL
  split
  · rename_i e; subst e; exact putL_zero hu hz
  · rename_i e; exact dropZ_nz (putL_nz hu hz hn e)
theorem addL_ub {l : Bins} {a n : Int} (h : UB l) (hn : U n) : UB (addL l a n) := by
  unfold addL; split
  · exact h
  · exact putL_ub h hn
theorem addL_rise {l : Bins} {a n : Int} (h : Rise l) : Rise (addL l a n) := by
  unfold addL; split
  · exact h
  · exact putL_rise h
theorem addL_nz {l : Bins} {a n : Int} (h : UB l) (hz : NZ l) (hn : U n) : NZ (addL l a n) := by
  unfold addL; split
  · exact hz
  · rename_i e; exact putL_nz h hz hn e
theorem S_add {p : Int → Bool} {l : Bins} {a n : Int} (h : UB l) (hn : U n) : cap (S p (addL l a n)) = cap (S p l + if p a then n else 0) := by
  unfold addL; split
  · rename_i e; subst e; simp
  · exact S_put h hn
/-- How many there are up to each, saturated. -/
def satSum (l : Bins) (s : Int) : Int := l.foldl (fun s x => sat s x.2) s
theorem satSum_eq : ∀ {l : Bins} {s : Int}, UB l → U s → satSum l s = cap (s + S (fun _ => true) l)
  | [], s, _, hs => by unfold U at hs; simp [satSum, S, cap]; omega
  | x :: l, s, h, hs => by
    obtain ⟨h1, h2⟩ := h.cons
    have hn := S_nonneg (p := fun _ => true) h2
    show satSum l (sat s x.2) = _
    rw [satSum_eq h2 (sat_U hs h1), sat_eq]
    unfold U at h1 hs
    simp only [S, cap, if_true]
    omega
theorem satSum_snoc (l : Bins) (x : Int × Int) (s : Int) : satSum (l ++ [x]) s = sat (satSum l s) x.2 := by simp [satSum]
theorem satSum_U {l : Bins} {s : Int} (h : UB l) (hs : U s) : U (satSum l s) := by
  rw [satSum_eq h hs]
  have := S_nonneg (p := fun _ => true) h
  unfold U cap at *; omega
end Go.Proofs.Ytopddcabaiicgaa

/-
  A map from int to uint64 reads as rising bins.
-/
import Derived.Test.YtopddcabaiicgaaHistList
import Derived.Maps.RangeWalk
import Derived.Maps.OwnOps
import Derived.Lib.SlKeysI
namespace Go.Proofs.Ytopddcabaiicgaa
open Go.RowKit
def ent (x : Int × Int) : Lit × DataW Unit := (.int .i64 x.1, .lit (.int .u64 x.2))
def dm (m : Bins) : DataW Unit := .map (m.map ent)
theorem same_int (a b : Int) : (Lit.int .i64 a).sameKey (.int .i64 b) = (a == b) := by
  simp only [Lit.sameKey, true_and]; rfl
theorem find_ent : ∀ (m : Bins) (a : Int), (m.map ent).find? (fun p => p.1.sameKey (.int .i64 a)) = (m.find? fun x => x.1 == a).map ent
  | [], _ => rfl
  | x :: m, a => by
    simp only [List.map_cons, List.find?_cons, ent, same_int]
    cases h : x.1 == a
    · simp only [find_ent m a]
    · rfl
theorem getL_find : ∀ (m : Bins) (a : Int), getL m a = match m.find? (fun x => x.1 == a) with | some x => x.2 | none => 0
  | [], _ => rfl
  | x :: m, a => by
    simp only [getL, List.find?_cons]
    by_cases h : x.1 = a
    · simp [h]
    · have : (x.1 == a) = false := by simp [h]
      rw [if_neg h, this, getL_find m a]
theorem dm_at (m : Bins) (a : Int) : (dm m).atKey (.int .i64 a) (.lit (.int .u64 0)) = .lit (.int .u64 (getL m a)) := by
  simp only [dm, DataW.atKey]
  rw [find_ent, getL_find]
  cases m.find? fun x => x.1 == a <;> rfl
theorem filter_ent (m : Bins) (a : Int) : (m.map ent).filter (fun p => !p.1.sameKey (.int .i64 a)) = (m.filter fun x => x.1 != a).map ent := by
  induction m with
  | nil => rfl
  | cons x m ih =>
    simp only [List.map_cons, List.filter_cons, ih]
    have : (ent x).1.sameKey (.int .i64 a) = (x.1 == a) := same_int _ _
    rw [this]
    cases h : x.1 == a <;> simp [bne, h]
theorem dm_del (m : Bins) (a : Int) : (dm m).del (.int .i64 a) = dm (m.filter fun x => x.1 != a) := by
  show DataW.map _ = DataW.map _
  rw [filter_ent]
theorem insert_first {a v : Int} : ∀ {m : Bins}, (∀ x ∈ m, a < x.1) → DataW.insert (ent (a, v)) (m.map ent) = ent (a, v) :: m.map ent
  | [], _ => rfl
  | x :: m, h => by
    have : (ent (a, v)).1.before (ent x).1 = true := by simp [ent, Lit.before, h x (by simp)]
    simp [DataW.insert, this]
theorem filter_other {a : Int} {m : Bins} (h : ∀ x ∈ m, x.1 ≠ a) : (m.filter fun x => x.1 != a) = m := List.filter_eq_self.2 fun x hx => by simp [h x hx]
theorem getL_none {a : Int} : ∀ {m : Bins}, (∀ x ∈ m, x.1 ≠ a) → getL m a = 0
  | [], _ => rfl
  | x :: m, h => by rw [getL, if_neg (h x (by simp)), getL_none (fun y hy => h y (by simp [hy]))]
theorem insert_put {a n : Int} (hn : U n) : ∀ {m : Bins}, Rise m → DataW.insert (ent (a, sat (getL m a) n)) ((m.filter fun x => x.1 != a).map ent) = (putL m a n).map ent
  | [], _ => by
    have : sat 0 n = n := by unfold U at hn; unfold sat; split <;> omega
    simp [getL, putL, DataW.insert, this]
  | x :: m, h => by
    obtain ⟨h1, h2⟩ := List.pairwise_cons.1 h
    rcases Int.lt_trichotomy x.1 a with hlt | heq | hgt
    · have d : (x.1 != a) = true := by simp; omega
      have e : getL (x :: m) a = getL m a := by rw [getL, if_neg (by omega)]
      have b : (ent (a, sat (getL m a) n)).1.before (ent x).1 = false := by simp [ent, Lit.before]; omega
      rw [List.filter_cons, d, if_pos rfl, List.map_cons, e, DataW.insert, b, if_neg (by simp), insert_put hn h2, putL, if_pos hlt, List.map_cons]
    · have d : (x.1 != a) = false := by simp [heq]
      have e : getL (x :: m) a = x.2 := by rw [getL, if_pos heq]
      have g : ∀ y ∈ m, a < y.1 := fun y hy => by have := h1 y hy; omega
      rw [List.filter_cons, d, if_neg (by simp), filter_other (fun y hy => by have := g y hy; omega), e, insert_first g, putL, if_neg (by omega), if_pos heq, List.map_cons]
    · have g : ∀ y ∈ x :: m, a < y.1 := fun y hy => by
        rcases List.mem_cons.1 hy with rfl | h'
        · exact hgt
        · have := h1 y h'; omega
      have s0 : sat 0 n = n := by unfold U at hn; unfold sat; split <;> omega
      rw [filter_other (fun y hy => by have := g y hy; omega), getL_none (fun y hy => by have := g y hy; omega), s0, insert_first g, putL, if_neg (by omega), if_neg (by omega), List.map_cons, List.map_cons, List.map_cons]
theorem dm_put {m : Bins} {a n : Int} (hm : Rise m) (hn : U n) : (dm m).put (.int .i64 a) (.lit (.int .u64 (sat (getL m a) n))) = dm (putL m a n) := by
  show DataW.map (DataW.insert (ent (a, sat (getL m a) n)) ((m.map ent).filter fun p => !p.1.sameKey (.int .i64 a))) = DataW.map _
  rw [filter_ent, insert_put hn hm]
theorem dm_size (m : Bins) : Maps.size (dm m) = m.length := by simp [dm, Maps.size]
theorem dm_keys (m : Bins) : intKeys (dm m) = m.map (·.1) := by simp [dm, intKeys, ent, Go.intOf, Function.comp_def]
theorem putL_length : ∀ (m : Bins) (a n : Int), (putL m a n).length ≤ m.length + 1
  | [], _, _ => by simp [putL]
  | x :: m, a, n => by
    have := putL_length m a n
    unfold putL
    split
    · simp; omega
    · split <;> simp
/-- Bins of which those that are noughts, and not still to come, are gone. -/
def swept (m : Bins) (left : Lit → Bool) : Bins := m.filter fun x => x.2 != 0 || left (.int .i64 x.1)
theorem swept_start {m : Bins} (D : DataW Unit) (h : D = dm m) : swept m (Maps.has D) = m := by
  subst h
  refine List.filter_eq_self.2 fun x hx => ?_
  have : Maps.has (dm m) (.int .i64 x.1) = true := by
    show (m.map ent).any _ = true
    exact List.any_eq_true.2 ⟨ent x, List.mem_map.2 ⟨x, hx, rfl⟩, by show (Lit.int .i64 x.1).sameKey _ = true; rw [same_int]; simp⟩
  rw [this]; simp
theorem swept_end {m : Bins} {left : Lit → Bool} (h : ∀ kl, left kl = false) : swept m left = dropZ m := by
  unfold swept dropZ
  congr 1; funext x; rw [h]; simp
theorem rise_unique {m : Bins} (h : Rise m) {x y : Int × Int} (hx : x ∈ m) (hy : y ∈ m) (e : x.1 = y.1) : x = y := by
  induction m with
  | nil => simp at hx
  | cons z m ih =>
    obtain ⟨h1, h2⟩ := List.pairwise_cons.1 h
    rcases List.mem_cons.1 hx with rfl | hx'
    · rcases List.mem_cons.1 hy with rfl | hy'
      · rfl
      · have := h1 y hy'; omega
    · rcases List.mem_cons.1 hy with rfl | hy'
      · have := h1 x hx'; omega
      · exact ih h2 hx' hy'
/-- What stands at a key, in the bins. -/
theorem swept_at {m : Bins} {left : Lit → Bool} {a c : Int} (hm : Rise m) (h : ∀ zd, (dm (swept m left)).atKey (.int .i64 a) zd = .lit (.int .u64 c)) : ∀ x ∈ m, x.1 = a → left (.int .i64 a) = true → x.2 = c := by
  intro x hx hxa hl
  have hf : (swept m left).find? (fun y => y.1 == a) = some x := by
    cases hfi : (swept m left).find? (fun y => y.1 == a) with
    | none =>
      have h1 := List.find?_eq_none.1 hfi x (List.mem_filter.2 ⟨hx, by rw [hxa, hl]; simp⟩)
      simp [hxa] at h1
    | some y =>
      have h1 := List.find?_some hfi
      have h2 := List.mem_of_find?_eq_some hfi
      have h3 := (List.mem_filter.1 h2).1
      simp at h1
      rw [rise_unique hm hx h3 (by rw [hxa, h1])]
  have := h .nil
  simp only [dm, DataW.atKey] at this
  rw [find_ent, hf] at this
  simp [ent] at this
  exact this
theorem swept_struck {m : Bins} {left : Lit → Bool} {a : Int} (hm : Rise m) (h : ∀ zd, (dm (swept m left)).atKey (.int .i64 a) zd = .lit (.int .u64 0)) (hl : left (.int .i64 a) = true) :
    (dm (swept m left)).del (.int .i64 a) = dm (swept m fun z => left z && !z.sameKey (.int .i64 a)) := by
  rw [dm_del]
  unfold swept
  rw [List.filter_filter]
  congr 1
  refine List.filter_congr fun x hx => ?_
  simp only [same_int]
  by_cases e : x.1 = a
  · have := swept_at hm h x hx e hl
    simp [e, this]
  · have : (x.1 == a) = false := by simp [e]
    simp [this, e]
theorem swept_stays {m : Bins} {left : Lit → Bool} {a c : Int} (hm : Rise m) (h : ∀ zd, (dm (swept m left)).atKey (.int .i64 a) zd = .lit (.int .u64 c)) (hc : c ≠ 0) (hl : left (.int .i64 a) = true) :
    swept m left = swept m fun z => left z && !z.sameKey (.int .i64 a) := by
  unfold swept
  refine List.filter_congr fun x hx => ?_
  simp only [same_int]
  by_cases e : x.1 = a
  · have := swept_at hm h x hx e hl
    simp [e, this, hc]
  · have : (x.1 == a) = false := by simp [e]
    simp [this]
/-- Keys that were collected, sorted, are the bins' own places. -/
theorem sorted_keys {m : Bins} {ss : List Int} (hm : Rise m) (h : ss.Perm (intKeys (dm m))) : ss.mergeSort (fun x y => decide (x ≤ y)) = m.map (·.1) := by
  rw [dm_keys] at h
  have hlt : (m.map (·.1)).Pairwise (fun a b : Int => a < b) := List.pairwise_map.2 hm
  refine List.Perm.eq_of_pairwise (le := fun a b => decide (a ≤ b) = true) (fun a b _ _ h1 h2 => by simp only [decide_eq_true_eq] at h1 h2; omega) (List.pairwise_mergeSort (fun a b c h1 h2 => by simp only [decide_eq_true_eq] at *; omega) (fun a b => by simp only [Bool.or_eq_true, decide_eq_true_eq]; omega) ss) (hlt.imp fun {a b} h => by simp only [decide_eq_true_eq]; omega) ((List.mergeSort_perm ss _).trans h)
theorem dropZ_rise {m : Bins} (h : Rise m) : Rise (dropZ m) := h.filter _
end Go.Proofs.Ytopddcabaiicgaa

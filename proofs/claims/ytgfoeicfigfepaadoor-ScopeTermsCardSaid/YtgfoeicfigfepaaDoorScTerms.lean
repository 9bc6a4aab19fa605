/-
  Scopes, in plain words. No program in sight.
-/
import Derived.Test.YtgfoeicfigfepaaDoorScPlain

namespace Go.Proofs.YtgfoeicfigfepaaDoor
set_option linter.unusedVariables false
set_option linter.unusedSimpArgs false
def bt (l : List UInt8) : ByteArray := ⟨l.toArray⟩
theorem tx_bt (l : List UInt8) : tx (bt l) = l := rfl
/-- What stands ahead of the first '=', and behind it. -/
def termOf (s : List UInt8) : Lab := (bt (s.take (s.idxOf 61)), bt (s.drop (s.idxOf 61 + 1)))
/-- May a piece be the next term? -/
def rdB (acc : List Lab) (s : List UInt8) : Bool :=
  decide (61 ∈ s) && (decide (acc.length ≠ 4) && (nameB (tx (termOf s).1) && (!(leqB (tx (termOf s).1) (tx (lastNm acc))) && (signsF (tx (termOf s).2)).isSome)))
def readL : List Lab → List (List UInt8) → Option (List Lab)
  | acc, [] => some acc
  | acc, s :: r => if rdB acc s = true then readL (acc ++ [termOf s]) r else none
/-- What read tells. -/
def readSc (s : List UInt8) : Option (List Lab) := if s = [] then some [] else readL [] (splitL s)
theorem readL_is : ∀ (ps : List (List UInt8)) (acc L : List Lab), readL acc ps = some L → L = acc ++ ps.map termOf
  | [], acc, L, h => by cases h; simp
  | s :: r, acc, L, h => by
    unfold readL at h
    split at h
    · have := readL_is r _ _ h
      simpa using this
    · cases h
theorem readL_append : ∀ (ps qs : List (List UInt8)) (acc : List Lab), readL acc (ps ++ qs) = (readL acc ps).bind fun a => readL a qs
  | [], qs, acc => rfl
  | s :: r, qs, acc => by
    rw [List.cons_append]
    have e : ∀ t, readL acc (s :: t) = if rdB acc s = true then readL (acc ++ [termOf s]) t else none := fun t => rfl
    rw [e, e]
    split
    · exact readL_append r qs _
    · rfl
theorem read_is {s : List UInt8} (hs : s ≠ []) {L : List Lab} (h : readSc s = some L) : L = (splitL s).map termOf := by
  unfold readSc at h
  rw [if_neg hs] at h
  simpa using readL_is _ _ _ h
/-- The terms of a scope made of two. -/
theorem read_join {s t : List UInt8} (hs : s ≠ []) (ht : t ≠ []) {L K J : List Lab} (h1 : readSc s = some L) (h2 : readSc t = some K) (h3 : readSc (s ++ 59 :: t) = some J) : J = L ++ K := by
  rw [read_is hs h1, read_is ht h2, read_is (by simp) h3, splitL_append, List.map_append]
/-- Does a list of terms mean a set? -/
noncomputable def allM (L set : List Lab) : Bool := L.all fun t => (getL set t.1).2 && fitsF (tx t.2) (tx (getL set t.1).1)
theorem allM_append (L K set : List Lab) : allM (L ++ K) set = (allM L set && allM K set) := List.all_append
/-- What Means tells. -/
noncomputable def meansF (s : List UInt8) (set : List Lab) : Bool × Int :=
  match readSc s with
  | none => (false, 50)
  | some L => if setB set = true then (allM L set, 0) else (false, 50)
end Go.Proofs.YtgfoeicfigfepaaDoor

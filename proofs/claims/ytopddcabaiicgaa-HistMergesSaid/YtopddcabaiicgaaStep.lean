/-
  append onto a row of the call's own, at a step of a region that draws its order.
-/
import Derived.Test.YtopddcabaiicgaaMem
import Derived.Deep.RegionHeld3
namespace Go.Proofs.Ytopddcabaiicgaa
open Go.RowKit
set_option linter.unusedVariables false
theorem step_append_rd {P : Program} {w : World} {ops : Array Oper} {o : Oper} {a : Act} {K : Act → World → Prop} {Q : Exit → Act → World → Prop} {E : Prop} (hgd : o.guard = none) (s x : Operand) (t : TypeId)
    (ho : o.op = .call { callee := .builtin .append, args := #[s, x], argTypes := #[t, t] })
    (base : Nat) (e : TypeId) (i : TypeInfo) (z : Value) (size bytes : Nat) (ht : P.underlying t = some (.slice e)) (hi : P.info? e = some i) (hz : i.zero = some z)
    (hsize : i.size = size) (hby : i.bytes = bytes) (hzs : z.cells.size = size) (hsz : 0 < size)
    (v : Value) (n : Nat) (xs : List Value) (hs : a.eval s = v) (hown : w.ownsRow base e size v n xs)
    (B : Nat) (A : Option Addr) (m c : Nat) (news : List Value) (hx : a.eval x = .slice A m c) (hm : news.length = m * size) (hr : Rd w B A news) (h1 : ∀ u ∈ news, u.oneCell' = true)
    (h63 : n + m ≤ maxLen) (hbytes : (n + m) * bytes ≤ 140737488355328) (hbase : base ≤ w.heap.size)
    (h : ∀ A' c' w', w'.ownsRow base e size (.slice A' (n + m) c') (n + m) (xs ++ news) → w.grownBy w' v.ownBlock → K (a.put o.dst (.slice A' (n + m) c')) w') :
    if Region.wanted o (yielded ops a.tmps) = true then Oper.wp P o a w K Q else E := by
  have hw : Region.wanted o (yielded ops a.tmps) = true := by simp [Region.wanted, hgd]
  rw [if_pos hw]
  obtain ⟨v', w', hrun, h2, h3, h4⟩ := run_append_rd (P := P) w base t o.type e i z size bytes ht hi hz hsize hby hzs hsz v n xs hown B A m c news hm hr h1 h63 hbytes hbase
  obtain ⟨A', c', rfl, _⟩ := owns_form h2
  unfold Oper.wp execOp
  simp only [ho, resolve, invoke, builtin, Sem.run_bind, Sem.run_pure, Result.andThen_ok, List.map_toArray, List.map_cons, List.map_nil, hs, hx, hrun]
  exact h A' c' w' h2 h3
theorem own_base2 {w : World} {base n : Nat} {e : TypeId} {size : Nat} {v : Value} {xs : List Value} (h : w.ownsRow base e size v n xs) (j : Nat) (hj : v.ownBlock = some j) : base ≤ j := by
  obtain ⟨A, c, rfl, _, _, hb⟩ := owns_form h
  cases A with
  | none => cases hj
  | some ad => cases hj; exact (hb ad rfl).1
/-- A slice that is the call's own reads as a list. -/
theorem held_owned {w : World} {b0 base n : Nat} {t : TypeId} {A : Option Addr} {cap : Nat} {L : List Int} (h : w.ownsRow b0 t 1 (.slice A n cap) n (L.map (Value.int .u64))) (hL : L.length = n) (hb : base ≤ b0) : Held w base (.slice A n cap) L := by
  have h' := h
  rcases h.2 with ⟨e, h0⟩ | ⟨g, cap', cur, e, _⟩
  · cases e

    obtain rfl := List.eq_nil_of_length_eq_zero hL
    exact held_nil _ _
  · obtain ⟨A', c', e', hc, hR, hF⟩ := owns_form h'
    cases e'
    subst hL
    refine ⟨_, _, rfl, hc, (fun ea => ?_), hR, hF.from hb⟩
    cases e
    cases ea
end Go.Proofs.Ytopddcabaiicgaa

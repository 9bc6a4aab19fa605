/-
  Merged out of: Mem Blk Keep Quiet HeldU Round.
-/
import Derived.WalkKit
import Derived.Lib.Hide
import Derived.Deep.QuietTactic
import Derived.BigQuiet
import Derived.OpenShut
import Derived.Maps.AppendAt
import Derived.Deep.AppendLies
import Derived.Laws.OwnMore
import Derived.Laws.CopyOwn
import Derived.OwnWalkIn
import Derived.RangeFuncOwn
import Derived.RangeFuncNested
import Derived.RangeFuncBound
import Derived.RangeFuncCalls
import Derived.RangeFuncLeaves
import Derived.RangeFuncBox
import Derived.Deep.RegionHeld3
import Derived.OrdersIn
import Derived.Test.YtgfoeicfigfepaaDoorRows
namespace Go.Proofs.YtgfoeicfigfepaaDoor
section
open Go.RowKit
theorem ret_bool {a b : Bool} (h : a = b) : Ending.returned (.bool a) = .returned (.bool b) := by rw [h]
theorem ret_int {k : IntKind} {a b : Int} (h : a = b) : Ending.returned (.int k a) = .returned (.int k b) := by rw [h]
theorem below_drewN {B : Nat} {a w : World} (h : Below B a w) (n : Nat) : Below B a (w.drewN n) := ⟨h.os, h.tape, h.output, h.size, h.block⟩
theorem Below.two {W W1 W2 : World} (h : Below W.heap.size W W1) (k : Below W1.heap.size W1 W2) : Below W.heap.size W W2 := h.trans (k.mono h.size)
theorem below_old {w w1 : World} {o : Obj} (h : Below (w.alloc o).heap.size (w.alloc o) w1) : Below w.heap.size w w1 := Below.two ((Below.refl _ _).alloc (Nat.le_refl _) o) h
theorem below_al {w w' : World} (h : Below w.heap.size w w') (o : Obj) : Below w.heap.size w (w'.alloc o) := h.alloc h.size o
theorem below_0 (w : World) : Below w.heap.size w w := Below.refl _ _
/-- Cells and marks of old blocks, as rules. -/
theorem bcell {W w1 : World} (hb : Below W.heap.size W w1) : (∀ b o, b < W.heap.size → w1.cell? ⟨b, o, none⟩ = W.cell? ⟨b, o, none⟩) ∧ (∀ b o, b < W.heap.size → w1.frozen? ⟨b, o, none⟩ = W.frozen? ⟨b, o, none⟩) :=
  ⟨fun b o h => hb.cell (p := ⟨b, o, none⟩) h, fun b o h => hb.frozen (p := ⟨b, o, none⟩) h⟩
theorem addr_add (b off j : Nat) : (⟨b, off, none⟩ : Addr).add j = ⟨b, off + j, none⟩ := by
  unfold Addr.add; split
  · subst j; rfl
  · rfl
/-- The cells that a slice at A holds are xs; they lie below block B. -/
def Rd (w : World) (B : Nat) (A : Option Addr) (xs : List Value) : Prop :=
  xs ≠ [] → ∃ b off, A = some ⟨b, off, none⟩ ∧ b < B ∧ ∀ j u, xs[j]? = some u → w.cell? ⟨b, off + j, none⟩ = some u
section
variable {w w' : World} {B B' : Nat} {A : Option Addr} {xs : List Value}
theorem Rd.none_ : Rd w B A [] := fun h => absurd rfl h
theorem Rd.at_ (h : Rd w B A xs) (hl : 0 < xs.length) : ∃ b off, A = some ⟨b, off, none⟩ ∧ b < B ∧ ∀ j u, xs[j]? = some u → w.cell? ⟨b, off + j, none⟩ = some u :=
  h (by rintro rfl; simp at hl)
theorem Rd.keep (h : Rd w B A xs) (hk : ∀ b o, b < B → w'.cell? ⟨b, o, none⟩ = w.cell? ⟨b, o, none⟩) : Rd w' B A xs := fun hl => by
  obtain ⟨b, off, e, hb, hc⟩ := h hl
  exact ⟨b, off, e, hb, fun j u hj => (hk b _ hb).trans (hc j u hj)⟩
theorem Rd.more (h : Rd w B A xs) (hB : B ≤ B') : Rd w B' A xs := fun hl => by
  obtain ⟨b, off, e, hb, hc⟩ := h hl
  exact ⟨b, off, e, by omega, hc⟩
theorem Rd.below (h : Rd w B A xs) (hb : Below B w w') : Rd w' B A xs := h.keep fun b o hlt => hb.cell (p := ⟨b, o, none⟩) hlt
theorem Rd.alloc (h : Rd w B A xs) (hB : B ≤ w.heap.size) (o : Obj) : Rd (w.alloc o) B A xs := h.keep fun b o' hlt => World.cell?_alloc_lt w o _ (by show b < _; omega)
theorem Rd.adds (h : Rd w B A xs) : ∀ ad, A = some ad → ∀ j u, xs[j]? = some u → w.cell? (ad.add j) = some u := fun ad e j u hj => by
  obtain ⟨b, off, rfl, _, hc⟩ := h (by rintro rfl; simp at hj)
  cases e
  rw [addr_add]
  exact hc j u hj
theorem Rd.drewN (h : Rd w B A xs) (k : Nat) : Rd (w.drewN k) B A xs := h
theorem Rd.take (h : Rd w B A xs) (n : Nat) : Rd w B A (xs.take n) := fun hl => by
  obtain ⟨b, off, e, hb, hc⟩ := h (by rintro rfl; simp at hl)
  refine ⟨b, off, e, hb, fun j u hj => hc j u ?_⟩
  rw [List.getElem?_take] at hj
  split at hj
  · exact hj
  · cases hj
/-- A slice cut at k, as the model says it: at the capacity the address stays. -/
theorem Rd.cut (h : Rd w B A xs) (k cap : Nat) (hc : xs.length ≤ cap) : Rd w B (if cap = k then A else A.map (·.add k)) (xs.drop k) := fun hl => by
  have hk : k < xs.length := by
    apply Classical.byContradiction; intro hn
    exact hl (List.drop_eq_nil_of_le (by omega))
  obtain ⟨b, off, rfl, hb, hcell⟩ := h (by rintro rfl; simp at hk)
  rw [if_neg (by omega)]
  refine ⟨b, off + k, by simp [addr_add], hb, fun j u hj => ?_⟩
  rw [Nat.add_assoc]
  exact hcell _ u (by rw [← hj, List.getElem?_drop])
theorem Rd.own {base n : Nat} {e : TypeId} {size c : Nat} (h : w.ownsRow base e size (.slice A n c) n xs) : Rd w w.heap.size A xs := fun hl => by
  rcases h.2 with ⟨_, hn⟩ | ⟨g, cap, cur, hv, _, hh, hnc, _, hsz, ht⟩
  · exact absurd (List.eq_nil_of_length_eq_zero (by rw [h.1, hn]; simp)) hl
  · have hA : A = some ⟨g, 0, none⟩ := by injection hv
    subst hA
    refine ⟨g, 0, rfl, (Array.getElem?_eq_some_iff.1 hh).1, fun j u hj => ?_⟩
    rw [← ht, List.getElem?_take] at hj
    split at hj
    · rw [Nat.zero_add]
      simpa [World.cell?, hh] using hj
    · cases hj
end
section
variable {P : Program} (w : World)
theorem run_append_of_nil (base : Nat) (t ty e : TypeId) (i : TypeInfo) (size : Nat) (ht : P.underlying t = some (.slice e)) (hi : P.info? e = some i)
    (v : Value) (n : Nat) (xs : List Value) (hown : w.ownsRow base e size v n xs) (c : Nat) : (Builtin.append_ #[t, t] ty #[v, .slice none 0 c]).run P w = .ok v w := by
  rcases hown.2 with ⟨rfl, rfl⟩ | ⟨g, cap, cur, rfl, _, _, hnc, _⟩
  · simp [Builtin.append_, run_underlying ht, sizeOf, typeInfo, hi, Builtin.lenOf, Builtin.firstCells]
  · simp [Builtin.append_, run_underlying ht, sizeOf, typeInfo, hi, Builtin.lenOf, Builtin.firstCells, hnc, storeCells]
/-- append onto a row of the call's own, the source whatever slice it is. -/
theorem run_append_rd (base : Nat) (t ty e : TypeId) (i : TypeInfo) (z : Value) (size bytes : Nat) (ht : P.underlying t = some (.slice e)) (hi : P.info? e = some i) (hz : i.zero = some z)
    (hsize : i.size = size) (hby : i.bytes = bytes) (hzs : z.cells.size = size) (hsz : 0 < size)
    (v : Value) (n : Nat) (xs : List Value) (hown : w.ownsRow base e size v n xs)
    (B : Nat) (A : Option Addr) (m c : Nat) (news : List Value) (hm : news.length = m * size) (hr : Rd w B A news) (h1 : ∀ u ∈ news, u.oneCell' = true)
    (h63 : n + m ≤ maxLen) (hbytes : (n + m) * bytes ≤ 140737488355328) (hbase : base ≤ w.heap.size) :
    ∃ v' w', (Builtin.append_ #[t, t] ty #[v, .slice A m c]).run P w = .ok v' w' ∧ w'.ownsRow base e size v' (n + m) (xs ++ news) ∧ w.grownBy w' v.ownBlock ∧
      (v'.ownBlock = v.ownBlock ∨ v'.ownBlock = some w.heap.size) := by
  rcases A with _ | ad
  · have hn : news = [] := by
      cases news with
      | nil => rfl
      | cons x r => obtain ⟨_, _, h, _⟩ := hr (by simp); cases h
    subst hn
    have hm0 : m = 0 := by
      rcases Nat.eq_zero_or_pos m with h0 | h0
      · exact h0
      · have := Nat.mul_pos h0 hsz; simp at hm; omega
    subst hm0
    exact ⟨v, w, run_append_of_nil w base t ty e i size ht hi v n xs hown c, by simpa using hown, World.grownBy.refl w _, .inl rfl⟩
  · have hcells : ∀ j u, news[j]? = some u → w.cell? (ad.add j) = some u := by
      intro j u hu
      obtain ⟨b, off, h, _, hc⟩ := hr (by rintro rfl; simp at hu)
      injection h with h
      subst h
      rw [addr_add]
      exact hc j u hu
    obtain ⟨v', w', hrun, h2, h3, _, h5⟩ := run_append_own_at (P := P) w base t ty e i z size bytes ht hi hz hsize hby hzs hsz v n xs hown ad m c news hm hcells h1 h63 hbytes hbase
    exact ⟨v', w', hrun, h2, h3, h5⟩
theorem wpList_append_rd {ops : Array Oper} {rest : List Oper} {o : Oper} {a : Act} {Q : Exit → Act → World → Prop} (hgd : o.guard = none) (s x : Operand) (t : TypeId)
    (ho : o.op = .call { callee := .builtin .append, args := #[s, x], argTypes := #[t, t] })
    (base : Nat) (e : TypeId) (i : TypeInfo) (z : Value) (size bytes : Nat) (ht : P.underlying t = some (.slice e)) (hi : P.info? e = some i) (hz : i.zero = some z)
    (hsize : i.size = size) (hby : i.bytes = bytes) (hzs : z.cells.size = size) (hsz : 0 < size)
    (v : Value) (n : Nat) (xs : List Value) (hs : a.eval s = v) (hown : w.ownsRow base e size v n xs)
    (B : Nat) (A : Option Addr) (m c : Nat) (news : List Value) (hx : a.eval x = .slice A m c) (hm : news.length = m * size) (hr : Rd w B A news) (h1 : ∀ u ∈ news, u.oneCell' = true)
    (h63 : n + m ≤ maxLen) (hbytes : (n + m) * bytes ≤ 140737488355328) (hbase : base ≤ w.heap.size)
    (h : ∀ v' w', w'.ownsRow base e size v' (n + m) (xs ++ news) → w.grownBy w' v.ownBlock → (v'.ownBlock = v.ownBlock ∨ v'.ownBlock = some w.heap.size) → wpList P ops Q rest (a.put o.dst v') w') : wpList P ops Q (o :: rest) a w :=
  wpList_plain hgd fun _ hK => by
    obtain ⟨v', w', hrun, h2, h3, h4⟩ := run_append_rd (P := P) w base t o.type e i z size bytes ht hi hz hsize hby hzs hsz v n xs hown B A m c news hm hr h1 h63 hbytes hbase
    unfold Oper.wp execOp
    simp only [ho, resolve, invoke, builtin, Sem.run_bind, Sem.run_pure, Result.andThen_ok, List.map_toArray, List.map_cons, List.map_nil, hs, hx, hrun]
    exact hK _ _ (h v' w' h2 h3 h4)
end
/-- The one cell of a block that was just laid. -/
theorem cell_one (w : World) (v : Value) (t : TypeId) (b : Nat) (hb : b = w.heap.size) : ∀ j u, [v][j]? = some u → (w.alloc (.cells #[v] t)).cell? ((⟨b, 0, none⟩ : Addr).add j) = some u := by
  subst hb
  intro j u hj
  cases j with
  | zero => rw [addr_add, World.cell?_alloc_new]; simpa using hj
  | succ j => simp at hj
/-- copy of a whole slice over a whole row of the same length. -/
theorem run_copy_all {P : Program} (w : World) (dT sT ty elem : TypeId) (hu : P.underlying dT = some (.slice elem)) (hsz : (P.info? elem).map (·.size) = some 1) (g m dCap sCap : Nat) (sp : Option Addr)
    (cur : Array Value) (t : TypeId) (hg : w.heap[g]? = some (.cells cur t (0, 0))) (hcur : cur.size = m) (cs : List Value) (hm : cs.length = m) (B : Nat) (hr : Rd w B sp cs) (h1 : ∀ v ∈ cs, v.oneCell' = true) :
    ∃ w', (Builtin.copy_ #[dT, sT] ty #[.slice (some ⟨g, 0, none⟩) m dCap, .slice sp m sCap]).run P w = .ok (goInt m) w' ∧ w'.heap[g]? = some (.cells cs.toArray t (0, 0)) ∧ w.grownBy w' (some g) ∧ w'.heap.size = w.heap.size := by
  by_cases h0 : m = 0
  · subst h0
    obtain rfl : cs = [] := List.eq_nil_of_length_eq_zero hm
    obtain rfl : cur = #[] := Array.eq_empty_of_size_eq_zero hcur
    exact ⟨w, run_copy_none (P := P) w dT sT ty elem _ sp 0 dCap 0 sCap hu hsz (by simp), hg, World.grownBy.refl w _, rfl⟩
  · obtain ⟨b, off, rfl, _, hc⟩ := hr (by rintro rfl; simp at hm; omega)
    have hrun := run_copy_row (P := P) w dT sT ty elem g 0 m dCap ⟨b, off, none⟩ m sCap cur t cs hu hsz hg (by rw [hm]; exact (Nat.min_self _).symm) (fun j v hj => by rw [addr_add]; exact hc j v hj) (by omega) h1
    rw [hm] at hrun
    refine ⟨_, hrun, ?_, ?_, by simp [World.setRow]⟩
    · have hd : cur.toList.drop (0 + m) = [] := List.drop_eq_nil_of_le (by simp; omega)
      rw [setRow_heap w g _ _ t _ hg, hd]; simp
    · exact ⟨rfl, rfl, rfl, by simp [World.setRow], fun k _ hk => setRow_other w g k _ (fun e => hk (by rw [e]))⟩
theorem wpList_copy_all {P : Program} {w : World} {ops : Array Oper} {rest : List Oper} {o : Oper} {a : Act} {Q : Exit → Act → World → Prop} (hgd : o.guard = none) (d s : Operand) (dT sT : TypeId)
    (ho : o.op = .call { callee := .builtin .copy, args := #[d, s], argTypes := #[dT, sT] }) (elem : TypeId) (hu : P.underlying dT = some (.slice elem)) (hsz : (P.info? elem).map (·.size) = some 1)
    (g m dCap sCap : Nat) (sp : Option Addr) (hd : a.eval d = .slice (some ⟨g, 0, none⟩) m dCap) (hs : a.eval s = .slice sp m sCap)
    (cur : Array Value) (t : TypeId) (hg : w.heap[g]? = some (.cells cur t (0, 0))) (hcur : cur.size = m) (cs : List Value) (hm : cs.length = m) (B : Nat) (hr : Rd w B sp cs) (h1 : ∀ v ∈ cs, v.oneCell' = true)
    (h : ∀ w', w'.heap[g]? = some (.cells cs.toArray t (0, 0)) → w.grownBy w' (some g) → w'.heap.size = w.heap.size → wpList P ops Q rest (a.put o.dst (goInt m)) w') : wpList P ops Q (o :: rest) a w := by
  refine wpList_plain hgd fun K hK => ?_
  obtain ⟨w', hrun, r1, r2, r3⟩ := run_copy_all (P := P) w dT sT o.type elem hu hsz g m dCap sCap sp cur t hg hcur cs hm B hr h1
  unfold Oper.wp
  simp [execOp, ho, resolve, invoke, builtin, hd, hs, hrun, Result.andThen]
  exact hK _ _ (h w' r1 r2 r3)
theorem wpListIn_copy_all {F : Fence} {n : Nat} {P : Program} {w : World} {ops : Array Oper} {rest : List Oper} {o : Oper} {a : Act} {Q : Exit → Act → World → Prop} (hgd : o.guard = none) (d s : Operand) (dT sT : TypeId)
    (ho : o.op = .call { callee := .builtin .copy, args := #[d, s], argTypes := #[dT, sT] }) (elem : TypeId) (hu : P.underlying dT = some (.slice elem)) (hsz : (P.info? elem).map (·.size) = some 1)
    (g m dCap sCap : Nat) (sp : Option Addr) (hd : a.eval d = .slice (some ⟨g, 0, none⟩) m dCap) (hs : a.eval s = .slice sp m sCap)
    (cur : Array Value) (t : TypeId) (hg : w.heap[g]? = some (.cells cur t (0, 0))) (hcur : cur.size = m) (cs : List Value) (hm : cs.length = m) (B : Nat) (hr : Rd w B sp cs) (h1 : ∀ v ∈ cs, v.oneCell' = true)
    (h : ∀ w', w'.heap[g]? = some (.cells cs.toArray t (0, 0)) → w.grownBy w' (some g) → w'.heap.size = w.heap.size → wpListIn F n P ops Q rest (a.put o.dst (goInt m)) w') : wpListIn F n P ops Q (o :: rest) a w := by
  refine wpListIn_plain hgd fun K hK => ?_
  obtain ⟨w', hrun, r1, r2, r3⟩ := run_copy_all (P := P) w dT sT o.type elem hu hsz g m dCap sCap sp cur t hg hcur cs hm B hr h1
  unfold Oper.wpIn
  refine ⟨?_, ?_⟩
  · simp [Oper.about, ho, resolve, Target.leads, Sem.run_pure]
  · rw [Oper.semAt_plain F _ _ (by rw [ho]; intro c hc'; cases hc')]
    simp [execOp, ho, resolve, invoke, builtin, hd, hs, hrun, Result.andThen]
    exact hK _ _ (h w' r1 r2 r3)
/-- make([]T, n) where T is one cell. -/
theorem run_make_n {P : Program} (t e : TypeId) (i : TypeInfo) (z : Value) (ht : P.underlying t = some (.slice e)) (hi : P.info? e = some i) (hz : i.zero = some z) (hsz : i.size = 1)
    (kl kc : IntKind) (n c : Nat) (hnc : n ≤ c) (hbytes : i.bytes * c ≤ 281474976710656) (h63 : c ≤ 9223372036854775807) (w : World) :
    (Instr.makeSlice t (.int kl (n : Int)) (.int kc (c : Int))).run P w = .ok (.slice (some ⟨w.heap.size, 0, none⟩) n c) (w.alloc (.cells (madeCells z.cells c) e)) := by
  have hb : (i.bytes : Int) * (c : Int) ≤ 281474976710656 := by
    have h : ((i.bytes * c : Nat) : Int) ≤ 281474976710656 := by omega
    rwa [Int.natCast_mul] at h
  have hr := run_make (P := P) w t e i z ht hi hz kl kc n c (by omega) (by omega) hb (by omega)
  simp only [Int.toNat_natCast, hsz, Nat.mul_one] at hr
  exact hr
/-- What a slice shares lies from block base on, in a row of cells that may be written. -/
def Fresh (w : World) (base : Nat) (A : Option Addr) : Prop := ∀ ad, A = some ad → base ≤ ad.block ∧ ∃ cs t, w.heap[ad.block]? = some (.cells cs t (0, 0))
theorem heap_lt {w : World} {b : Nat} {o : Obj} (h : w.heap[b]? = some o) : b < w.heap.size := (Array.getElem?_eq_some_iff.1 h).1
theorem Fresh.later {w w' : World} {base : Nat} {A : Option Addr} (h : Fresh w base A) (hb : Below w.heap.size w w') : Fresh w' base A := fun ad e => by
  obtain ⟨h1, cs, t, h2⟩ := h ad e
  exact ⟨h1, cs, t, (hb.block _ (heap_lt h2)).trans h2⟩
theorem Fresh.from {w : World} {base base' : Nat} {A : Option Addr} (h : Fresh w base A) (hb : base' ≤ base) : Fresh w base' A := fun ad e => ⟨Nat.le_trans hb (h ad e).1, (h ad e).2⟩
theorem Fresh.set {w : World} {base : Nat} {A : Option Addr} (h : Fresh w base A) (p : Addr) (v : Value) : Fresh (w.setCell p v) base A := fun ad e => by
  obtain ⟨h1, cs, t, h2⟩ := h ad e
  refine ⟨h1, ?_⟩
  by_cases hp : ad.block = p.block
  · rw [hp] at h2 ⊢
    simp only [World.setCell, Array.getElem?_modify, if_true, h2, Option.map_some]
    exact ⟨_, _, rfl⟩
  · exact ⟨cs, t, (Below.heap_setCell w p v ad.block hp).trans h2⟩
theorem Fresh.kept {w w' : World} {base : Nat} {A : Option Addr} {row : Option Nat} (h : Fresh w base A) (hg : w.grownBy w' row) (hr : ∀ r, row = some r → ∃ o : Obj, w.heap[r]? = some o ∧ o.isCells = false) : Fresh w' base A := fun ad e => by
  obtain ⟨h1, cs, t, h2⟩ := h ad e
  refine ⟨h1, cs, t, (hg.block _ (heap_lt h2) (fun e' => ?_)).trans h2⟩
  obtain ⟨o, ho, hc⟩ := hr _ e'.symm
  rw [h2] at ho; cases ho; cases hc
theorem Fresh.frozen {w : World} {base : Nat} {ad : Addr} (h : Fresh w base (some ad)) (o : Nat) : w.frozen? ⟨ad.block, o, none⟩ = false := by
  obtain ⟨_, cs, t, h2⟩ := h ad rfl
  simp [World.frozen?, h2]
/-- An owned row is a slice's value. -/
theorem owns_form {w : World} {base n : Nat} {e : TypeId} {size : Nat} {v : Value} {xs : List Value} (h : w.ownsRow base e size v n xs) :
    ∃ A c, v = .slice A n c ∧ n ≤ c ∧ Rd w w.heap.size A xs ∧ Fresh w base A := by
  have h' := h
  rcases h.2 with ⟨rfl, rfl⟩ | ⟨g, cap, cur, rfl, hb, hh, hnc, _⟩
  · exact ⟨none, 0, rfl, Nat.le_refl _, Rd.own h', fun _ e => by cases e⟩
  · exact ⟨_, cap, rfl, hnc, Rd.own h', fun _ ea => by cases ea; exact ⟨hb, cur, e, hh⟩⟩
/-! ### Numbers of 64 bits -/
def U (x : Int) : Prop := 0 ≤ x ∧ x ≤ 18446744073709551615
def Us (l : List Int) : Prop := ∀ x ∈ l, U x
/-- The number at a place (0 where there is none). -/
def nth (l : List Int) (k : Nat) : Int := (l[k]?).getD 0
/-- A slice of numbers of 64 bits reads as l. -/
def Sl (w : World) (B : Nat) (A : Option Addr) (l : List Int) : Prop := Rd w B A (l.map (Value.int .u64))
section
variable {w w' : World} {B B' : Nat} {A : Option Addr} {l : List Int}
theorem Sl.nil : Sl w B A [] := Rd.none_
theorem nth_get {l : List Int} {j : Nat} (h : j < l.length) : l[j]? = some (nth l j) := by simp [nth, h]
theorem Sl.at_ (h : Sl w B A l) (hl : 0 < l.length) : ∃ b off, A = some ⟨b, off, none⟩ ∧ b < B ∧ ∀ j, j < l.length → w.cell? ⟨b, off + j, none⟩ = some (.int .u64 (nth l j)) := by
  obtain ⟨b, off, e, hb, hc⟩ := Rd.at_ h (by simpa using hl)
  exact ⟨b, off, e, hb, fun j hj => hc j _ (by rw [List.getElem?_map, nth_get hj]; rfl)⟩
theorem Sl.more (h : Sl w B A l) (hB : B ≤ B') : Sl w B' A l := Rd.more h hB
theorem Sl.keep (h : Sl w B A l) (hk : ∀ b o, b < B → w'.cell? ⟨b, o, none⟩ = w.cell? ⟨b, o, none⟩) : Sl w' B A l := Rd.keep h hk
theorem Sl.below (h : Sl w B A l) (hb : Below B w w') : Sl w' B A l := Rd.below h hb
theorem Sl.later {w w' : World} {A : Option Addr} {l : List Int} (h : Sl w w.heap.size A l) (hb : Below w.heap.size w w') : Sl w' w'.heap.size A l := (Sl.below h hb).more hb.size
theorem Sl.alloc (h : Sl w B A l) (hB : B ≤ w.heap.size) (o : Obj) : Sl (w.alloc o) B A l := Rd.alloc h hB o
theorem Sl.al {w w' : World} {A : Option Addr} {l : List Int} (h : Sl w w.heap.size A l) (hb : Below w.heap.size w w') : Sl w' w.heap.size A l := Sl.below h hb
theorem sl_one (w : World) (x : Int) (t : TypeId) (b : Nat) (hb : b = w.heap.size) : Sl (w.alloc (.cells #[.int .u64 x] t)) (w.alloc (.cells #[.int .u64 x] t)).heap.size (some ⟨b, 0, none⟩) [x] := fun _ => by
  subst hb
  exact ⟨w.heap.size, 0, rfl, by simp, fun j u hj => by have := cell_one w (.int .u64 x) t _ rfl j u hj; rwa [addr_add] at this⟩
theorem Sl.take (h : Sl w B A l) (n : Nat) : Sl w B A (l.take n) := by
  have := Rd.take h n
  rwa [← List.map_take] at this
theorem Sl.cut (h : Sl w B A l) (k cap : Nat) (hc : l.length ≤ cap) : Sl w B (if cap = k then A else A.map (·.add k)) (l.drop k) := by
  have := Rd.cut h k cap (by simpa using hc)
  rwa [← List.map_drop] at this
end
theorem nth_U {l : List Int} (h : Us l) (j : Nat) : 0 ≤ nth l j ∧ nth l j ≤ 18446744073709551615 := by
  unfold nth
  cases e : l[j]? with
  | none => simp
  | some x => exact h x (List.mem_of_getElem? e)
theorem one_u64 {l : List Int} : ∀ u ∈ l.map (Value.int .u64), u.oneCell' = true := by
  intro u hu
  obtain ⟨x, _, rfl⟩ := List.mem_map.1 hu
  rfl
theorem Us.take {l : List Int} (h : Us l) (n : Nat) : Us (l.take n) := fun x hx => h x (List.mem_of_mem_take hx)
theorem Us.drop {l : List Int} (h : Us l) (n : Nat) : Us (l.drop n) := fun x hx => h x (List.mem_of_mem_drop hx)
/-- The value v is a slice that reads as l; what it shares lies from block base on. -/
def Held (w : World) (base : Nat) (v : Value) (l : List Int) : Prop :=
  ∃ A c, v = .slice A l.length c ∧ l.length ≤ c ∧ (A = none → c = 0) ∧ Sl w w.heap.size A l ∧ Fresh w base A
theorem Held.later {w w' : World} {base : Nat} {v : Value} {l : List Int} (h : Held w base v l) (hb : Below w.heap.size w w') : Held w' base v l := by
  obtain ⟨A, c, e, hc, hA, hS, hF⟩ := h
  exact ⟨A, c, e, hc, hA, hS.later hb, hF.later hb⟩
theorem Held.from {w : World} {base base' : Nat} {v : Value} {l : List Int} (h : Held w base v l) (hb : base' ≤ base) : Held w base' v l := by
  obtain ⟨A, c, e, hc, hA, hS, hF⟩ := h
  exact ⟨A, c, e, hc, hA, hS, hF.from hb⟩
theorem held_nil (w : World) (base : Nat) : Held w base (.slice none 0 0) [] := ⟨none, 0, rfl, Nat.le_refl _, fun _ => rfl, Sl.nil, fun _ e => by cases e⟩
/-- A slice's reading goes over to a world in which old cells stand. -/
theorem Sl.to {w w' : World} {A : Option Addr} {l : List Int} (h : Sl w w.heap.size A l) (hs : w.heap.size ≤ w'.heap.size) (hk : ∀ b o v, w.cell? ⟨b, o, none⟩ = some v → w'.cell? ⟨b, o, none⟩ = some v) : Sl w' w'.heap.size A l := fun hl => by
  obtain ⟨b, off, e, hb, hc⟩ := h hl
  exact ⟨b, off, e, by omega, fun j u hj => hk b _ u (hc j u hj)⟩
end
section
open Go.RowKit
def Blk (w : World) (g : Nat) (t : TypeId) (cs : Array Value) : Prop := w.heap[g]? = some (.cells cs t (0, 0))
section
variable {w w' : World} {g : Nat} {t : TypeId} {cs : Array Value}
theorem Blk.lt (h : Blk w g t cs) : g < w.heap.size := heap_lt h
theorem Blk.cell (h : Blk w g t cs) (i : Nat) : w.cell? ⟨g, i, none⟩ = cs[i]? := by
  unfold Blk at h; simp [World.cell?, h]
theorem Blk.at_ (h : Blk w g t cs) (i : Nat) {v : Value} (hv : cs[i]? = some v) : w.cell? ⟨g, i, none⟩ = some v := (h.cell i).trans hv
theorem Blk.c0 {a b c : Value} (h : Blk w g t #[a, b, c]) : w.cell? ⟨g, 0, none⟩ = some a := h.cell 0
theorem Blk.c1 {a b c : Value} (h : Blk w g t #[a, b, c]) : w.cell? ⟨g, 1, none⟩ = some b := h.cell 1
theorem Blk.c2 {a b c : Value} (h : Blk w g t #[a, b, c]) : w.cell? ⟨g, 2, none⟩ = some c := h.cell 2
theorem Blk.one {a : Value} (h : Blk w g t #[a]) : w.cell? ⟨g, 0, none⟩ = some a := h.cell 0
theorem Blk.set3 {a b c x y z : Value} (h : Blk w g t #[a, b, c]) : Blk (((w.setCell ⟨g, 0, none⟩ x).setCell ⟨g, 1, none⟩ y).setCell ⟨g, 2, none⟩ z) g t #[x, y, z] := by
  unfold Blk at h ⊢; simp [World.setCell, Array.getElem?_modify, h]
theorem Blk.frozen (h : Blk w g t cs) (i : Nat) : w.frozen? ⟨g, i, none⟩ = false := by
  unfold Blk at h; simp [World.frozen?, h]
theorem Blk.new (w : World) (t : TypeId) (cs : Array Value) : Blk (w.alloc (.cells cs t)) w.heap.size t cs := World.alloc_heap_new w _
theorem Blk.drew (h : Blk w g t cs) : Blk w.drew g t cs := h
theorem Blk.alloc (h : Blk w g t cs) (o : Obj) : Blk (w.alloc o) g t cs := (Below.heap_alloc w o g h.lt).trans h
theorem Blk.set_ (h : Blk w g t cs) (i : Nat) (u : Value) : Blk (w.setCell ⟨g, i, none⟩ u) g t (cs.setIfInBounds i u) := by
  unfold Blk at h ⊢; simp [World.setCell, Array.getElem?_modify, h]
theorem Blk.far (h : Blk w g t cs) {p : Addr} (hp : g ≠ p.block) (u : Value) : Blk (w.setCell p u) g t cs := (Below.heap_setCell w p u g hp).trans h
theorem Blk.below {B : Nat} (h : Blk w g t cs) (hb : Below B w w') (hg : g < B) : Blk w' g t cs := (hb.block g hg).trans h
theorem Blk.later (h : Blk w g t cs) (hb : Below w.heap.size w w') : Blk w' g t cs := (hb.block g h.lt).trans h
theorem Blk.grown {row : Option Nat} (h : Blk w g t cs) (hb : w.grownBy w' row) (hg : some g ≠ row) : Blk w' g t cs := (hb.block g h.lt hg).trans h
theorem Blk.kept {row : Option Nat} (h : Blk w g t cs) (hg : w.grownBy w' row) (hr : ∀ r, row = some r → ∃ o : Obj, w.heap[r]? = some o ∧ o.isCells = false) : Blk w' g t cs :=
  h.grown hg (fun e => by obtain ⟨o, ho, hc⟩ := hr _ e.symm; rw [show w.heap[g]? = _ from h] at ho; cases ho; cases hc)
/-- A row of numbers of 64 bits, whole, reads as a list. -/
theorem Blk.sl {l : List Int} (h : Blk w g t (l.map (Value.int .u64)).toArray) : Sl w w.heap.size (some ⟨g, 0, none⟩) l := fun _ =>
  ⟨g, 0, rfl, h.lt, fun j u hj => by rw [Nat.zero_add, h.cell]; simpa using hj⟩
/-- A slice of numbers does not lie in a block that holds none. -/
theorem sl_not_blk {B b off : Nat} {A : Option Addr} {l : List Int} (h : Sl w B A l) (hx : Blk w g t cs) (hu : ∀ v ∈ cs, ∀ n, v ≠ Value.int .u64 n) (hl : l ≠ []) (hA : A = some ⟨b, off, none⟩) : b ≠ g := by
  rintro rfl
  obtain ⟨b', off', e, hb, hc⟩ := h (by simpa using hl)
  rw [hA] at e
  cases e
  have h0 : 0 < (l.map (Value.int .u64)).length := by
    cases l with
    | nil => exact absurd rfl hl
    | cons x r => simp
  have h1 := hc 0 _ (List.getElem?_eq_getElem h0)
  obtain ⟨n, _, e⟩ := List.mem_map.1 (List.getElem_mem h0)
  rw [← e, hx.cell] at h1
  exact hu _ (Array.mem_of_getElem? h1) n rfl
/-- A slice of numbers stands where one block has turned that holds none. -/
theorem sl_turned {A : Option Addr} {l : List Int} (h : Sl w w.heap.size A l) (hx : Blk w g t cs) (hu : ∀ v ∈ cs, ∀ n, v ≠ Value.int .u64 n) (hg : w.grownBy w' (some g)) : Sl w' w'.heap.size A l := fun hl => by
  have hl' : l ≠ [] := by rintro rfl; exact hl rfl
  obtain ⟨b, off, e, hb, hc⟩ := h hl
  have hne := sl_not_blk h hx hu hl' e
  exact ⟨b, off, e, Nat.lt_of_lt_of_le hb hg.size, fun j v hj => (World.cell?_of_block (hg.block b hb (fun e => hne (by injection e)))).trans (hc j v hj)⟩
/-- A slice of numbers stands where one other block has turned. -/
theorem sl_other {A : Option Addr} {l : List Int} (h : Sl w w.heap.size A l) (hg : w.grownBy w' (some g)) (hne : ∀ ad, A = some ad → ad.block ≠ g) : Sl w' w'.heap.size A l := fun hl => by
  obtain ⟨b, off, e, hb, hc⟩ := h hl
  exact ⟨b, off, e, Nat.lt_of_lt_of_le hb hg.size, fun j v hj => (World.cell?_of_block (hg.block b hb (fun e' => hne _ e (by injection e')))).trans (hc j v hj)⟩
end
theorem Blk.held {w : World} {g base : Nat} {t : TypeId} {l : List Int} (h : Blk w g t (l.map (Value.int .u64)).toArray) (hb : base ≤ g) : Held w base (.slice (some ⟨g, 0, none⟩) l.length l.length) l :=
  ⟨_, _, rfl, Nat.le_refl _, (fun e => by cases e), h.sl, (fun ad e => by cases e; exact ⟨hb, _, _, h⟩)⟩
/-- A slice's reading stands where one block has turned that holds no numbers of 64 bits. -/
theorem held_turned {w w' : World} {base b : Nat} {t : TypeId} {cs cs' : Array Value} {v : Value} {l : List Int} (h : Held w base v l) (hx : Blk w b t cs) (hu : ∀ v ∈ cs, ∀ n, v ≠ Value.int .u64 n) (hg : w.grownBy w' (some b)) (hx' : Blk w' b t cs') : Held w' base v l := by
  obtain ⟨A, c, e, hc, hA, hS, hF⟩ := h
  refine ⟨A, c, e, hc, hA, sl_turned hS hx hu hg, fun ad ea => ?_⟩
  obtain ⟨h1, ds, t2, h2⟩ := hF ad ea
  refine ⟨h1, ?_⟩
  by_cases hb : ad.block = b
  · rw [hb]; exact ⟨_, _, hx'⟩
  · exact ⟨ds, t2, (hg.block _ (heap_lt h2) (fun e => hb (by injection e))).trans h2⟩
theorem grow_set3 (w : World) (g : Nat) (x y z : Value) : w.grownBy (((w.setCell ⟨g, 0, none⟩ x).setCell ⟨g, 1, none⟩ y).setCell ⟨g, 2, none⟩ z) (some g) := by
  have h1 : ∀ (w : World) (o : Nat) (u : Value), w.grownBy (w.setCell ⟨g, o, none⟩ u) (some g) := fun w o u => ⟨rfl, rfl, rfl, by simp [World.setCell], fun i hi hne => Below.heap_setCell w ⟨g, o, none⟩ u i (fun e => hne (by rw [e]))⟩
  have h2 : ∀ {a b c : World}, a.grownBy b (some g) → b.grownBy c (some g) → a.grownBy c (some g) := fun h k => ⟨k.os.trans h.os, k.tape.trans h.tape, k.output.trans h.output, Nat.le_trans h.size k.size, fun i hi hn => (k.block i (Nat.lt_of_lt_of_le hi h.size) hn).trans (h.block i hi hn)⟩
  exact h2 (h2 (h1 w 0 x) (h1 _ 1 y)) (h1 _ 2 z)
theorem grow_refl (w : World) (row : Option Nat) : w.grownBy w row := World.grownBy.refl w row
theorem grow_set1 (w : World) (g o : Nat) (u : Value) : w.grownBy (w.setCell ⟨g, o, none⟩ u) (some g) :=
  ⟨rfl, rfl, rfl, by simp [World.setCell], fun i hi hne => Below.heap_setCell w ⟨g, o, none⟩ u i (fun e => hne (by rw [e]))⟩
theorem grow_trans {a b c : World} {row : Option Nat} (h : a.grownBy b row) (k : b.grownBy c row) : a.grownBy c row :=
  ⟨k.os.trans h.os, k.tape.trans h.tape, k.output.trans h.output, Nat.le_trans h.size k.size, fun i hi hn => (k.block i (Nat.lt_of_lt_of_le hi h.size) hn).trans (h.block i hi hn)⟩
theorem grow_of_below {a w : World} (h : Below a.heap.size a w) (row : Option Nat) : a.grownBy w row := ⟨h.os, h.tape, h.output, h.size, fun i hi _ => h.block i hi⟩
theorem below_of_grow {a w : World} {row : Option Nat} {B : Nat} (h : a.grownBy w row) (hB : B ≤ a.heap.size) (hr : ∀ g, row = some g → B ≤ g) : Below B a w :=
  ⟨h.os, h.tape, h.output, h.size, fun i hi => h.block i (by omega) (fun e => by have := hr i e.symm; omega)⟩
/-- A block that was new when the call began turned, and nothing else that was there. -/
theorem below_turned {a w w' : World} {g : Nat} (h : Below a.heap.size a w) (hg : w.grownBy w' (some g)) (hn : a.heap.size ≤ g) : Below a.heap.size a w' := h.grown hg h.size (fun k e => by cases e; exact hn)
end
section
open Go.RowKit
set_option linter.unusedVariables false
/-- A place below N. -/
abbrev At (N : Nat) := { p : Nat // p < N }
theorem exists_at {N : Nat} : ∀ (ps : List Nat), (∀ p ∈ ps, p < N) → ∃ zs : List (At N), zs.map (·.1) = ps
  | [], _ => ⟨[], rfl⟩
  | p :: ps, h => by
    obtain ⟨zs, hz⟩ := exists_at ps (fun q hq => h q (List.mem_cons_of_mem _ hq))
    exact ⟨⟨p, h p (List.mem_cons_self ..)⟩ :: zs, by simp [hz]⟩
/-- What lay below n₀, but for block g, lies as it lay. -/
def KeepBut (n₀ g : Nat) (A B : World) : Prop := A.heap.size ≤ B.heap.size ∧ ∀ i, i < n₀ → i ≠ g → B.heap[i]? = A.heap[i]?
theorem keepBut_refl (n₀ g : Nat) (A : World) : KeepBut n₀ g A A := ⟨Nat.le_refl _, fun _ _ _ => rfl⟩
theorem keepBut_t {n₀ g : Nat} {A B C : World} (h : KeepBut n₀ g A B) (k : KeepBut n₀ g B C) : KeepBut n₀ g A C := ⟨Nat.le_trans h.1 k.1, fun i h1 h2 => (k.2 i h1 h2).trans (h.2 i h1 h2)⟩
theorem keepBut_b {n₀ g : Nat} {w : World} (hn : n₀ ≤ w.heap.size) (W : World) (l : Nat) (o o' : Obj) (hl : w.heap.size ≤ l) (h : W.heap[l]? = some o) (_ : o.isCells = false) (_ : o.isWalk = false) : KeepBut n₀ g W (W.putObj l o') := by
  have h1 := belowK_b hn W l o o' hl h ‹_› ‹_›
  exact ⟨h1.size, fun i hi _ => h1.block i hi⟩
theorem keepBut_below {n₀ g : Nat} {A B : World} (hn : n₀ ≤ A.heap.size) (h : Below A.heap.size A B) : KeepBut n₀ g A B := ⟨h.size, fun i hi _ => h.block i (by omega)⟩
theorem keepBut_grow {n₀ g : Nat} {A B : World} (hn : n₀ ≤ A.heap.size) (h : A.grownBy B (some g)) : KeepBut n₀ g A B := ⟨h.size, fun i hi hne => h.block i (by omega) (fun e => hne (by injection e))⟩
theorem Blk.but {n₀ g b : Nat} {t : TypeId} {cs : Array Value} {A B : World} (h : Blk A b t cs) (hk : KeepBut n₀ g A B) (hb : b < n₀) (hg : b ≠ g) : Blk B b t cs := (hk.2 b hb hg).trans h
theorem abides_below {β : Type} {n : Nat} {J : β → World → Prop} (h : AbidesFrom n J) {s : β} {W W' : World} (hs : J s W) (hb : Below W.heap.size W W') : J s W' :=
  h s W W' none hs ⟨hb.os, hb.tape, hb.output, hb.size, fun i hi _ => hb.block i hi⟩ (fun r e => by cases e)
theorem yield_case {A B : World → Prop} : ∀ (e : Ending) (W' : World), (e = .returned (.bool true) ∧ A W' ∨ e = .returned (.bool false) ∧ B W') → ∃ b, e = .returned (.bool b) ∧ (bif b then A W' else B W')
  | _, _, .inl ⟨rfl, h⟩ => ⟨true, rfl, h⟩
  | _, _, .inr ⟨rfl, h⟩ => ⟨false, rfl, h⟩
theorem keeps_of_below {W W' : World} (h : Below W.heap.size W W') : KeepsOthers W W' :=
  ⟨h.size, fun k o hk _ => (h.block k (heap_lt hk)).trans hk⟩
theorem sl_but {X W : World} {g : Nat} {A : Option Addr} {m : List Int} (h : Sl X X.heap.size A m) (hk : KeepBut X.heap.size g X W) (hne : ∀ ad, A = some ad → ad.block ≠ g) : Sl W W.heap.size A m := fun hl => by
  obtain ⟨b, off, e, hb, hc⟩ := h hl
  exact ⟨b, off, e, Nat.lt_of_lt_of_le hb hk.1, fun j u hj => (World.cell?_of_block (hk.2 b hb (hne _ e))).trans (hc j u hj)⟩
end
section
open Go.RowKit
/-- The worlds in which all that W holds stands as it was. -/
structure After (W : World) : Type where
  at_ : World
  is : Below W.heap.size W at_
theorem After.cell {W : World} {b o : Nat} {v : Value} (h : W.cell? ⟨b, o, none⟩ = some v) (hb : b < W.heap.size) : ∀ x : After W, x.at_.cell? ⟨b, o, none⟩ = some v := fun x => (x.is.cell (p := ⟨b, o, none⟩) hb).trans h
theorem After.some (W : World) : Nonempty (After W) := ⟨⟨W, Below.refl _ _⟩⟩
theorem wp_region_below {P : Program} {id : Nat} {Q : Exit → Act → World → Prop} {a : Act} {w : World} {l : List Oper} (hm : P.follows .mixedOrders = true) (hB : Region.lexB .any l.toArray = true)
    (h : wpQuiet P l.toArray (fun w' => ∃ x : After w, w' = x.at_) (fun a' => ∀ w', (∃ x : After w, w' = x.at_) → Q .normal a' w') l a) : (Code.region id l.toArray true).wp P Q a w :=
  wp_region_quiet (C := fun w' => ∃ x : After w, w' = x.at_) hm hB ⟨⟨_, (Below.refl w.heap.size w).drew⟩, rfl⟩ (by simpa using h)
/-- A callee's contract, met in such a world. -/
theorem after_calls {P : Program} {f : FuncId} {args : Array Value} {W : World} {x : After W} {v : Value} (h : Calls P f args x.at_ fun e w' => e = .returned v ∧ Below x.at_.heap.size x.at_ w') :
    Calls P f args x.at_ fun e w'' => e = .returned v ∧ ∃ y : After W, w'' = y.at_ := h.mono fun _ w'' ⟨he, hb⟩ => ⟨he, ⟨w'', Below.two x.is hb⟩, rfl⟩
end
section
open Go.RowKit
set_option linter.unusedVariables false
section
variable {P : Program} {ops : Array Oper} {Q : Exit → Act → World → Prop} {md : Region.Mode} {S : World → Prop} {s : Nat}
/-- Whatever order is picked from here on, and S holds behind every operation that comes up ahead of number s. -/
def wpAnyU (P : Program) (md : Region.Mode) (ops : Array Oper) (Q : Exit → Act → World → Prop) (S : World → Prop) (s : Nat) : Nat → Array Bool → Act → World → Prop
  | 0, listed, a, w => Region.ready md ops listed = [] ∧ Q .normal a w
  | fuel + 1, listed, a, w =>
    (Region.ready md ops listed = [] → Q .normal a w) ∧
    ∀ i ∈ Region.ready md ops listed, wpOp P ops Q i (fun a' w' => ((listed.setIfInBounds i true).getD s true = false → S w') ∧ wpAnyU P md ops Q S s fuel (listed.setIfInBounds i true) a' w') a w
theorem wpAny_of_U : ∀ (fuel : Nat) (listed : Array Bool) (a : Act) (w : World), wpAnyU P md ops Q S s fuel listed a w → wpAny P md ops Q fuel listed a w
  | 0, _, _, _, h => h
  | fuel + 1, _, _, _, h => ⟨h.1, fun i hi => wpOp_mono (fun a' w' h' => wpAny_of_U fuel _ a' w' h'.2) (h.2 i hi)⟩
/-- Does number s wait for number i? -/
def waits (md : Region.Mode) (ops : Array Oper) (s i : Nat) : Bool := match ops[s]? with
  | some o => o.after.any fun e => Region.binds md e && e.on == i
  | none => false
theorem waits_spec {i j : Nat} {oj : Oper} (h : waits md ops s i = true) (hj : ops[j]? = some oj) (hno : ∀ e ∈ oj.after, Region.binds md e = true → e.on ≠ i) : j ≠ s := by
  rintro rfl
  unfold waits at h
  rw [hj] at h
  simp only [Array.any_eq_true'] at h
  obtain ⟨e, he, hb⟩ := h
  simp only [Bool.and_eq_true, beq_iff_eq] at hb
  exact hno e he hb.1 hb.2
theorem wpAnyU_first {i : Nat} {oi : Oper} {v : Value} (hi : ops[i]? = some oi) (hsel : ∀ (j : Nat) (o : Oper) cs b, ops[j]? = some o → o.op ≠ .select cs b)
    (hQ : ∀ c a w, Q (.panic c) (a.put oi.dst v) w → Q (.panic c) a w) (hwt : waits md ops s i = true) (his : i ≠ s) :
    ∀ (fuel : Nat) (listed : Array Bool) (a : Act) (w : World),
      (∀ j oj, ops[j]? = some oj → j ≠ i → listed.getD j true = false → (∀ e ∈ oj.after, Region.binds md e = true → e.on ≠ i) → oi.apart ops oj = true) →
      i ∈ Region.ready md ops listed → YieldsIf P ops S oi v a → listed.getD s true = false → S w →
      wpAnyU P md ops Q S s fuel (listed.setIfInBounds i true) (a.put oi.dst v) w → wpAnyU P md ops Q S s (fuel + 1) listed a w := by
  intro fuel
  induction fuel with
  | zero =>
    intro listed a w _ hr hy hu hS H
    refine ⟨fun h => (by rw [h] at hr; cases hr), fun j hj => ?_⟩
    by_cases hji : j = i
    · subst hji; exact hy.wpOp hi hS ⟨fun _ => hS, H⟩
    · have := ready_mono hj hji
      rw [H.1] at this
      cases this
  | succ fuel ih =>
    intro listed a w hfree hr hy hu hS H
    refine ⟨fun h => (by rw [h] at hr; cases hr), fun j hj => ?_⟩
    by_cases hji : j = i
    · subst hji; exact hy.wpOp hi hS ⟨fun _ => hS, H⟩
    · have h1 := H.2 j (ready_mono hj hji)
      obtain ⟨hjun, oj, hoj, hall⟩ := mem_ready.1 hj
      have hnot : ∀ e ∈ oj.after, Region.binds md e = true → e.on ≠ i := fun e he hb heq => by
        have h1 := hall e he hb
        have h0 := (mem_ready.1 hr).1
        rw [heq] at h1
        rcases Nat.lt_or_ge i listed.size with h' | h'
        · simp [h'] at h0 h1; rw [h0] at h1; cases h1
        · simp [Array.getElem?_eq_none h'] at h1
      have hjs : j ≠ s := waits_spec hwt hoj hnot
      have h2 := wpOp_putIf hoj (hfree j oj hoj hji hjun hnot) (fun cs b => hsel i oi cs b hi) (fun cs b => hsel j oj cs b hoj) hQ hy h1
      have hfree' : ∀ k ok, ops[k]? = some ok → k ≠ i → (listed.setIfInBounds j true).getD k true = false →
          (∀ e ∈ ok.after, Region.binds md e = true → e.on ≠ i) → oi.apart ops ok = true := fun k ok hk hki hun hno => by
        refine hfree k ok hk hki ?_ hno
        by_cases hjk : j = k
        · subst hjk; exact hjun
        · rw [getD_set_ne true hjk] at hun; exact hun
      have hu1 : (listed.setIfInBounds j true).getD s true = false := by rw [getD_set_ne true hjs]; exact hu
      have hu2 : ((listed.setIfInBounds i true).setIfInBounds j true).getD s true = false := by rw [getD_set_ne true hjs, getD_set_ne true his]; exact hu
      refine wpOp_mono (fun a' w' h3 => ⟨fun _ => h3.2.1 hu2, ih (listed.setIfInBounds j true) a' w' hfree' (ready_mono hr (Ne.symm hji)) h3.1 hu1 (h3.2.1 hu2) ?_⟩) h2
      rw [Array.setIfInBounds_comm _ _ hji]
      exact h3.2.2
theorem getD_set_self (l : Array Bool) (j : Nat) : (l.setIfInBounds j true).getD j true = true := by
  rw [Array.getD_eq_getD_getElem?]
  rcases Nat.lt_or_ge j l.size with h | h
  · simp [h]
  · simp [h]
theorem wpAnyU_first0 {i : Nat} {oi : Oper} {v : Value} (hi : ops[i]? = some oi) (hsel : ∀ (j : Nat) (o : Oper) cs b, ops[j]? = some o → o.op ≠ .select cs b)
    (hQ : ∀ c a w, Q (.panic c) (a.put oi.dst v) w → Q (.panic c) a w) (his : i ≠ s) :
    ∀ (fuel : Nat) (listed : Array Bool) (a : Act) (w : World),
      (∀ j oj, ops[j]? = some oj → j ≠ i → listed.getD j true = false → (∀ e ∈ oj.after, Region.binds md e = true → e.on ≠ i) → oi.apart ops oj = true) →
      i ∈ Region.ready md ops listed → YieldsIf P ops (fun _ => True) oi v a → (listed.getD s true = false → S w) →
      wpAnyU P md ops Q S s fuel (listed.setIfInBounds i true) (a.put oi.dst v) w → wpAnyU P md ops Q S s (fuel + 1) listed a w := by
  intro fuel
  induction fuel with
  | zero =>
    intro listed a w _ hr hy hS H
    refine ⟨fun h => (by rw [h] at hr; cases hr), fun j hj => ?_⟩
    by_cases hji : j = i
    · subst hji; exact hy.wpOp hi trivial ⟨fun hu => hS (by rwa [getD_set_ne true his] at hu), H⟩
    · have := ready_mono hj hji
      rw [H.1] at this
      cases this
  | succ fuel ih =>
    intro listed a w hfree hr hy hS H
    refine ⟨fun h => (by rw [h] at hr; cases hr), fun j hj => ?_⟩
    by_cases hji : j = i
    · subst hji; exact hy.wpOp hi trivial ⟨fun hu => hS (by rwa [getD_set_ne true his] at hu), H⟩
    · have h1 := H.2 j (ready_mono hj hji)
      obtain ⟨hjun, oj, hoj, hall⟩ := mem_ready.1 hj
      have hnot : ∀ e ∈ oj.after, Region.binds md e = true → e.on ≠ i := fun e he hb heq => by
        have h1 := hall e he hb
        have h0 := (mem_ready.1 hr).1
        rw [heq] at h1
        rcases Nat.lt_or_ge i listed.size with h' | h'
        · simp [h'] at h0 h1; rw [h0] at h1; cases h1
        · simp [Array.getElem?_eq_none h'] at h1
      have h2 := wpOp_putIf hoj (hfree j oj hoj hji hjun hnot) (fun cs b => hsel i oi cs b hi) (fun cs b => hsel j oj cs b hoj) hQ hy h1
      have hfree' : ∀ k ok, ops[k]? = some ok → k ≠ i → (listed.setIfInBounds j true).getD k true = false →
          (∀ e ∈ ok.after, Region.binds md e = true → e.on ≠ i) → oi.apart ops ok = true := fun k ok hk hki hun hno => by
        refine hfree k ok hk hki ?_ hno
        by_cases hjk : j = k
        · subst hjk; exact hjun
        · rw [getD_set_ne true hjk] at hun; exact hun
      refine wpOp_mono (fun a' w' h3 => ?_) h2
      have hS' : (listed.setIfInBounds j true).getD s true = false → S w' := fun hu => h3.2.1 (by
        by_cases hjs : j = s
        · subst hjs; rw [getD_set_self] at hu; cases hu
        · rw [getD_set_ne true hjs, getD_set_ne true his]; rwa [getD_set_ne true hjs] at hu)
      refine ⟨hS', ih (listed.setIfInBounds j true) a' w' hfree' (ready_mono hr (Ne.symm hji)) h3.1 hS' ?_⟩
      rw [Array.setIfInBounds_comm _ _ hji]
      exact h3.2.2
theorem wpAnyU_take {i : Nat} {oi : Oper} {v : Value} {fuel : Nat} {listed : Array Bool} {a : Act} {w : World} (hi : ops[i]? = some oi)
    (hs : Region.noSelect ops = true) (hf : Region.free md ops listed i = true) (hr : (Region.ready md ops listed).contains i = true) (hwt : waits md ops s i = true) (his : i ≠ s) (hu : listed.getD s true = false)
    (hQ : ∀ c a w, Q (.panic c) (a.put oi.dst v) w → Q (.panic c) a w) (hy : YieldsIf P ops S oi v a) (hS : S w)
    (h : wpAnyU P md ops Q S s fuel (listed.setIfInBounds i true) (a.put oi.dst v) w) : wpAnyU P md ops Q S s (fuel + 1) listed a w :=
  wpAnyU_first hi (Region.noSelect_spec hs) hQ hwt his fuel listed a w (Region.free_spec hi hf) (by simpa using hr) hy hu hS h
/-- Take first what yields in whatever world. -/
theorem wpAnyU_take0 {i : Nat} {oi : Oper} {v : Value} {fuel : Nat} {listed : Array Bool} {a : Act} {w : World} (hi : ops[i]? = some oi)
    (hs : Region.noSelect ops = true) (hf : Region.free md ops listed i = true) (hr : (Region.ready md ops listed).contains i = true) (his : i ≠ s)
    (hQ : ∀ c a w, Q (.panic c) (a.put oi.dst v) w → Q (.panic c) a w) (hy : YieldsIf P ops (fun _ => True) oi v a) (hS : listed.getD s true = false → S w)
    (h : wpAnyU P md ops Q S s fuel (listed.setIfInBounds i true) (a.put oi.dst v) w) : wpAnyU P md ops Q S s (fuel + 1) listed a w :=
  wpAnyU_first0 hi (Region.noSelect_spec hs) hQ his fuel listed a w (Region.free_spec hi hf) (by simpa using hr) hy hS h
/-- One operation alone may come up. -/
theorem wpAnyU_one {i : Nat} {o : Oper} {fuel : Nat} {listed : Array Bool} {a : Act} {w : World} (hr : Region.ready md ops listed = [i]) (ho : ops[i]? = some o)
    (h : ∀ K' : Act → World → Prop, Shut (∀ a w, ((listed.setIfInBounds i true).getD s true = false → S w) → wpAnyU P md ops Q S s fuel (listed.setIfInBounds i true) a w → K' a w) → if Region.wanted o (yielded ops a.tmps) = true then Oper.wp P o a w K' Q else K' (a.put o.dst undef) w) :
    wpAnyU P md ops Q S s (fuel + 1) listed a w :=
  ⟨fun h0 => (by rw [hr] at h0; cases h0), fun j hj => by
    rw [hr] at hj
    obtain rfl := List.mem_singleton.1 hj
    exact wpOp_step ho (fun K' hK => h K' (fun a w hS hW => hK a w ⟨hS, hW⟩))⟩
theorem wpAnyU_done {listed : Array Bool} {a : Act} {w : World} (hr : Region.ready md ops listed = []) (h : Q .normal a w) :
    ∀ fuel, wpAnyU P md ops Q S s fuel listed a w
  | 0 => ⟨hr, h⟩
  | _ + 1 => ⟨fun _ => h, by rw [hr]; simp⟩
theorem wp_region_U {id : Nat} {a : Act} {w : World} (hm : P.follows .mixedOrders = true) (h : wpAnyU P .any ops Q S s ops.size (Array.replicate ops.size false) a w.drew) : (Code.region id ops true).wp P Q a w :=
  wp_region_any hm (wpAny_of_U _ _ _ _ h)
end
end
section
open Go.RowKit
section
variable {P : Program} {md : Region.Mode} {ops : Array Oper} {Q : Exit → Act → World → Prop} {l n : Nat}
theorem oper_round {o : Oper} {a : Act} {w : World} {K K' : Act → World → Prop} (hd : ∀ c, o.op ≠ .defer c)
    (hK : ∀ a w, K a w → K' a w) (h : o.wp P a w K Q) : o.wpIn (Fence.wide.inRound l) n P a w K' Q := by
  refine ⟨fun _ _ => trivial, ?_⟩
  rw [Oper.semAt_eq _ _ _ hd]
  unfold Oper.wp at h
  generalize (execOp a.eval o).run P w = r at h
  cases r with
  | ok x w' =>
    cases x with
    | value v => exact hK _ _ h
    | skip => exact hK _ _ h
    | defer d => exact hK _ _ h
    | enter f args =>
      refine ⟨(fun e => by cases e), CallsIn.inRound l (callsIn_wide.2 (h.mono ?_))⟩
      intro e w'' he
      cases e with
      | returned v => exact hK _ _ he
      | panicked c => exact he
      | outgrown => exact he
    | row s args => exact ⟨(fun e => by cases e), fun c cs _ => let ⟨v, w'', r, st⟩ := h c cs; ⟨v, w'', hK _ _ r, stepsIn_wide.2 st⟩⟩
    | _ => exact h.elim
  | halt x w' =>
    cases x with
    | panic v => exact h
    | _ => exact h.elim
theorem any_round (hd : ∀ (i : Nat) (o : Oper), ops[i]? = some o → ∀ c, o.op ≠ .defer c) (hQ : ¬ LetsOut Q) : ∀ (fuel : Nat) (listed : Array Bool) (a : Act) (w : World), wpAny P md ops Q fuel listed a w → wpAnyIn (Fence.wide.inRound l) n P md ops Q fuel listed a w
  | 0, _, _, _, h => h
  | fuel + 1, listed, a, w, h => ⟨h.1, fun i hi => by
      have h1 := h.2 i hi
      unfold wpOp at h1
      unfold wpOpIn
      cases ho : ops[i]? with
      | none => rw [ho] at h1; exact any_round hd hQ fuel _ _ _ h1
      | some o =>
        rw [ho] at h1
        simp only at h1 ⊢
        split
        · rename_i hw
          rw [if_pos hw] at h1
          rcases h1 with h1 | ⟨_, h1⟩
          · exact oper_round (hd i o ho) (fun a w h => any_round hd hQ fuel _ a w h) h1
          · exact absurd h1 hQ
        · rename_i hw
          rw [if_neg hw] at h1
          exact ⟨fun _ _ => trivial, any_round hd hQ fuel _ _ _ h1⟩⟩
/-- THE BEGINNING of such a region in a round: as 'wp_region_held_drew' outside. -/
theorem wpIn_region_round {S : World → Prop} {id : Nat} {a : Act} {w : World} (hm : P.follows .mixedOrders = true) (hd : ops.toList.all (fun o : Oper => match o.op with | .defer _ => false | _ => true) = true) (hQ : ¬ LetsOut Q) (hS : S w.drew)
    (h : S w.drew → wpAnyH P .any ops Q S ops.size (Array.replicate ops.size false) a w.drew) : (Code.region id ops true).wpIn (Fence.wide.inRound l) n P Q a w := by
  refine wpIn_region_any hm (any_round (fun i o ho c e => ?_) hQ _ _ _ _ (wpAny_of_held _ _ _ _ (h hS)))
  have := List.all_eq_true.1 hd o (by simpa using Array.mem_of_getElem? ho)
  rw [e] at this
  cases this
end
end
end Go.Proofs.YtgfoeicfigfepaaDoor

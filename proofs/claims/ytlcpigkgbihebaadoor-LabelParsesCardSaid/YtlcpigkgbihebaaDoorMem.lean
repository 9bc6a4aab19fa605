/-
  Words for memory that every walk of this seat uses: a slice that reads as cells; appends onto rows of the call's own. Nothing of the program is named here.
-/
import Derived.WalkKit
import Derived.Lib.Hide
import Derived.Deep.QuietTactic
import Derived.BigQuiet
import Derived.OpenShut
import Derived.Maps.AppendAt
import Derived.Deep.AppendLies
import Derived.Laws.OwnMore
import Derived.Laws.CopyOwn
import Derived.OwnWalkIn
import Derived.RangeFuncOwn
namespace Go.Proofs.YtlcpigkgbihebaaDoor
open Go.RowKit

theorem ret_bool {a b : Bool} (h : a = b) : Ending.returned (.bool a) = .returned (.bool b) := by rw [h]
theorem ret_int {k : IntKind} {a b : Int} (h : a = b) : Ending.returned (.int k a) = .returned (.int k b) := by rw [h]

theorem below_drewN {B : Nat} {a w : World} (h : Below B a w) (n : Nat) : Below B a (w.drewN n) := ⟨h.os, h.tape, h.output, h.size, h.block⟩
theorem Below.two {W W1 W2 : World} (h : Below W.heap.size W W1) (k : Below W1.heap.size W1 W2) : Below W.heap.size W W2 := h.trans (k.mono h.size)
theorem below_old {w w1 : World} {o : Obj} (h : Below (w.alloc o).heap.size (w.alloc o) w1) : Below w.heap.size w w1 := Below.two ((Below.refl _ _).alloc (Nat.le_refl _) o) h
theorem below_al {w w' : World} (h : Below w.heap.size w w') (o : Obj) : Below w.heap.size w (w'.alloc o) := h.alloc h.size o
theorem below_0 (w : World) : Below w.heap.size w w := Below.refl _ _
/-- Cells and marks of old blocks, as rules. -/
theorem bcell {W w1 : World} (hb : Below W.heap.size W w1) : (∀ b o, b < W.heap.size → w1.cell? ⟨b, o, none⟩ = W.cell? ⟨b, o, none⟩) ∧ (∀ b o, b < W.heap.size → w1.frozen? ⟨b, o, none⟩ = W.frozen? ⟨b, o, none⟩) :=
  ⟨fun b o h => hb.cell (p := ⟨b, o, none⟩) h, fun b o h => hb.frozen (p := ⟨b, o, none⟩) h⟩
theorem addr_add (b off j : Nat) : (⟨b, off, none⟩ : Addr).add j = ⟨b, off + j, none⟩ := by
  unfold Addr.add; split
  · subst j; rfl
  · rfl

/-- The cells that a slice at A holds are xs; they lie below block B. -/
def Rd (w : World) (B : Nat) (A : Option Addr) (xs : List Value) : Prop :=
  xs ≠ [] → ∃ b off, A = some ⟨b, off, none⟩ ∧ b < B ∧ ∀ j u, xs[j]? = some u → w.cell? ⟨b, off + j, none⟩ = some u
section
variable {w w' : World} {B B' : Nat} {A : Option Addr} {xs : List Value}
theorem Rd.none_ : Rd w B A [] := fun h => absurd rfl h
theorem Rd.at_ (h : Rd w B A xs) (hl : 0 < xs.length) : ∃ b off, A = some ⟨b, off, none⟩ ∧ b < B ∧ ∀ j u, xs[j]? = some u → w.cell? ⟨b, off + j, none⟩ = some u :=
  h (by rintro rfl; simp at hl)
theorem Rd.keep (h : Rd w B A xs) (hk : ∀ b o, b < B → w'.cell? ⟨b, o, none⟩ = w.cell? ⟨b, o, none⟩) : Rd w' B A xs := fun hl => by
  obtain ⟨b, off, e, hb, hc⟩ := h hl
  exact ⟨b, off, e, hb, fun j u hj => (hk b _ hb).trans (hc j u hj)⟩
theorem Rd.more (h : Rd w B A xs) (hB : B ≤ B') : Rd w B' A xs := fun hl => by
  obtain ⟨b, off, e, hb, hc⟩ := h hl
  exact ⟨b, off, e, by omega, hc⟩
theorem Rd.below (h : Rd w B A xs) (hb : Below B w w') : Rd w' B A xs := h.keep fun b o hlt => hb.cell (p := ⟨b, o, none⟩) hlt
theorem Rd.alloc (h : Rd w B A xs) (hB : B ≤ w.heap.size) (o : Obj) : Rd (w.alloc o) B A xs := h.keep fun b o' hlt => World.cell?_alloc_lt w o _ (by show b < _; omega)
theorem Rd.adds (h : Rd w B A xs) : ∀ ad, A = some ad → ∀ j u, xs[j]? = some u → w.cell? (ad.add j) = some u := fun ad e j u hj => by
  obtain ⟨b, off, rfl, _, hc⟩ := h (by rintro rfl; simp at hj)
  cases e
  rw [addr_add]
  exact hc j u hj
theorem Rd.drewN (h : Rd w B A xs) (k : Nat) : Rd (w.drewN k) B A xs := h
theorem Rd.take (h : Rd w B A xs) (n : Nat) : Rd w B A (xs.take n) := fun hl => by
  obtain ⟨b, off, e, hb, hc⟩ := h (by rintro rfl; simp at hl)
  refine ⟨b, off, e, hb, fun j u hj => hc j u ?_⟩
  rw [List.getElem?_take] at hj
  split at hj
  · exact hj
  · cases hj
/-- A slice cut at k, as the model says it: at the capacity the address stays. -/
theorem Rd.cut (h : Rd w B A xs) (k cap : Nat) (hc : xs.length ≤ cap) : Rd w B (if cap = k then A else A.map (·.add k)) (xs.drop k) := fun hl => by
  have hk : k < xs.length := by
    apply Classical.byContradiction; intro hn
    exact hl (List.drop_eq_nil_of_le (by omega))
  obtain ⟨b, off, rfl, hb, hcell⟩ := h (by rintro rfl; simp at hk)
  rw [if_neg (by omega)]
  refine ⟨b, off + k, by simp [addr_add], hb, fun j u hj => ?_⟩
  rw [Nat.add_assoc]
  exact hcell _ u (by rw [← hj, List.getElem?_drop])
theorem Rd.own {base n : Nat} {e : TypeId} {size c : Nat} (h : w.ownsRow base e size (.slice A n c) n xs) : Rd w w.heap.size A xs := fun hl => by
  rcases h.2 with ⟨_, hn⟩ | ⟨g, cap, cur, hv, _, hh, hnc, _, hsz, ht⟩
  · exact absurd (List.eq_nil_of_length_eq_zero (by rw [h.1, hn]; simp)) hl
  · have hA : A = some ⟨g, 0, none⟩ := by injection hv
    subst hA
    refine ⟨g, 0, rfl, (Array.getElem?_eq_some_iff.1 hh).1, fun j u hj => ?_⟩
    rw [← ht, List.getElem?_take] at hj
    split at hj
    · rw [Nat.zero_add]
      simpa [World.cell?, hh] using hj
    · cases hj
end

section
variable {P : Program} (w : World)
theorem run_append_of_nil (base : Nat) (t ty e : TypeId) (i : TypeInfo) (size : Nat) (ht : P.underlying t = some (.slice e)) (hi : P.info? e = some i)
    (v : Value) (n : Nat) (xs : List Value) (hown : w.ownsRow base e size v n xs) (c : Nat) : (Builtin.append_ #[t, t] ty #[v, .slice none 0 c]).run P w = .ok v w := by
  rcases hown.2 with ⟨rfl, rfl⟩ | ⟨g, cap, cur, rfl, _, _, hnc, _⟩
  · simp [Builtin.append_, run_underlying ht, sizeOf, typeInfo, hi, Builtin.lenOf, Builtin.firstCells]
  · simp [Builtin.append_, run_underlying ht, sizeOf, typeInfo, hi, Builtin.lenOf, Builtin.firstCells, hnc, storeCells]
/-- append onto a row of the call's own, the source whatever slice it is. -/
theorem run_append_rd (base : Nat) (t ty e : TypeId) (i : TypeInfo) (z : Value) (size bytes : Nat) (ht : P.underlying t = some (.slice e)) (hi : P.info? e = some i) (hz : i.zero = some z)
    (hsize : i.size = size) (hby : i.bytes = bytes) (hzs : z.cells.size = size) (hsz : 0 < size)
    (v : Value) (n : Nat) (xs : List Value) (hown : w.ownsRow base e size v n xs)
    (B : Nat) (A : Option Addr) (m c : Nat) (news : List Value) (hm : news.length = m * size) (hr : Rd w B A news) (h1 : ∀ u ∈ news, u.oneCell' = true)
    (h63 : n + m ≤ maxLen) (hbytes : (n + m) * bytes ≤ 140737488355328) (hbase : base ≤ w.heap.size) :
    ∃ v' w', (Builtin.append_ #[t, t] ty #[v, .slice A m c]).run P w = .ok v' w' ∧ w'.ownsRow base e size v' (n + m) (xs ++ news) ∧ w.grownBy w' v.ownBlock ∧
      (v'.ownBlock = v.ownBlock ∨ v'.ownBlock = some w.heap.size) := by
  rcases A with _ | ad
  · have hn : news = [] := by
      cases news with
      | nil => rfl
      | cons x r => obtain ⟨_, _, h, _⟩ := hr (by simp); cases h
    subst hn
    have hm0 : m = 0 := by
      rcases Nat.eq_zero_or_pos m with h0 | h0
      · exact h0
      · have := Nat.mul_pos h0 hsz; simp at hm; omega
    subst hm0
    exact ⟨v, w, run_append_of_nil w base t ty e i size ht hi v n xs hown c, by simpa using hown, World.grownBy.refl w _, .inl rfl⟩
  · have hcells : ∀ j u, news[j]? = some u → w.cell? (ad.add j) = some u := by
      intro j u hu
      obtain ⟨b, off, h, _, hc⟩ := hr (by rintro rfl; simp at hu)
      injection h with h
      subst h
      rw [addr_add]
      exact hc j u hu
    obtain ⟨v', w', hrun, h2, h3, _, h5⟩ := run_append_own_at (P := P) w base t ty e i z size bytes ht hi hz hsize hby hzs hsz v n xs hown ad m c news hm hcells h1 h63 hbytes hbase
    exact ⟨v', w', hrun, h2, h3, h5⟩
theorem wpList_append_rd {ops : Array Oper} {rest : List Oper} {o : Oper} {a : Act} {Q : Exit → Act → World → Prop} (hgd : o.guard = none) (s x : Operand) (t : TypeId)
    (ho : o.op = .call { callee := .builtin .append, args := #[s, x], argTypes := #[t, t] })
    (base : Nat) (e : TypeId) (i : TypeInfo) (z : Value) (size bytes : Nat) (ht : P.underlying t = some (.slice e)) (hi : P.info? e = some i) (hz : i.zero = some z)
    (hsize : i.size = size) (hby : i.bytes = bytes) (hzs : z.cells.size = size) (hsz : 0 < size)
    (v : Value) (n : Nat) (xs : List Value) (hs : a.eval s = v) (hown : w.ownsRow base e size v n xs)
    (B : Nat) (A : Option Addr) (m c : Nat) (news : List Value) (hx : a.eval x = .slice A m c) (hm : news.length = m * size) (hr : Rd w B A news) (h1 : ∀ u ∈ news, u.oneCell' = true)
    (h63 : n + m ≤ maxLen) (hbytes : (n + m) * bytes ≤ 140737488355328) (hbase : base ≤ w.heap.size)
    (h : ∀ v' w', w'.ownsRow base e size v' (n + m) (xs ++ news) → w.grownBy w' v.ownBlock → (v'.ownBlock = v.ownBlock ∨ v'.ownBlock = some w.heap.size) → wpList P ops Q rest (a.put o.dst v') w') : wpList P ops Q (o :: rest) a w :=
  wpList_plain hgd fun _ hK => by
    obtain ⟨v', w', hrun, h2, h3, h4⟩ := run_append_rd (P := P) w base t o.type e i z size bytes ht hi hz hsize hby hzs hsz v n xs hown B A m c news hm hr h1 h63 hbytes hbase
    unfold Oper.wp execOp
    simp only [ho, resolve, invoke, builtin, Sem.run_bind, Sem.run_pure, Result.andThen_ok, List.map_toArray, List.map_cons, List.map_nil, hs, hx, hrun]
    exact hK _ _ (h v' w' h2 h3 h4)
end
/-- The one cell of a block that was just laid. -/
theorem cell_one (w : World) (v : Value) (t : TypeId) (b : Nat) (hb : b = w.heap.size) : ∀ j u, [v][j]? = some u → (w.alloc (.cells #[v] t)).cell? ((⟨b, 0, none⟩ : Addr).add j) = some u := by
  subst hb
  intro j u hj
  cases j with
  | zero => rw [addr_add, World.cell?_alloc_new]; simpa using hj
  | succ j => simp at hj
/-- copy of a whole slice over a whole row of the same length. -/
theorem run_copy_all {P : Program} (w : World) (dT sT ty elem : TypeId) (hu : P.underlying dT = some (.slice elem)) (hsz : (P.info? elem).map (·.size) = some 1) (g m dCap sCap : Nat) (sp : Option Addr)
    (cur : Array Value) (t : TypeId) (hg : w.heap[g]? = some (.cells cur t (0, 0))) (hcur : cur.size = m) (cs : List Value) (hm : cs.length = m) (B : Nat) (hr : Rd w B sp cs) (h1 : ∀ v ∈ cs, v.oneCell' = true) :
    ∃ w', (Builtin.copy_ #[dT, sT] ty #[.slice (some ⟨g, 0, none⟩) m dCap, .slice sp m sCap]).run P w = .ok (goInt m) w' ∧ w'.heap[g]? = some (.cells cs.toArray t (0, 0)) ∧ w.grownBy w' (some g) ∧ w'.heap.size = w.heap.size := by
  by_cases h0 : m = 0
  · subst h0
    obtain rfl : cs = [] := List.eq_nil_of_length_eq_zero hm
    obtain rfl : cur = #[] := Array.eq_empty_of_size_eq_zero hcur
    exact ⟨w, run_copy_none (P := P) w dT sT ty elem _ sp 0 dCap 0 sCap hu hsz (by simp), hg, World.grownBy.refl w _, rfl⟩
  · obtain ⟨b, off, rfl, _, hc⟩ := hr (by rintro rfl; simp at hm; omega)
    have hrun := run_copy_row (P := P) w dT sT ty elem g 0 m dCap ⟨b, off, none⟩ m sCap cur t cs hu hsz hg (by rw [hm]; exact (Nat.min_self _).symm) (fun j v hj => by rw [addr_add]; exact hc j v hj) (by omega) h1
    rw [hm] at hrun
    refine ⟨_, hrun, ?_, ?_, by simp [World.setRow]⟩
    · have hd : cur.toList.drop (0 + m) = [] := List.drop_eq_nil_of_le (by simp; omega)
      rw [setRow_heap w g _ _ t _ hg, hd]; simp
    · exact ⟨rfl, rfl, rfl, by simp [World.setRow], fun k _ hk => setRow_other w g k _ (fun e => hk (by rw [e]))⟩
theorem wpList_copy_all {P : Program} {w : World} {ops : Array Oper} {rest : List Oper} {o : Oper} {a : Act} {Q : Exit → Act → World → Prop} (hgd : o.guard = none) (d s : Operand) (dT sT : TypeId)
    (ho : o.op = .call { callee := .builtin .copy, args := #[d, s], argTypes := #[dT, sT] }) (elem : TypeId) (hu : P.underlying dT = some (.slice elem)) (hsz : (P.info? elem).map (·.size) = some 1)
    (g m dCap sCap : Nat) (sp : Option Addr) (hd : a.eval d = .slice (some ⟨g, 0, none⟩) m dCap) (hs : a.eval s = .slice sp m sCap)
    (cur : Array Value) (t : TypeId) (hg : w.heap[g]? = some (.cells cur t (0, 0))) (hcur : cur.size = m) (cs : List Value) (hm : cs.length = m) (B : Nat) (hr : Rd w B sp cs) (h1 : ∀ v ∈ cs, v.oneCell' = true)
    (h : ∀ w', w'.heap[g]? = some (.cells cs.toArray t (0, 0)) → w.grownBy w' (some g) → w'.heap.size = w.heap.size → wpList P ops Q rest (a.put o.dst (goInt m)) w') : wpList P ops Q (o :: rest) a w := by
  refine wpList_plain hgd fun K hK => ?_
  obtain ⟨w', hrun, r1, r2, r3⟩ := run_copy_all (P := P) w dT sT o.type elem hu hsz g m dCap sCap sp cur t hg hcur cs hm B hr h1
  unfold Oper.wp
  simp [execOp, ho, resolve, invoke, builtin, hd, hs, hrun, Result.andThen]
  exact hK _ _ (h w' r1 r2 r3)
theorem wpListIn_copy_all {F : Fence} {n : Nat} {P : Program} {w : World} {ops : Array Oper} {rest : List Oper} {o : Oper} {a : Act} {Q : Exit → Act → World → Prop} (hgd : o.guard = none) (d s : Operand) (dT sT : TypeId)
    (ho : o.op = .call { callee := .builtin .copy, args := #[d, s], argTypes := #[dT, sT] }) (elem : TypeId) (hu : P.underlying dT = some (.slice elem)) (hsz : (P.info? elem).map (·.size) = some 1)
    (g m dCap sCap : Nat) (sp : Option Addr) (hd : a.eval d = .slice (some ⟨g, 0, none⟩) m dCap) (hs : a.eval s = .slice sp m sCap)
    (cur : Array Value) (t : TypeId) (hg : w.heap[g]? = some (.cells cur t (0, 0))) (hcur : cur.size = m) (cs : List Value) (hm : cs.length = m) (B : Nat) (hr : Rd w B sp cs) (h1 : ∀ v ∈ cs, v.oneCell' = true)
    (h : ∀ w', w'.heap[g]? = some (.cells cs.toArray t (0, 0)) → w.grownBy w' (some g) → w'.heap.size = w.heap.size → wpListIn F n P ops Q rest (a.put o.dst (goInt m)) w') : wpListIn F n P ops Q (o :: rest) a w := by
  refine wpListIn_plain hgd fun K hK => ?_
  obtain ⟨w', hrun, r1, r2, r3⟩ := run_copy_all (P := P) w dT sT o.type elem hu hsz g m dCap sCap sp cur t hg hcur cs hm B hr h1
  unfold Oper.wpIn
  refine ⟨?_, ?_⟩
  · simp [Oper.about, ho, resolve, Target.leads, Sem.run_pure]
  · rw [Oper.semAt_plain F _ _ (by rw [ho]; intro c hc'; cases hc')]
    simp [execOp, ho, resolve, invoke, builtin, hd, hs, hrun, Result.andThen]
    exact hK _ _ (h w' r1 r2 r3)
/-- make([]T, n) where T is one cell. -/
theorem run_make_n {P : Program} (t e : TypeId) (i : TypeInfo) (z : Value) (ht : P.underlying t = some (.slice e)) (hi : P.info? e = some i) (hz : i.zero = some z) (hsz : i.size = 1)
    (kl kc : IntKind) (n c : Nat) (hnc : n ≤ c) (hbytes : i.bytes * c ≤ 281474976710656) (h63 : c ≤ 9223372036854775807) (w : World) :
    (Instr.makeSlice t (.int kl (n : Int)) (.int kc (c : Int))).run P w = .ok (.slice (some ⟨w.heap.size, 0, none⟩) n c) (w.alloc (.cells (madeCells z.cells c) e)) := by
  have hb : (i.bytes : Int) * (c : Int) ≤ 281474976710656 := by
    have h : ((i.bytes * c : Nat) : Int) ≤ 281474976710656 := by omega
    rwa [Int.natCast_mul] at h
  have hr := run_make (P := P) w t e i z ht hi hz kl kc n c (by omega) (by omega) hb (by omega)
  simp only [Int.toNat_natCast, hsz, Nat.mul_one] at hr
  exact hr
/-- What a slice shares lies from block base on, in a row of cells that may be written. -/
def Fresh (w : World) (base : Nat) (A : Option Addr) : Prop := ∀ ad, A = some ad → base ≤ ad.block ∧ ∃ cs t, w.heap[ad.block]? = some (.cells cs t (0, 0))
theorem heap_lt {w : World} {b : Nat} {o : Obj} (h : w.heap[b]? = some o) : b < w.heap.size := (Array.getElem?_eq_some_iff.1 h).1
theorem Fresh.later {w w' : World} {base : Nat} {A : Option Addr} (h : Fresh w base A) (hb : Below w.heap.size w w') : Fresh w' base A := fun ad e => by
  obtain ⟨h1, cs, t, h2⟩ := h ad e
  exact ⟨h1, cs, t, (hb.block _ (heap_lt h2)).trans h2⟩
theorem Fresh.from {w : World} {base base' : Nat} {A : Option Addr} (h : Fresh w base A) (hb : base' ≤ base) : Fresh w base' A := fun ad e => ⟨Nat.le_trans hb (h ad e).1, (h ad e).2⟩
theorem Fresh.set {w : World} {base : Nat} {A : Option Addr} (h : Fresh w base A) (p : Addr) (v : Value) : Fresh (w.setCell p v) base A := fun ad e => by
  obtain ⟨h1, cs, t, h2⟩ := h ad e
  refine ⟨h1, ?_⟩
  by_cases hp : ad.block = p.block
  · rw [hp] at h2 ⊢
    simp only [World.setCell, Array.getElem?_modify, if_true, h2, Option.map_some]
    exact ⟨_, _, rfl⟩
  · exact ⟨cs, t, (Below.heap_setCell w p v ad.block hp).trans h2⟩
theorem Fresh.kept {w w' : World} {base : Nat} {A : Option Addr} {row : Option Nat} (h : Fresh w base A) (hg : w.grownBy w' row) (hr : ∀ r, row = some r → ∃ o : Obj, w.heap[r]? = some o ∧ o.isCells = false) : Fresh w' base A := fun ad e => by
  obtain ⟨h1, cs, t, h2⟩ := h ad e
  refine ⟨h1, cs, t, (hg.block _ (heap_lt h2) (fun e' => ?_)).trans h2⟩
  obtain ⟨o, ho, hc⟩ := hr _ e'.symm
  rw [h2] at ho; cases ho; cases hc
theorem Fresh.frozen {w : World} {base : Nat} {ad : Addr} (h : Fresh w base (some ad)) (o : Nat) : w.frozen? ⟨ad.block, o, none⟩ = false := by
  obtain ⟨_, cs, t, h2⟩ := h ad rfl
  simp [World.frozen?, h2]
/-- An owned row is a slice's value. -/
theorem owns_form {w : World} {base n : Nat} {e : TypeId} {size : Nat} {v : Value} {xs : List Value} (h : w.ownsRow base e size v n xs) :
    ∃ A c, v = .slice A n c ∧ n ≤ c ∧ Rd w w.heap.size A xs ∧ Fresh w base A := by
  have h' := h
  rcases h.2 with ⟨rfl, rfl⟩ | ⟨g, cap, cur, rfl, hb, hh, hnc, _⟩
  · exact ⟨none, 0, rfl, Nat.le_refl _, Rd.own h', fun _ e => by cases e⟩
  · exact ⟨_, cap, rfl, hnc, Rd.own h', fun _ ea => by cases ea; exact ⟨hb, cur, e, hh⟩⟩

/-! ### Numbers of 64 bits -/
def U (x : Int) : Prop := 0 ≤ x ∧ x ≤ 18446744073709551615
def Us (l : List Int) : Prop := ∀ x ∈ l, U x
/-- The number at a place (0 where there is none). -/
def nth (l : List Int) (k : Nat) : Int := (l[k]?).getD 0
/-- A slice of numbers of 64 bits reads as l. -/
def Sl (w : World) (B : Nat) (A : Option Addr) (l : List Int) : Prop := Rd w B A (l.map (Value.int .u64))
section
variable {w w' : World} {B B' : Nat} {A : Option Addr} {l : List Int}
theorem Sl.nil : Sl w B A [] := Rd.none_
theorem nth_get {l : List Int} {j : Nat} (h : j < l.length) : l[j]? = some (nth l j) := by simp [nth, h]
theorem Sl.at_ (h : Sl w B A l) (hl : 0 < l.length) : ∃ b off, A = some ⟨b, off, none⟩ ∧ b < B ∧ ∀ j, j < l.length → w.cell? ⟨b, off + j, none⟩ = some (.int .u64 (nth l j)) := by
  obtain ⟨b, off, e, hb, hc⟩ := Rd.at_ h (by simpa using hl)
  exact ⟨b, off, e, hb, fun j hj => hc j _ (by rw [List.getElem?_map, nth_get hj]; rfl)⟩
theorem Sl.more (h : Sl w B A l) (hB : B ≤ B') : Sl w B' A l := Rd.more h hB
theorem Sl.keep (h : Sl w B A l) (hk : ∀ b o, b < B → w'.cell? ⟨b, o, none⟩ = w.cell? ⟨b, o, none⟩) : Sl w' B A l := Rd.keep h hk
theorem Sl.below (h : Sl w B A l) (hb : Below B w w') : Sl w' B A l := Rd.below h hb
theorem Sl.later {w w' : World} {A : Option Addr} {l : List Int} (h : Sl w w.heap.size A l) (hb : Below w.heap.size w w') : Sl w' w'.heap.size A l := (Sl.below h hb).more hb.size
theorem Sl.alloc (h : Sl w B A l) (hB : B ≤ w.heap.size) (o : Obj) : Sl (w.alloc o) B A l := Rd.alloc h hB o
theorem Sl.al {w w' : World} {A : Option Addr} {l : List Int} (h : Sl w w.heap.size A l) (hb : Below w.heap.size w w') : Sl w' w.heap.size A l := Sl.below h hb
theorem sl_one (w : World) (x : Int) (t : TypeId) (b : Nat) (hb : b = w.heap.size) : Sl (w.alloc (.cells #[.int .u64 x] t)) (w.alloc (.cells #[.int .u64 x] t)).heap.size (some ⟨b, 0, none⟩) [x] := fun _ => by
  subst hb
  exact ⟨w.heap.size, 0, rfl, by simp, fun j u hj => by have := cell_one w (.int .u64 x) t _ rfl j u hj; rwa [addr_add] at this⟩
theorem Sl.take (h : Sl w B A l) (n : Nat) : Sl w B A (l.take n) := by
  have := Rd.take h n
  rwa [← List.map_take] at this
theorem Sl.cut (h : Sl w B A l) (k cap : Nat) (hc : l.length ≤ cap) : Sl w B (if cap = k then A else A.map (·.add k)) (l.drop k) := by
  have := Rd.cut h k cap (by simpa using hc)
  rwa [← List.map_drop] at this
end
theorem nth_U {l : List Int} (h : Us l) (j : Nat) : 0 ≤ nth l j ∧ nth l j ≤ 18446744073709551615 := by
  unfold nth
  cases e : l[j]? with
  | none => simp
  | some x => exact h x (List.mem_of_getElem? e)
theorem one_u64 {l : List Int} : ∀ u ∈ l.map (Value.int .u64), u.oneCell' = true := by
  intro u hu
  obtain ⟨x, _, rfl⟩ := List.mem_map.1 hu
  rfl
theorem Us.take {l : List Int} (h : Us l) (n : Nat) : Us (l.take n) := fun x hx => h x (List.mem_of_mem_take hx)
theorem Us.drop {l : List Int} (h : Us l) (n : Nat) : Us (l.drop n) := fun x hx => h x (List.mem_of_mem_drop hx)
/-- The value v is a slice that reads as l; what it shares lies from block base on. -/
def Held (w : World) (base : Nat) (v : Value) (l : List Int) : Prop :=
  ∃ A c, v = .slice A l.length c ∧ l.length ≤ c ∧ (A = none → c = 0) ∧ Sl w w.heap.size A l ∧ Fresh w base A
theorem Held.later {w w' : World} {base : Nat} {v : Value} {l : List Int} (h : Held w base v l) (hb : Below w.heap.size w w') : Held w' base v l := by
  obtain ⟨A, c, e, hc, hA, hS, hF⟩ := h
  exact ⟨A, c, e, hc, hA, hS.later hb, hF.later hb⟩
theorem Held.from {w : World} {base base' : Nat} {v : Value} {l : List Int} (h : Held w base v l) (hb : base' ≤ base) : Held w base' v l := by
  obtain ⟨A, c, e, hc, hA, hS, hF⟩ := h
  exact ⟨A, c, e, hc, hA, hS, hF.from hb⟩
theorem held_nil (w : World) (base : Nat) : Held w base (.slice none 0 0) [] := ⟨none, 0, rfl, Nat.le_refl _, fun _ => rfl, Sl.nil, fun _ e => by cases e⟩
/-- A slice's reading goes over to a world in which old cells stand. -/
theorem Sl.to {w w' : World} {A : Option Addr} {l : List Int} (h : Sl w w.heap.size A l) (hs : w.heap.size ≤ w'.heap.size) (hk : ∀ b o v, w.cell? ⟨b, o, none⟩ = some v → w'.cell? ⟨b, o, none⟩ = some v) : Sl w' w'.heap.size A l := fun hl => by
  obtain ⟨b, off, e, hb, hc⟩ := h hl
  exact ⟨b, off, e, by omega, fun j u hj => hk b _ u (hc j u hj)⟩
end Go.Proofs.YtlcpigkgbihebaaDoor

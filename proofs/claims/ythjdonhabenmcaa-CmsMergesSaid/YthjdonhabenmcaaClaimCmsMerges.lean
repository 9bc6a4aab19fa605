/-
  PROVED: what Merge, Lower and Same tell is what the reference tells, of any two counters; the law aviarylaw08.CmsMerges returns true at every input (Rows.CmsMergesSaid). Conditions: none.
  The frame of the row's step follows the kit's proof-skeleton for 'Below'; the walks and the plain laws are our own.
-/
import Derived.Test.YthjdonhabenmcaaRows
import Derived.Test.YthjdonhabenmcaaCmsMerges
import Derived.Test.YthjdonhabenmcaaRow
import Derived.WalkKit
import Derived.ProofKit
import Derived.OpenShut
import Derived.ShutString
import Derived.ChangeOld
import Derived.Below
namespace Go.Proofs.Ythjdonhabenmcaa.cmsMerges
open Go.ChangeShapes Go.WideShapes Go.ChangeAt Go.RowKit
open Go.ChangeMaps (open_string shut_string)
set_option linter.unusedVariables false

theorem own : ownKnob Try.prog.godebug = none := by kernel_rfl
theorem laidOut : laidOutB Try.prog = true := by kernel_rfl

/-- What the walk is told of a slice of integers that came in. -/
def IsRow (k : IntKind) (w : World) (a : Option Addr) (len cap : Nat) (zs : List Int) : Prop :=
  (a = none ∧ len = 0 ∧ cap = 0 ∧ zs = []) ∨
  ∃ x, a = some x ∧ len ≤ cap ∧ cap ≤ maxLen ∧ zs.length = cap ∧ (∀ i, i < zs.length → w.cell? (x.add i) = some (.int k (zs.getD i 0))) ∧ ∀ n ∈ zs, (Lit.int k n).wf = true

/-! ### The walk -/
theorem walk (ra0 ca0 : Int) (a0 : Option Addr) (len0 cap0 : Nat) (z0 : List Int) (ra1 ca1 : Int) (a1 : Option Addr) (len1 cap1 : Nat) (z1 : List Int) (w : World) (w0 : IsRow .u64 w a0 len0 cap0 z0) (w1 : IsRow .u64 w a1 len1 cap1 z1) :
    Calls Try.prog 8 #[.agg #[.int .i64 ra0, .int .i64 ca0, .slice a0 len0 cap0], .agg #[.int .i64 ra1, .int .i64 ca1, .slice a1 len1 cap1]] w fun e w' => e = .returned (.bool true) ∧ Below w.heap.size w w' := by
  obtain ⟨l0, rfl, hc0, hm0, _, hS0, hU0⟩ := isRow_sl w0
  obtain ⟨l1, rfl, hc1, hm1, _, hS1, hU1⟩ := isRow_sl w1
  unfold maxLen at hm0 hm1
  exact merges_walk w ra0 ca0 _ _ a0 (l0.take 200) (hU0.take 200) (hS0.take 200) (by rw [List.length_take]; split <;> omega) (by rw [List.length_take]; omega) hm0 (by rw [List.length_take]; omega)
    ra1 ca1 _ _ a1 (l1.take 200) (hU1.take 200) (hS1.take 200) (by rw [List.length_take]; split <;> omega) (by rw [List.length_take]; omega) hm1 (by rw [List.length_take]; omega)

/-! ### The row's step -/
set_option maxRecDepth 100000 in
set_option maxHeartbeats 1000000 in
theorem lifted (os : Os) (started : os.Started) (H : Type) (enc : TypeId × Value → H) :
    ReturnsInHanded {} Try.checked os 8 .any (Rows.cmsMergesSpec.pre6 enc Try.prog Try.f8 Rows.cmsMergesRow.domain false) (Rows.cmsMergesSpec.post enc Try.prog Try.f8 false true false false) := by
  refine returnsInHanded_of_change (C := Try.checked) own started (by kernel_rfl) Try.func8
    (ChangeSpec.witness6 (enc := enc) (C := Try.checked) false ⟨#[], #[.agg #[.int .i64 0, .int .i64 0, .slice none 0 0], .agg #[.int .i64 0, .int .i64 0, .slice none 0 0]], []⟩ 8 (by kernel_rfl) (by kernel_rfl) (by kernel_rfl) (by kernel_rfl)) ?_
  intro W base args ds gs before hval0 hW hcnd _
  have hval : ∀ (j : Nat) t v, Try.f8.params[j]? = some t → args[j]? = some v → Value.okWide Try.prog W .any base t v := hval0
  have hW' := hW
  obtain ⟨p, q, hA0, hV, rfl, hfz, hnd⟩ := hW
  have hA : DataW.TrodAll enc Try.prog W 0 (fun _ => true) true Try.f8.params.toList args.toList ds p := hA0
  rw [Try.params8] at hA hval
  obtain ⟨v0, vs0, d0, ds0, p0, q0, hargs, rfl, rfl, h0, r0⟩ := trodAll_cons hA
  obtain ⟨v1, vs1, d1, ds1, p1, q1, rfl, rfl, rfl, h1, r1⟩ := trodAll_cons r0
  obtain ⟨rfl, rfl, rfl⟩ := trodAll_nil r1
  obtain rfl : args = #[v0, v1] := by cases args; simp_all
  obtain ⟨rfl, rfl⟩ := trodVars_none hV
  have k0 := h0
  have lt0 : ∀ x ∈ p0, x.block < W.heap.size := by obtain ⟨m, hm⟩ := k0; exact DataW.trod_lt m _ _ _ hm
  obtain ⟨q00, q10, q20, y00, y10, y20, n0, rfl, _, _, g00, g10, g20⟩ := Go.Joins.open_agg3 Try.underlying24 (by kernel_rfl) (by kernel_rfl) (hval 0 24 v0 rfl rfl) h0
  obtain ⟨ra0, e00, _⟩ := DataW.trod_int Try.underlying3 g00
  simp only [List.cons.injEq, and_true] at e00
  subst e00
  obtain ⟨ca0, e10, _⟩ := DataW.trod_int Try.underlying3 g10
  simp only [List.cons.injEq, and_true] at e10
  subst e10
  obtain ⟨a0, len0, cap0, z0, rfl, w0⟩ : ∃ a len cap zs, q20 = .slice a len cap ∧ IsRow .u64 W a len cap zs := by
    rcases open_ints Try.underlying22 Try.underlying25 (by kernel_rfl) g20 with ⟨hcs, _⟩ | ⟨x, l, c, zs, hcs, _, hl, hm, hz, _, hcell, hwz⟩
    · simp at hcs
      exact ⟨none, 0, 0, [], hcs, .inl ⟨rfl, rfl, rfl, rfl⟩⟩
    · simp at hcs
      exact ⟨some x, l, c, zs, hcs, .inr ⟨_, rfl, hl, hm, by simpa using hz, hcell, hwz⟩⟩
  have k1 := h1
  have lt1 : ∀ x ∈ p1, x.block < W.heap.size := by obtain ⟨m, hm⟩ := k1; exact DataW.trod_lt m _ _ _ hm
  obtain ⟨q01, q11, q21, y01, y11, y21, n1, rfl, _, _, g01, g11, g21⟩ := Go.Joins.open_agg3 Try.underlying24 (by kernel_rfl) (by kernel_rfl) (hval 1 24 v1 rfl rfl) h1
  obtain ⟨ra1, e01, _⟩ := DataW.trod_int Try.underlying3 g01
  simp only [List.cons.injEq, and_true] at e01
  subst e01
  obtain ⟨ca1, e11, _⟩ := DataW.trod_int Try.underlying3 g11
  simp only [List.cons.injEq, and_true] at e11
  subst e11
  obtain ⟨a1, len1, cap1, z1, rfl, w1⟩ : ∃ a len cap zs, q21 = .slice a len cap ∧ IsRow .u64 W a len cap zs := by
    rcases open_ints Try.underlying22 Try.underlying25 (by kernel_rfl) g21 with ⟨hcs, _⟩ | ⟨x, l, c, zs, hcs, _, hl, hm, hz, _, hcell, hwz⟩
    · simp at hcs
      exact ⟨none, 0, 0, [], hcs, .inl ⟨rfl, rfl, rfl, rfl⟩⟩
    · simp at hcs
      exact ⟨some x, l, c, zs, hcs, .inr ⟨_, rfl, hl, hm, by simpa using hz, hcell, hwz⟩⟩
  clear hA0 hval0
  refine (walk ra0 ca0 a0 len0 cap0 z0 ra1 ca1 a1 len1 cap1 z1 W w0 w1).mono fun e W' ⟨he, bel⟩ => ?_
  subst he
  exact ⟨_, rfl, _, _, _, [], _, [], hW', trodAll_mk1 (shut_bool Try.underlying4 _), (trodAll_cons_mk (Below.trod laidOut (by kernel_rfl) (of_decide_eq_true (by kernel_rfl)) k0 bel lt0) (trodAll_cons_mk (Below.trod laidOut (by kernel_rfl) (of_decide_eq_true (by kernel_rfl)) k1 bel lt1) trodAll_mk0)), rfl, bel.frame _, fun h => by cases h⟩

theorem over : Rows.cmsMergesRow.holds Try.pinned (OpenSpec.ofChange Rows.cmsMergesSpec) :=
  OpenClaim.holds_of_wide 8 Try.f8 rfl rfl rfl rfl rfl rfl rfl ⟨rfl, rfl, rfl, rfl, rfl⟩ rfl rfl rfl rfl rfl (by kernel_rfl) Try.func8 (by kernel_rfl)
    (of_decide_eq_true (by kernel_rfl)) (by unfold Func.isWrapper; first | (rw [if_pos (by decide +kernel)]; kernel_rfl) | (rw [if_neg (by decide +kernel)]; exact ⟨rfl, rfl⟩))
    (fun os started H enc _ => lifted os started H enc)

theorem proved : Rows.CmsMergesSaid := over
#print axioms proved
end Go.Proofs.Ythjdonhabenmcaa.cmsMerges

/-
  PROVED: what the program tells of two merged histograms, of a lowered one, of ranks and places is what the document defines (Rows.HistMergesSaid). Conditions: none.
  The frame of the row's step follows the kit's proof-skeleton for 'Below'; the walks and the plain laws are our own.
-/
import Derived.Test.YtopddcabaiicgaaRows
import Derived.Test.YtopddcabaiicgaaHistMerges
import Derived.Test.YtopddcabaiicgaaRowBins
import Derived.Test.YtopddcabaiicgaaRow
import Derived.WalkKit
import Derived.ProofKit
import Derived.OpenShut
import Derived.ShutString
import Derived.ChangeOld
import Derived.Below
namespace Go.Proofs.Ytopddcabaiicgaa.histMerges
open Go.ChangeShapes Go.WideShapes Go.ChangeAt Go.RowKit
open Go.ChangeMaps (open_string shut_string)
set_option linter.unusedVariables false

theorem own : ownKnob Try.prog.godebug = none := by kernel_rfl
theorem laidOut : laidOutB Try.prog = true := by kernel_rfl

/-- What the walk is told of a slice of integers that came in. -/
def IsRow (k : IntKind) (w : World) (a : Option Addr) (len cap : Nat) (zs : List Int) : Prop :=
  (a = none ∧ len = 0 ∧ cap = 0 ∧ zs = []) ∨
  ∃ x, a = some x ∧ len ≤ cap ∧ cap ≤ maxLen ∧ zs.length = cap ∧ (∀ i, i < zs.length → w.cell? (x.add i) = some (.int k (zs.getD i 0))) ∧ ∀ n ∈ zs, (Lit.int k n).wf = true

/-! ### The walk -/
theorem walk (ra0 : Int) (a0 : Option Addr) (len0 cap0 : Nat) (ra1 : Int) (a1 : Option Addr) (len1 cap1 : Nat) (a2 : Int) (a3 : Int) (w : World) (w0 : IsBins w a0 len0 cap0) (w1 : IsBins w a1 len1 cap1) (w2 : (Lit.int .u64 a2).wf = true) (w3 : (Lit.int .u64 a3).wf = true) :
    Calls Try.prog 10 #[.agg #[.int .i64 ra0, .slice a0 len0 cap0], .agg #[.int .i64 ra1, .slice a1 len1 cap1], .int .u64 a2, .int .u64 a3] w fun e w' => e = .returned (.bool true) ∧ Below w.heap.size w w' := by
  obtain ⟨l0, rfl, hc0, hm0, hS0, hU0, hA0⟩ := isBins_sb w0
  obtain ⟨l1, rfl, hc1, hm1, hS1, hU1, hA1⟩ := isBins_sb w1
  unfold maxLen at hm0 hm1
  exact histMerges_walk w ra0 ra1 a2 a3 a0 a1 (l0.take 300) (l1.take 300) _ _ _ _ (bounds_u64 w2) (hU0.take 300) (hU1.take 300) (hS0.take 300) (hS1.take 300) (by rw [List.length_take]; omega) hc0 hA0 (by rw [List.length_take]; omega) hc1 hA1

/-! ### The row's step -/
set_option maxRecDepth 100000 in
set_option maxHeartbeats 1000000 in
theorem lifted (os : Os) (started : os.Started) (H : Type) (enc : TypeId × Value → H) :
    ReturnsInHanded {} Try.checked os 10 .any (Rows.histMergesSpec.pre6 enc Try.prog Try.f10 Rows.histMergesRow.domain false) (Rows.histMergesSpec.post enc Try.prog Try.f10 false true false false) := by
  refine returnsInHanded_of_change (C := Try.checked) own started (by kernel_rfl) Try.func10
    (ChangeSpec.witness6 (enc := enc) (C := Try.checked) false ⟨#[], #[.agg #[.int .i64 0, .slice none 0 0], .agg #[.int .i64 0, .slice none 0 0], .int .u64 0, .int .u64 0], []⟩ 8 (by kernel_rfl) (by kernel_rfl) (by kernel_rfl) (by kernel_rfl)) ?_
  intro W base args ds gs before hval0 hW hcnd _
  have hval : ∀ (j : Nat) t v, Try.f10.params[j]? = some t → args[j]? = some v → Value.okWide Try.prog W .any base t v := hval0
  have hW' := hW
  obtain ⟨p, q, hA0, hV, rfl, hfz, hnd⟩ := hW
  have hA : DataW.TrodAll enc Try.prog W 0 (fun _ => true) true Try.f10.params.toList args.toList ds p := hA0
  rw [Try.params10] at hA hval
  obtain ⟨v0, vs0, d0, ds0, p0, q0, hargs, rfl, rfl, h0, r0⟩ := trodAll_cons hA
  obtain ⟨v1, vs1, d1, ds1, p1, q1, rfl, rfl, rfl, h1, r1⟩ := trodAll_cons r0
  obtain ⟨v2, vs2, d2, ds2, p2, q2, rfl, rfl, rfl, h2, r2⟩ := trodAll_cons r1
  obtain ⟨v3, vs3, d3, ds3, p3, q3, rfl, rfl, rfl, h3, r3⟩ := trodAll_cons r2
  obtain ⟨rfl, rfl, rfl⟩ := trodAll_nil r3
  obtain rfl : args = #[v0, v1, v2, v3] := by cases args; simp_all
  obtain ⟨rfl, rfl⟩ := trodVars_none hV
  have k0 := h0
  have lt0 : ∀ x ∈ p0, x.block < W.heap.size := by obtain ⟨m, hm⟩ := k0; exact DataW.trod_lt m _ _ _ hm
  obtain ⟨q00, q10, y00, y10, n0, rfl, _, _, g00, g10⟩ := Go.Joins.open_agg2 Try.underlying25 (by kernel_rfl) (by kernel_rfl) (hval 0 25 v0 rfl rfl) h0
  obtain ⟨ra0, e00, _⟩ := DataW.trod_int Try.underlying3 g00
  simp only [List.cons.injEq, and_true] at e00
  subst e00
  obtain ⟨a0, len0, cap0, rfl, w0⟩ : ∃ a len cap, q10 = .slice a len cap ∧ IsBins W a len cap := by
    rcases open_slice_fields Try.underlying23 Try.underlying71 (by kernel_rfl) (by kernel_rfl) g10 with ⟨hcs, _⟩ | ⟨x, l, c, m, D, Pl, hcs, _, hl, hm, hmm, _, hf2⟩
    · simp at hcs
      exact ⟨none, 0, 0, hcs, .inl ⟨rfl, rfl, rfl⟩⟩
    · simp at hcs
      refine ⟨some x, l, c, hcs, .inr ⟨x, rfl, hl, hm, fun i hi => ?_⟩⟩
      obtain ⟨ys, n, _, _, _, hfs⟩ := hf2 i (by rw [hmm]; simpa using hi)
      obtain ⟨v0, y0, c0, _, t0⟩ := hfs 0 _ rfl
      obtain ⟨v1, y1, c1, _, t1⟩ := hfs 1 _ rfl
      obtain ⟨n0, e0, _, g0⟩ := DataW.trod_int Try.underlying3 t0
      obtain ⟨n1, e1, _, g1⟩ := DataW.trod_int Try.underlying22 t1
      simp only [List.cons.injEq, and_true] at e0 e1
      subst e0 e1
      exact ⟨n0, n1, c0, c1, bounds_i64 g0, bounds_u64 g1⟩
  have k1 := h1
  have lt1 : ∀ x ∈ p1, x.block < W.heap.size := by obtain ⟨m, hm⟩ := k1; exact DataW.trod_lt m _ _ _ hm
  obtain ⟨q01, q11, y01, y11, n1, rfl, _, _, g01, g11⟩ := Go.Joins.open_agg2 Try.underlying25 (by kernel_rfl) (by kernel_rfl) (hval 1 25 v1 rfl rfl) h1
  obtain ⟨ra1, e01, _⟩ := DataW.trod_int Try.underlying3 g01
  simp only [List.cons.injEq, and_true] at e01
  subst e01
  obtain ⟨a1, len1, cap1, rfl, w1⟩ : ∃ a len cap, q11 = .slice a len cap ∧ IsBins W a len cap := by
    rcases open_slice_fields Try.underlying23 Try.underlying71 (by kernel_rfl) (by kernel_rfl) g11 with ⟨hcs, _⟩ | ⟨x, l, c, m, D, Pl, hcs, _, hl, hm, hmm, _, hf2⟩
    · simp at hcs
      exact ⟨none, 0, 0, hcs, .inl ⟨rfl, rfl, rfl⟩⟩
    · simp at hcs
      refine ⟨some x, l, c, hcs, .inr ⟨x, rfl, hl, hm, fun i hi => ?_⟩⟩
      obtain ⟨ys, n, _, _, _, hfs⟩ := hf2 i (by rw [hmm]; simpa using hi)
      obtain ⟨v0, y0, c0, _, t0⟩ := hfs 0 _ rfl
      obtain ⟨v1, y1, c1, _, t1⟩ := hfs 1 _ rfl
      obtain ⟨n0, e0, _, g0⟩ := DataW.trod_int Try.underlying3 t0
      obtain ⟨n1, e1, _, g1⟩ := DataW.trod_int Try.underlying22 t1
      simp only [List.cons.injEq, and_true] at e0 e1
      subst e0 e1
      exact ⟨n0, n1, c0, c1, bounds_i64 g0, bounds_u64 g1⟩
  obtain ⟨a2, rfl, rfl, rfl, w2⟩ := open_int Try.underlying22 (hval 2 22 v2 rfl rfl) h2
  obtain ⟨a3, rfl, rfl, rfl, w3⟩ := open_int Try.underlying22 (hval 3 22 v3 rfl rfl) h3
  clear hA0 hval0
  refine (walk ra0 a0 len0 cap0 ra1 a1 len1 cap1 a2 a3 W w0 w1 w2 w3).mono fun e W' ⟨he, bel⟩ => ?_
  subst he
  exact ⟨_, rfl, _, _, _, [], _, [], hW', trodAll_mk1 (shut_bool Try.underlying4 _), (trodAll_cons_mk (Below.trod laidOut (by kernel_rfl) (of_decide_eq_true (by kernel_rfl)) k0 bel lt0) (trodAll_cons_mk (Below.trod laidOut (by kernel_rfl) (of_decide_eq_true (by kernel_rfl)) k1 bel lt1) (trodAll_cons_mk (shut_int Try.underlying22 w2) (trodAll_cons_mk (shut_int Try.underlying22 w3) trodAll_mk0)))), rfl, bel.frame _, fun h => by cases h⟩

theorem over : Rows.histMergesRow.holds Try.pinned (OpenSpec.ofChange Rows.histMergesSpec) :=
  OpenClaim.holds_of_wide 10 Try.f10 rfl rfl rfl rfl rfl rfl rfl ⟨rfl, rfl, rfl, rfl, rfl⟩ rfl rfl rfl rfl rfl (by kernel_rfl) Try.func10 (by kernel_rfl)
    (of_decide_eq_true (by kernel_rfl)) (by unfold Func.isWrapper; first | (rw [if_pos (by decide +kernel)]; kernel_rfl) | (rw [if_neg (by decide +kernel)]; exact ⟨rfl, rfl⟩))
    (fun os started H enc _ => lifted os started H enc)

theorem proved : Rows.HistMergesSaid := over
#print axioms proved
end Go.Proofs.Ytopddcabaiicgaa.histMerges

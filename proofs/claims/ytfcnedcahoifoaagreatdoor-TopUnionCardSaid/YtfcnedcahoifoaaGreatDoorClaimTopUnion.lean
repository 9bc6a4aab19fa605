/-
  PROVED: what two tenants lend, rolled up, is what one has who ingested both, any seed, kind, items, number (Rows.TopUnionCardSaid). Conditions: none.
  The frame of the row's step and the card follow the kit's toy for a law over tables; the walks and the plain laws are our own.
-/
import Derived.Test.YtfcnedcahoifoaaGreatDoorRows
import Derived.Test.YtfcnedcahoifoaaGreatDoorCards
import Derived.Test.YtfcnedcahoifoaaGreatDoorTie
import Derived.Test.YtfcnedcahoifoaaGreatDoorOU
import Derived.Test.YtfcnedcahoifoaaGreatDoorClosedTopUnion
import Derived.WalkKit
import Derived.ProofKit
import Derived.OpenShut
import Derived.ShutString
import Derived.SizedLaws
import Derived.SevenTiedAt
import Derived.Below
import Derived.Deep.DeepHandedRow
import Derived.Deep.DeepWitnessRowRef
namespace Go.Proofs.YtfcnedcahoifoaaGreatDoor.topUnion
open Go.ChangeShapes Go.WideShapes Go.ChangeAt Go.RowKit
open Go.ChangeMaps (open_string shut_string)
set_option linter.unusedVariables false
set_option linter.unusedSimpArgs false

theorem own : ownKnob Tryz.prog.godebug = none := by kernel_rfl
theorem laidOut8 : laidOutB Tryz.prog = true := by kernel_rfl

/-! ### The walk -/
theorem walk (ka0 kb0 : Int) (a1 : Int) (a2 : Option Addr) (l2 : List Item) (cap2 : Nat) (a3 : Option Addr) (l3 : List Item) (cap3 : Nat) (a4 : Int) (w : World) (w0 : U ka0 ∧ U kb0) (w1 : (Lit.int .i64 a1).wf = true) (w2 : l2.length ≤ cap2 ∧ cap2 ≤ maxLen ∧ (∀ x ∈ l2, U x.h ∧ U x.n) ∧ Rd w w.heap.size a2 (l2.flatMap Q8)) (w3 : l3.length ≤ cap3 ∧ cap3 ≤ maxLen ∧ (∀ x ∈ l3, U x.h ∧ U x.n) ∧ Rd w w.heap.size a3 (l3.flatMap Q8)) (w4 : (Lit.int .u64 a4).wf = true) (hT : Tb w) (hE : Er w) (hW4 : 4 ≤ w.heap.size) :
    Calls Tryz.prog 5 #[.agg #[.int .u64 ka0, .int .u64 kb0], .int .i64 a1, .slice a2 l2.length cap2, .slice a3 l3.length cap3, .int .u64 a4] w fun e w' => e = .returned (.bool true) ∧ Below w.heap.size w w' := by
  exact union_any ka0 kb0 a1 a2 l2 cap2 a3 l3 cap3 a4 w w2 w3 (wf_u64 w4) hT hE hW4

/-! ### The row's step -/
theorem reads (os : Os) {H : Type} (enc : TypeId × Value → H) : (DataW.whole enc Tryz.prog ((laidWorld os).forCall (fun _ _ => 0) ⟨#[], #[.agg #[.int .u64 0, .int .u64 0], .int .i64 0, .slice none 0 0, .slice none 0 0, .int .u64 0], []⟩).memory Tryz.f5.params.toList Rows.topUnionSpec.vars false (#[.agg #[.int .u64 0, .int .u64 0], .int .i64 0, .slice none 0 0, .slice none 0 0, .int .u64 0] : Array Value).toList 8).map (fun x => (x.1, x.2.1)) =
      some ([.agg [.lit (.int .u64 0), .lit (.int .u64 0)], .lit (.int .i64 0), .nil, .nil, .lit (.int .u64 0)], []) := by kernel_rfl
theorem witness_row (os : Os) {H : Type} (enc : TypeId × Value → H) :
    (OpenSpec.ofChange Rows.topUnionSpec).preRow enc Tryz.prog Tryz.f5 Rows.topUnionRow.domain false Rows.topUnionRow.laid ((laidWorld os).forCall (fun _ _ => 0) ⟨#[], #[.agg #[.int .u64 0, .int .u64 0], .int .i64 0, .slice none 0 0, .slice none 0 0, .int .u64 0], []⟩).memory #[.agg #[.int .u64 0, .int .u64 0], .int .i64 0, .slice none 0 0, .slice none 0 0, .int .u64 0] := by
  obtain ⟨⟨x1, x2, x3⟩, hx, hx1⟩ := Option.map_eq_some_iff.1 (reads os enc)
  simp only [Prod.mk.injEq] at hx1
  obtain ⟨rfl, rfl⟩ := hx1
  exact OpenSpec.preRow_of_cond 8 hx (by kernel_rfl) (fun k hk => by cases hk) (by kernel_rfl) (laid_met os _)

set_option maxRecDepth 100000 in
set_option maxHeartbeats 2000000 in
theorem lifted (os : Os) (started : os.Started) (H : Type) (enc : TypeId × Value → H) (G : Stop.Interp) :
    ReturnsInHanded {} Tryz.checked os 5 .any ((OpenSpec.ofChange Rows.topUnionSpec).preRow enc Tryz.prog Tryz.f5 Rows.topUnionRow.domain false Rows.topUnionRow.laid) (((OpenSpec.ofChange Rows.topUnionSpec).at G).post enc Tryz.prog Tryz.f5 false true false false) := by
  refine returnsInHanded_of_row (C := Tryz.checked) (s := OpenSpec.ofChange Rows.topUnionSpec) own started (by kernel_rfl) Tryz.func5
    (witness_row_atRef (enc := enc) (C := Tryz.checked) false (laidWorld os) #[.agg #[.int .u64 0, .int .u64 0], .int .i64 0, .slice none 0 0, .slice none 0 0, .int .u64 0] rfl (by kernel_rfl) (by kernel_rfl) (by kernel_rfl) (witness_row os enc)) ?_
  intro W base args ds gs before hval0 hW _ _ _ hL _ _
  have hval : ∀ (j : Nat) t v, Tryz.f5.params[j]? = some t → args[j]? = some v → Value.okWide Tryz.prog W .any base t v := hval0
  have hW' := hW
  obtain ⟨p, q, hA0, hV, rfl, _, _⟩ := hW
  have hA : DataW.TrodAll enc Tryz.prog W 0 (fun _ => true) true Tryz.f5.params.toList args.toList ds p := hA0
  rw [Tryz.params5] at hA hval
  obtain ⟨v0, vs0, d0, ds0, p0, q0, hargs, rfl, rfl, h0, r0⟩ := trodAll_cons hA
  obtain ⟨v1, vs1, d1, ds1, p1, q1, rfl, rfl, rfl, h1, r1⟩ := trodAll_cons r0
  obtain ⟨v2, vs2, d2, ds2, p2, q2, rfl, rfl, rfl, h2, r2⟩ := trodAll_cons r1
  obtain ⟨v3, vs3, d3, ds3, p3, q3, rfl, rfl, rfl, h3, r3⟩ := trodAll_cons r2
  obtain ⟨v4, vs4, d4, ds4, p4, q4, rfl, rfl, rfl, h4, r4⟩ := trodAll_cons r3
  obtain ⟨rfl, rfl, rfl⟩ := trodAll_nil r4
  obtain rfl : args = #[v0, v1, v2, v3, v4] := by cases args; simp_all
  obtain ⟨rfl, rfl⟩ := trodVars_none hV
  have k0 := h0
  have lt0 : ∀ x ∈ p0, x.block < W.heap.size := by obtain ⟨m, hm⟩ := k0; exact DataW.trod_lt m _ _ _ hm
  obtain ⟨ka0, kb0, rfl, w0a, w0b⟩ := key_open (hval 0 24 v0 rfl rfl) (by obtain ⟨m, hm⟩ := h0; exact ⟨m, _, hm⟩)
  have w0 : U ka0 ∧ U kb0 := ⟨w0a, w0b⟩
  obtain ⟨a1, rfl, rfl, rfl, w1⟩ := open_int Tryz.underlying3 (hval 1 3 v1 rfl rfl) h1
  obtain ⟨a2, len2, cap2, rfl⟩ := okWide_slice Tryz.underlying32 (hval 2 32 v2 rfl rfl)
  have k2 := h2
  have lt2 : ∀ x ∈ p2, x.block < W.heap.size := by obtain ⟨m, hm⟩ := k2; exact DataW.trod_lt m _ _ _ hm
  obtain ⟨l2, rfl, w2⟩ := items_open (by obtain ⟨m, hm⟩ := h2; exact ⟨m, _, hm⟩)
  obtain ⟨a3, len3, cap3, rfl⟩ := okWide_slice Tryz.underlying32 (hval 3 32 v3 rfl rfl)
  have k3 := h3
  have lt3 : ∀ x ∈ p3, x.block < W.heap.size := by obtain ⟨m, hm⟩ := k3; exact DataW.trod_lt m _ _ _ hm
  obtain ⟨l3, rfl, w3⟩ := items_open (by obtain ⟨m, hm⟩ := h3; exact ⟨m, _, hm⟩)
  obtain ⟨a4, rfl, rfl, rfl, w4⟩ := open_int Tryz.underlying22 (hval 4 22 v4 rfl rfl) h4
  clear hA0 hval0
  refine (walk ka0 kb0 a1 a2 l2 cap2 a3 l3 cap3 a4 W w0 w1 w2 w3 w4 (tabs_of hL) (er_of hL) (size4 (tabs_of hL))).mono fun e W' ⟨he, bel⟩ => ?_
  subst he
  exact ⟨_, rfl, _, _, _, [], _, [], hW', trodAll_mk1 (shut_bool Tryz.underlying4 _), (trodAll_cons_mk (Below.trod laidOut8 (by kernel_rfl) (of_decide_eq_true (by kernel_rfl)) k0 bel lt0) (trodAll_cons_mk (shut_int Tryz.underlying3 w1) (trodAll_cons_mk (Below.trod laidOut8 (by kernel_rfl) (of_decide_eq_true (by kernel_rfl)) k2 bel lt2) (trodAll_cons_mk (Below.trod laidOut8 (by kernel_rfl) (of_decide_eq_true (by kernel_rfl)) k3 bel lt3) (trodAll_cons_mk (shut_int Tryz.underlying22 w4) trodAll_mk0))))), rfl, bel.frame _, fun h => by cases h⟩

set_option maxRecDepth 100000 in
theorem said : Rows.TopUnionSaid :=
  OpenClaim.holds_of_cond 5 Tryz.f5 rfl rfl rfl rfl rfl rfl rfl ⟨rfl, rfl, rfl, rfl, rfl⟩ rfl rfl rfl rfl rfl (by kernel_rfl) Tryz.func5 closed
    (of_decide_eq_true (by kernel_rfl)) (by unfold Func.isWrapper; first | (rw [if_pos (by decide +kernel)]; kernel_rfl) | (rw [if_neg (by decide +kernel)]; exact ⟨rfl, rfl⟩))
    (fun os started H enc _ G => by rw [OpenClaim.pre_eq_preRow]; exact lifted os started H enc G)

set_option maxRecDepth 100000 in
/-- No parameter wants a stand-in; the program's own looks: what the card asks. -/
theorem plain (f : FuncId) (fn : Func) (hf : Tryz.pinned.checked.prog.funcNamed "aviary/aviarytop.TopUnion" = some f) (hfn : Tryz.pinned.checked.prog.funcs[f]? = some fn) :
    true = Tryz.pinned.checked.prog.looks [] ∧ ∀ (j : Nat) t, fn.params[j]? = some t → Tryz.pinned.checked.prog.wantsStandIn t = false := by
  obtain rfl : f = 5 := Option.some.inj ((show Tryz.prog.funcNamed "aviary/aviarytop.TopUnion" = some 5 by kernel_rfl).symm.trans hf) |>.symm
  obtain rfl : fn = Tryz.f5 := (Option.some.inj (Tryz.func5.symm.trans hfn)).symm
  refine ⟨by kernel_rfl, fun j t ht => ?_⟩
  rw [Tryz.params5] at ht
  have n24 : Tryz.prog.wantsStandIn 24 = false := by kernel_rfl
  have n3 : Tryz.prog.wantsStandIn 3 = false := by kernel_rfl
  have n32 : Tryz.prog.wantsStandIn 32 = false := by kernel_rfl
  have n22 : Tryz.prog.wantsStandIn 22 = false := by kernel_rfl
  have hm := Array.mem_of_getElem? ht
  simp only [List.mem_toArray, List.mem_cons, List.not_mem_nil, or_false] at hm
  rcases hm with rfl | rfl | rfl | rfl | rfl <;> assumption

set_option maxRecDepth 100000 in
/-- THE CARD. -/
theorem proved : Rows.TopUnionCardSaid :=
  Claim7.holds_tied_plain_at .later [] _ _ _ _ said (fun _ h => by cases h) (by kernel_rfl) (fun _ h => by cases h) topUnion_row_tie rfl ⟨rfl, rfl⟩ (by kernel_rfl) rfl plain (by kernel_rfl)
#print axioms proved
end Go.Proofs.YtfcnedcahoifoaaGreatDoor.topUnion

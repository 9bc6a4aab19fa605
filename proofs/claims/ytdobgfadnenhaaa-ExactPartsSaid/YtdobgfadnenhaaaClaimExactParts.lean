/-
  PROVED: for every input, aviarylaw06.ExactParts returns true and leaves its arguments as they were (Rows.ExactPartsSaid). Conditions: none.
  The frame of the row's step follows the kit's proof-skeleton for 'Below'; the walks and the plain laws are our own.
-/
import Derived.Test.YtdobgfadnenhaaaRows
import Derived.Test.YtdobgfadnenhaaaExactParts
import Derived.Test.YtdobgfadnenhaaaExactParts2
import Derived.Test.YtdobgfadnenhaaaExactParts3
import Derived.Test.YtdobgfadnenhaaaRow
import Derived.WalkKit
import Derived.ProofKit
import Derived.OpenShut
import Derived.ShutString
import Derived.ChangeOld
import Derived.Below
namespace Go.Proofs.Ytdobgfadnenhaaa.exactParts
open Go.ChangeShapes Go.WideShapes Go.ChangeAt Go.RowKit
open Go.ChangeMaps (open_string shut_string)
set_option linter.unusedVariables false

theorem own : ownKnob Try.prog.godebug = none := by kernel_rfl
theorem laidOut : laidOutB Try.prog = true := by kernel_rfl

/-- What the walk is told of a slice of integers that came in. -/
def IsRow (k : IntKind) (w : World) (a : Option Addr) (len cap : Nat) (zs : List Int) : Prop :=
  (a = none ∧ len = 0 ∧ cap = 0 ∧ zs = []) ∨
  ∃ x, a = some x ∧ len ≤ cap ∧ cap ≤ maxLen ∧ zs.length = cap ∧ (∀ i, i < zs.length → w.cell? (x.add i) = some (.int k (zs.getD i 0))) ∧ ∀ n ∈ zs, (Lit.int k n).wf = true

/-! ### The walk -/
theorem walk (a0 : Option Addr) (len0 cap0 : Nat) (z0 : List Int) (a1 : Int) (w : World) (w0 : IsRow .u64 w a0 len0 cap0 z0) (w1 : (Lit.int .i64 a1).wf = true) :
    Calls Try.prog 7 #[.slice a0 len0 cap0, .int .i64 a1] w fun e w' => e = .returned (.bool true) ∧ Below w.heap.size w w' := by
  obtain ⟨l, rfl, hc, hm, hA, hS, _⟩ := isRow_sl w0
  unfold maxLen at hm
  have hx := hS.take 100
  have hk : (if (100 : Int) < (l.length : Int) then (100 : Int) else (l.length : Int)) = ((l.take 100).length : Int) := by rw [List.length_take]; split <;> omega
  have hq : (l.take 100).length ≤ cap0 := by rw [List.length_take]; omega
  have h100 : (l.take 100).length ≤ 100 := by rw [List.length_take]; omega
  generalize l.take 100 = x0 at hx hk hq h100
  obtain ⟨mu, hmu⟩ : ∃ mu, (if (x0.length : Int) < a1 then (x0.length : Int) else a1) = mu := ⟨_, rfl⟩
  have hmx : mu ≤ x0.length := by rw [← hmu]; split <;> omega
  obtain ⟨j, hj⟩ : ∃ j : Nat, (if 0 < mu then mu else 0) = (j : Int) := ⟨(if 0 < mu then mu else 0).toNat, by split <;> omega⟩
  have hjx : j ≤ x0.length := by split at hj <;> omega
  have hyl : (x0.take j).length = j := by rw [List.length_take]; omega
  have hat : (if 0 < mu then mu else 0) = ((x0.take j).length : Int) := by rw [hyl]; exact hj
  have hxy : ∀ t, t ∈ x0 ↔ t ∈ x0.take j ∨ t ∈ x0.drop j := fun t => by rw [← List.mem_append, List.take_append_drop]
  by_cases hcap : j = cap0
  · have hd : x0.drop j = [] := List.drop_eq_nil_of_le (by omega)
    rw [hd] at hxy
    have hcc : cap0 = (x0.take j).length := by omega
    rw [hcc]
    exact parts_cap w _ a1 a0 x0 (x0.take j) hx (hx.take j) hk mu hmu hat (by omega) (by omega) h100 (by omega) hxy
  · cases x0 with
    | nil =>
      have hj0 : j = 0 := by simpa using hjx
      subst hj0
      cases a0 with
      | none => exact absurd (hA rfl).symm hcap
      | some ad => exact parts_nil w _ cap0 a1 ad hx hx hx hk mu hmu hj (Nat.zero_le _) hm (by simp) (Nat.le_refl _) (by simp) (by omega)
    | cons t r =>
      obtain ⟨b, off, rfl, hb, _⟩ := hx.at_ (by simp)
      have hcut := hx.cut j cap0 hq
      rw [if_neg (by omega)] at hcut
      have hcut2 : Sl w w.heap.size (some ⟨b, off + ((t :: r).take j).length, none⟩) ((t :: r).drop j) := by
        have e : (some (⟨b, off, none⟩ : Addr)).map (·.add j) = some ⟨b, off + ((t :: r).take j).length, none⟩ := by rw [hyl]; simp [addr_add]
        rwa [e] at hcut
      exact parts_cut w _ cap0 a1 b off (t :: r) ((t :: r).take j) ((t :: r).drop j) hx (hx.take j) hcut2 hk mu hmu hat hq hm h100 (by omega) hxy (by omega) (by rw [List.length_drop]; omega)

/-! ### The row's step -/
set_option maxRecDepth 100000 in
theorem lifted (os : Os) (started : os.Started) (H : Type) (enc : TypeId × Value → H) :
    ReturnsInHanded {} Try.checked os 7 .any (Rows.exactPartsSpec.pre6 enc Try.prog Try.f7 Rows.exactPartsRow.domain false) (Rows.exactPartsSpec.post enc Try.prog Try.f7 false true false false) := by
  refine returnsInHanded_of_change (C := Try.checked) own started (by kernel_rfl) Try.func7
    (ChangeSpec.witness6 (enc := enc) (C := Try.checked) false ⟨#[], #[.slice none 0 0, .int .i64 0], []⟩ 8 (by kernel_rfl) (by kernel_rfl) (by kernel_rfl) (by kernel_rfl)) ?_
  intro W base args ds gs before hval0 hW hcnd _
  have hval : ∀ (j : Nat) t v, Try.f7.params[j]? = some t → args[j]? = some v → Value.okWide Try.prog W .any base t v := hval0
  have hW' := hW
  obtain ⟨p, q, hA0, hV, rfl, hfz, hnd⟩ := hW
  have hA : DataW.TrodAll enc Try.prog W 0 (fun _ => true) true Try.f7.params.toList args.toList ds p := hA0
  rw [Try.params7] at hA hval
  obtain ⟨v0, vs0, d0, ds0, p0, q0, hargs, rfl, rfl, h0, r0⟩ := trodAll_cons hA
  obtain ⟨v1, vs1, d1, ds1, p1, q1, rfl, rfl, rfl, h1, r1⟩ := trodAll_cons r0
  obtain ⟨rfl, rfl, rfl⟩ := trodAll_nil r1
  obtain rfl : args = #[v0, v1] := by cases args; simp_all
  obtain ⟨rfl, rfl⟩ := trodVars_none hV
  obtain ⟨a0, len0, cap0, rfl⟩ := okWide_slice Try.underlying22 (hval 0 22 v0 rfl rfl)
  have k0 := h0
  have lt0 : ∀ x ∈ p0, x.block < W.heap.size := by obtain ⟨m, hm⟩ := k0; exact DataW.trod_lt m _ _ _ hm
  obtain ⟨z0, w0⟩ : ∃ zs, IsRow .u64 W a0 len0 cap0 zs := by
    obtain ⟨fuel, hf⟩ := h0
    rcases open_ints Try.underlying22 Try.underlying25 (by kernel_rfl) hf with ⟨hcs, _⟩ | ⟨x, l, c, zs, hcs, _, hl, hm, hz, _, hcell, hwz⟩
    · simp [Value.cells] at hcs
      obtain ⟨rfl, rfl, rfl⟩ := hcs
      exact ⟨[], .inl ⟨rfl, rfl, rfl, rfl⟩⟩
    · simp [Value.cells] at hcs
      obtain ⟨rfl, rfl, rfl⟩ := hcs
      exact ⟨zs, .inr ⟨_, rfl, hl, hm, by simpa using hz, hcell, hwz⟩⟩
  obtain ⟨a1, rfl, rfl, rfl, w1⟩ := open_int Try.underlying3 (hval 1 3 v1 rfl rfl) h1
  clear hA0 hval0
  refine (walk a0 len0 cap0 z0 a1 W w0 w1).mono fun e W' ⟨he, bel⟩ => ?_
  subst he
  exact ⟨_, rfl, _, _, _, [], _, [], hW', trodAll_mk1 (shut_bool Try.underlying4 _), (trodAll_cons_mk (Below.trod laidOut (by kernel_rfl) (of_decide_eq_true (by kernel_rfl)) k0 bel lt0) (trodAll_cons_mk (shut_int Try.underlying3 w1) trodAll_mk0)), rfl, bel.frame _, fun h => by cases h⟩

theorem over : Rows.exactPartsRow.holds Try.pinned (OpenSpec.ofChange Rows.exactPartsSpec) :=
  OpenClaim.holds_of_wide 7 Try.f7 rfl rfl rfl rfl rfl rfl rfl ⟨rfl, rfl, rfl, rfl, rfl⟩ rfl rfl rfl rfl rfl (by kernel_rfl) Try.func7 (by kernel_rfl)
    (of_decide_eq_true (by kernel_rfl)) (by unfold Func.isWrapper; first | (rw [if_pos (by decide +kernel)]; kernel_rfl) | (rw [if_neg (by decide +kernel)]; exact ⟨rfl, rfl⟩))
    (fun os started H enc _ => lifted os started H enc)

theorem proved : Rows.ExactPartsSaid := over
#print axioms proved
end Go.Proofs.Ytdobgfadnenhaaa.exactParts

/-
  Merged out of: HistPlain HistList HistWalk1 HistBucket Fwd Bins HistBounds HistRight HistAdd HistEq HistSame.
-/
import Derived.IntWalk
import Derived.ScopeJumps
import Derived.WalkMore
import Derived.WalkKit
import Derived.Laws.BitsAllLaws
import Derived.Laws.StructEq
import Derived.Test.YtoffmclbnobllaaGreatDoorCkBase
import Derived.Test.YtoffmclbnobllaaGreatDoorRows
namespace Go.Proofs.YtoffmclbnobllaaGreatDoor.Hi
section
/-- A bucket's bounds. -/
def bnd (f a : Nat) : Option (Nat × Nat) :=
  if a = 0 then some (0, 0)
  else if 64 ≤ (a - 1) / 2 ^ f then none
  else if f ≤ (a - 1) / 2 ^ f then some (2 ^ ((a - 1) / 2 ^ f) + (a - 1) % 2 ^ f * 2 ^ ((a - 1) / 2 ^ f - f), 2 ^ ((a - 1) / 2 ^ f) + (a - 1) % 2 ^ f * 2 ^ ((a - 1) / 2 ^ f - f) + (2 ^ ((a - 1) / 2 ^ f - f) - 1))
  else if (a - 1) % 2 ^ f % 2 ^ (f - (a - 1) / 2 ^ f) = 0 then some (2 ^ ((a - 1) / 2 ^ f) + (a - 1) % 2 ^ f / 2 ^ (f - (a - 1) / 2 ^ f), 2 ^ ((a - 1) / 2 ^ f) + (a - 1) % 2 ^ f / 2 ^ (f - (a - 1) / 2 ^ f))
  else none
end
section
set_option linter.unusedVariables false
abbrev Bins := List (Int × Int)
def cap (a : Int) : Int := min a 18446744073709551615
end
section
open Go.RowKit
set_option linter.unusedVariables false
def fineB (f : Int) : Bool := decide (0 ≤ f ∧ f ≤ 3)
theorem fine_of {f : Int} (h : fineB f = true) : 0 ≤ f ∧ f ≤ 3 := by simpa [fineB] using h
theorem isFine_any (b : Int) (w : World) : Calls Tryz.prog 91 #[.int .i64 b] w fun e w' => e = .returned (.bool (fineB b)) ∧ w = w' := by
  by_cases h1 : 0 ≤ b
  · by_cases h2 : b ≤ 3
    · go_enter Tryz.func91, Tryz.ntmps91
      go_wp2
      go_ret
      exact ⟨ret_bool (by simp [fineB]; omega), rfl⟩
    · go_enter Tryz.func91, Tryz.ntmps91
      go_wp2
      go_ret
      exact ⟨ret_bool (by simp [fineB]; omega), rfl⟩
  · go_enter Tryz.func91, Tryz.ntmps91
    go_wp2
    go_ret
    exact ⟨ret_bool (by simp [fineB]; omega), rfl⟩
end
section
open Go.RowKit
set_option linter.unusedVariables false
end
section
open Go.RowKit
theorem wp_scope_fwd {P : Program} {a : Act} {w : World} {Q : Exit → Act → World → Prop} {c rest : Code} (l : Nat) (hf : findLabel c l = some rest)
    (first : c.wp P (Exit.jump l (fun a w => rest.wp P (Exit.noGoto Q) a w) Q) a w) : (Code.scope c).wp P Q a w :=
  wp_scope_jumps l _ (fun _ _ => 0) hf first (fun a w h => Code.wp_mono (fun e a' w' hq => by cases e <;> first | exact hq | exact False.elim hq) h)
section
variable {l : Nat} {J : Act → World → Prop} {Q : Exit → Act → World → Prop} {a : Act} {w : World}
end
end
section
open Go.RowKit
def I64 (x : Int) : Prop := -9223372036854775808 ≤ x ∧ x ≤ 9223372036854775807
/-- The cells of bins. -/
def flatB (l : List (Int × Int)) : List Value := l.flatMap fun x => [.int .i64 x.1, .int .u64 x.2]
def bth (l : List (Int × Int)) (k : Nat) : Int × Int := (l[k]?).getD (0, 0)
def UBs (l : List (Int × Int)) : Prop := ∀ x ∈ l, I64 x.1 ∧ U x.2
/-- A slice of items reads as l. -/
def Sb (w : World) (B : Nat) (A : Option Addr) (l : List (Int × Int)) : Prop := Rd w B A (flatB l)
theorem length_flatB (l : List (Int × Int)) : (flatB l).length = 2 * l.length := by
  induction l with
  | nil => rfl
  | cons x l ih => simp only [flatB, List.flatMap_cons, List.length_append, List.length_cons, List.length_nil] at ih ⊢; omega
theorem flatB_at : ∀ (l : List (Int × Int)) (j : Nat), j < l.length → (flatB l)[j * 2]? = some (.int .i64 (bth l j).1) ∧ (flatB l)[j * 2 + 1]? = some (.int .u64 (bth l j).2)
  | [], _, h => by simp at h
  | x :: l, 0, _ => by simp [flatB, bth]
  | x :: l, j + 1, h => by
    have := flatB_at l j (by simpa using h)
    have e1 : (flatB (x :: l))[(j + 1) * 2]? = (flatB l)[j * 2]? := by
      show ([_, _] ++ flatB l)[(j + 1) * 2]? = _
      rw [List.getElem?_append_right (by simp; omega)]
      congr 1
      simp; omega
    have e2 : (flatB (x :: l))[(j + 1) * 2 + 1]? = (flatB l)[j * 2 + 1]? := by
      show ([_, _] ++ flatB l)[(j + 1) * 2 + 1]? = _
      rw [List.getElem?_append_right (by simp; omega)]
      congr 1
      simp; omega
    have e3 : bth (x :: l) (j + 1) = bth l j := by simp [bth]
    rw [e1, e2, e3]
    exact this
theorem bth_U {l : List (Int × Int)} (h : UBs l) (j : Nat) : I64 (bth l j).1 ∧ U (bth l j).2 := by
  unfold bth
  cases e : l[j]? with
  | none => simp [U, I64]
  | some x => exact h x (List.mem_of_getElem? e)
theorem UBs.take {l : List (Int × Int)} (h : UBs l) (n : Nat) : UBs (l.take n) := fun x hx => h x (List.mem_of_mem_take hx)
theorem take_bth_succ {l : List (Int × Int)} {k : Nat} (h : k < l.length) : l.take (k + 1) = l.take k ++ [bth l k] := by
  rw [List.take_succ_eq_append_getElem h]; simp [bth, h]
section
variable {w w' : World} {B B' : Nat} {A : Option Addr} {l : List (Int × Int)}
theorem Sb.at_ (h : Sb w B A l) (hl : 0 < l.length) : ∃ b off, A = some ⟨b, off, none⟩ ∧ b < B ∧ ∀ j, j < l.length → w.cell? ⟨b, off + j * 2, none⟩ = some (.int .i64 (bth l j).1) ∧ w.cell? ⟨b, off + j * 2 + 1, none⟩ = some (.int .u64 (bth l j).2) := by
  obtain ⟨b, off, e, hb, hc⟩ := Rd.at_ h (by rw [length_flatB]; omega)
  refine ⟨b, off, e, hb, fun j hj => ?_⟩
  obtain ⟨h1, h2⟩ := flatB_at l j hj
  exact ⟨hc _ _ h1, by rw [Nat.add_assoc]; exact hc _ _ h2⟩
theorem flatB_take (l : List (Int × Int)) (n : Nat) : flatB (l.take n) = (flatB l).take (2 * n) := by
  induction l generalizing n with
  | nil => simp [flatB]
  | cons x l ih =>
    cases n with
    | zero => simp [flatB]
    | succ n =>
      have : 2 * (n + 1) = 2 * n + 1 + 1 := by omega
      rw [this]
      simp only [List.take_succ_cons, flatB, List.flatMap_cons, List.cons_append, List.nil_append] at ih ⊢
      rw [ih]
theorem Sb.take (h : Sb w B A l) (n : Nat) : Sb w B A (l.take n) := by
  unfold Sb; rw [flatB_take]; exact Rd.take h _
end
end
section
open Go.RowKit
set_option linter.unusedVariables false
theorem drewN_two (w : World) (a b : Nat) : (w.drewN a).drewN b = w.drewN (a + b) := by
  exact World.drewN_drewN w a b
theorem and_low {f A : Nat} (hf : f ≤ 3) (hA : A < 9223372036854775807) : bits .and .i64 (A : Int) (wrap64 (wrap64 (2 ^ f) - 1)) = ((A % 2 ^ f : Nat) : Int) := by
  have hp : 2 ^ f ≤ 8 := Nat.pow_le_pow_right (n := 2) (by decide) hf
  have hp1 : 1 ≤ 2 ^ f := Nat.two_pow_pos f
  have e0 : (2 : Int) ^ f = ((2 ^ f : Nat) : Int) := by simp
  have e1 : wrap64 (wrap64 ((2 : Int) ^ f) - 1) = ((2 ^ f - 1 : Nat) : Int) := by
    rw [e0, IntWalk.wrap64_in ((2 ^ f : Nat) : Int) (by omega), IntWalk.wrap64_in _ (by omega)]; omega
  rw [e1]
  have key : (BitVec.ofInt 64 (A : Int) &&& BitVec.ofInt 64 ((2 ^ f - 1 : Nat) : Int)).toNat = A % 2 ^ f := by
    rw [BitVec.toNat_and, ofInt_u64 A (by omega), ofInt_u64 _ (by omega), Nat.and_two_pow_sub_one_eq_mod]
  show IntKind.i64.wrap ((BitVec.ofInt 64 (A : Int) &&& BitVec.ofInt 64 ((2 ^ f - 1 : Nat) : Int)).toNat : Nat) = _
  have hm : A % 2 ^ f < 2 ^ f := Nat.mod_lt _ hp1
  rw [key, IntKind.wrap_i64]
  omega
theorem shr_f (f A : Nat) : (A : Int) / 2 ^ f = ((A / 2 ^ f : Nat) : Int) := by simp
def wideB (f b p : Nat) : Bool := decide (2 ^ f ≤ p) || decide (b < f) ||
    (bits .or .u64 (IntKind.u64.wrap (2 ^ b)) (IntKind.u64.wrap ((p : Int) * 2 ^ (b - f))) == ((2 ^ b + p * 2 ^ (b - f) : Nat) : Int) &&
    bits .or .u64 (bits .or .u64 (IntKind.u64.wrap (2 ^ b)) (IntKind.u64.wrap ((p : Int) * 2 ^ (b - f)))) (IntKind.u64.wrap (IntKind.u64.wrap (2 ^ (b - f)) - 1)) == ((2 ^ b + p * 2 ^ (b - f) + (2 ^ (b - f) - 1) : Nat) : Int))
theorem wide_all : ((List.range 4).all fun f => (List.range 64).all fun b => (List.range 8).all fun p => wideB f b p) = true := by decide +kernel
theorem all3 {P : Nat → Nat → Nat → Bool} {n m k : Nat} (h : ((List.range n).all fun f => (List.range m).all fun b => (List.range k).all fun p => P f b p) = true) {f b p : Nat} (hf : f < n) (hb : b < m) (hp : p < k) : P f b p = true :=
  List.all_eq_true.1 (List.all_eq_true.1 (List.all_eq_true.1 h f (List.mem_range.2 hf)) b (List.mem_range.2 hb)) p (List.mem_range.2 hp)
theorem wide_val (f : Nat) (hf : f < 4) (b : Nat) (hb : b < 64) (p : Nat) (hp : p < 8) (h1 : p < 2 ^ f) (h2 : f ≤ b) :
    bits .or .u64 (IntKind.u64.wrap (2 ^ b)) (IntKind.u64.wrap ((p : Int) * 2 ^ (b - f))) = ((2 ^ b + p * 2 ^ (b - f) : Nat) : Int) ∧
    bits .or .u64 (bits .or .u64 (IntKind.u64.wrap (2 ^ b)) (IntKind.u64.wrap ((p : Int) * 2 ^ (b - f)))) (IntKind.u64.wrap (IntKind.u64.wrap (2 ^ (b - f)) - 1)) = ((2 ^ b + p * 2 ^ (b - f) + (2 ^ (b - f) - 1) : Nat) : Int) := by
  have := all3 wide_all hf hb hp
  unfold wideB at this
  rw [decide_eq_false (by omega), decide_eq_false (by omega), Bool.false_or, Bool.false_or, Bool.and_eq_true, beq_iff_eq, beq_iff_eq] at this
  exact this
def thinB (f b p : Nat) : Bool := decide (2 ^ f ≤ p) || decide (f ≤ b) ||
    (bits .or .u64 (IntKind.u64.wrap (2 ^ b)) ((p : Int) / 2 ^ (f - b)) == ((2 ^ b + p / 2 ^ (f - b) : Nat) : Int) &&
    (bits .and .i64 (p : Int) (wrap64 (wrap64 (2 ^ (f - b)) - 1)) == 0) == decide (p % 2 ^ (f - b) = 0))
theorem thin_all : ((List.range 4).all fun f => (List.range 4).all fun b => (List.range 8).all fun p => thinB f b p) = true := by decide +kernel
theorem thin_val (f : Nat) (hf : f < 4) (b : Nat) (hb : b < 4) (p : Nat) (hp : p < 8) (h1 : p < 2 ^ f) (h2 : b < f) :
    bits .or .u64 (IntKind.u64.wrap (2 ^ b)) ((p : Int) / 2 ^ (f - b)) = ((2 ^ b + p / 2 ^ (f - b) : Nat) : Int) ∧
    (bits .and .i64 (p : Int) (wrap64 (wrap64 (2 ^ (f - b)) - 1)) == 0) = decide (p % 2 ^ (f - b) = 0) := by
  have := all3 thin_all hf hb hp
  unfold thinB at this
  rw [decide_eq_false (by omega), decide_eq_false (by omega), Bool.false_or, Bool.false_or, Bool.and_eq_true, beq_iff_eq, beq_iff_eq] at this
  exact this
theorem mod_f {f : Nat} (hf : f ≤ 3) (A : Nat) : A % 2 ^ f < 2 ^ f ∧ A % 2 ^ f < 8 := by
  have hp : 2 ^ f ≤ 8 := Nat.pow_le_pow_right (n := 2) (by decide) hf
  have := Nat.mod_lt A (Nat.two_pow_pos f)
  omega
theorem bounds_over (f A : Nat) (hf : f ≤ 3) (hA : A < 9223372036854775807) (hb : 64 ≤ A / 2 ^ f) (w : World) :
    Calls Tryz.prog 92 #[.int .i64 f, .int .i64 (A + 1)] w fun e w' => e = .returned (.tuple #[.int .u64 0, .int .u64 0, .bool false]) ∧ ∃ n, w' = w.drewN n := by
  have HB := Lib.hid (show fineB f = true by simp [fineB]; omega)
  have h1 : (((A : Int) + 1) == 0) = false := by simp; omega
  have q1 := shr_f f A
  have q2 := and_low hf hA
  generalize A / 2 ^ f = b at *
  generalize A % 2 ^ f = p at *
  go_enter Tryz.func92, Tryz.ntmps92
  go_wp2_with fail
  refine wp_scope_fwd 0 rfl ?_
  go_wp2_with fail
  refine (isFine_any _ _).mono ?_
  rintro e w' ⟨rfl, rfl⟩
  rw [HB.out]
  go_wp2_with fail
  go_quiet (fail)
  go_wp2_with fail
  go_step3
  refine And.intro (Eq.refl 0) ?_
  dsimp only
  go_wp2_with fail
  rw [Exit.noGoto_ret]
  exact bodyPost_ret (v := .tuple #[.int .u64 0, .int .u64 0, .bool false]) (by simp [results, Tryz.results92, go_sem]) rfl ⟨rfl, nq, rfl⟩
theorem bounds_wide (f A : Nat) (hf : f ≤ 3) (hA : A < 9223372036854775807) (hb : A / 2 ^ f < 64) (hfb : f ≤ A / 2 ^ f) (w : World) :
    Calls Tryz.prog 92 #[.int .i64 f, .int .i64 (A + 1)] w fun e w' => e = .returned (.tuple #[.int .u64 ((2 ^ (A / 2 ^ f) + A % 2 ^ f * 2 ^ (A / 2 ^ f - f) : Nat) : Int), .int .u64 ((2 ^ (A / 2 ^ f) + A % 2 ^ f * 2 ^ (A / 2 ^ f - f) + (2 ^ (A / 2 ^ f - f) - 1) : Nat) : Int), .bool true]) ∧ ∃ n, w' = w.drewN n := by
  have HB := Lib.hid (show fineB f = true by simp [fineB]; omega)
  have h1 : (((A : Int) + 1) == 0) = false := by simp; omega
  have q1 := shr_f f A
  have q2 := and_low hf hA
  obtain ⟨m1, m2⟩ := mod_f hf A
  have HV := Lib.hid (wide_val f (by omega) _ hb _ m2 m1 hfb)
  generalize A / 2 ^ f = b at *
  generalize A % 2 ^ f = p at *
  go_enter Tryz.func92, Tryz.ntmps92
  go_wp2_with fail
  go_step3
  go_wp2_with fail
  refine (isFine_any _ _).mono ?_
  rintro e w' ⟨rfl, rfl⟩
  rw [HB.out]
  go_wp2_with fail
  go_quiet (fail)
  go_wp2_with fail
  go_quiet (fail)
  go_wp2_with fail
  rw [Exit.noGoto_ret]
  refine bodyPost_ret (v := .tuple #[.int .u64 (bits .or .u64 (IntKind.u64.wrap (2 ^ b)) (IntKind.u64.wrap ((p : Int) * 2 ^ (b - f)))), .int .u64 (bits .or .u64 (bits .or .u64 (IntKind.u64.wrap (2 ^ b)) (IntKind.u64.wrap ((p : Int) * 2 ^ (b - f)))) (IntKind.u64.wrap (IntKind.u64.wrap (2 ^ (b - f)) - 1))), .bool true]) (by simp [results, Tryz.results92, go_sem]) rfl ⟨?_, _, (drewN_two _ _ _)⟩
  rw [HV.out.1, ← HV.out.2, HV.out.1]
theorem bounds_thin (f A : Nat) (hf : f ≤ 3) (hA : A < 9223372036854775807) (hfb : A / 2 ^ f < f) (hd : A % 2 ^ f % 2 ^ (f - A / 2 ^ f) = 0) (w : World) :
    Calls Tryz.prog 92 #[.int .i64 f, .int .i64 (A + 1)] w fun e w' => e = .returned (.tuple #[.int .u64 ((2 ^ (A / 2 ^ f) + A % 2 ^ f / 2 ^ (f - A / 2 ^ f) : Nat) : Int), .int .u64 ((2 ^ (A / 2 ^ f) + A % 2 ^ f / 2 ^ (f - A / 2 ^ f) : Nat) : Int), .bool true]) ∧ ∃ n, w' = w.drewN n := by
  have HB := Lib.hid (show fineB f = true by simp [fineB]; omega)
  have h1 : (((A : Int) + 1) == 0) = false := by simp; omega
  have q1 := shr_f f A
  have q2 := and_low hf hA
  obtain ⟨m1, m2⟩ := mod_f hf A
  obtain ⟨hv, ht⟩ := thin_val f (by omega) (A / 2 ^ f) (by omega) _ m2 m1 hfb
  have HV := Lib.hid hv
  rw [decide_eq_true hd] at ht
  clear hv hd
  generalize A / 2 ^ f = b at *
  generalize A % 2 ^ f = p at *
  go_enter Tryz.func92, Tryz.ntmps92
  go_wp2_with fail
  go_step3
  go_wp2_with fail
  refine (isFine_any _ _).mono ?_
  rintro e w' ⟨rfl, rfl⟩
  rw [HB.out]
  go_wp2_with fail
  go_quiet (fail)
  go_wp2_with fail
  rw [Exit.noGoto_ret]
  refine bodyPost_ret (v := .tuple #[.int .u64 (bits .or .u64 (IntKind.u64.wrap (2 ^ b)) ((p : Int) / 2 ^ (f - b))), .int .u64 (bits .or .u64 (IntKind.u64.wrap (2 ^ b)) ((p : Int) / 2 ^ (f - b))), .bool true]) (by simp [results, Tryz.results92, go_sem]) rfl ⟨?_, nq, rfl⟩
  rw [HV.out]
theorem bounds_none (f A : Nat) (hf : f ≤ 3) (hA : A < 9223372036854775807) (hfb : A / 2 ^ f < f) (hd : ¬ A % 2 ^ f % 2 ^ (f - A / 2 ^ f) = 0) (w : World) :
    Calls Tryz.prog 92 #[.int .i64 f, .int .i64 (A + 1)] w fun e w' => e = .returned (.tuple #[.int .u64 0, .int .u64 0, .bool false]) ∧ ∃ n, w' = w.drewN n := by
  have HB := Lib.hid (show fineB f = true by simp [fineB]; omega)
  have h1 : (((A : Int) + 1) == 0) = false := by simp; omega
  have q1 := shr_f f A
  have q2 := and_low hf hA
  obtain ⟨m1, m2⟩ := mod_f hf A
  obtain ⟨_, ht⟩ := thin_val f (by omega) (A / 2 ^ f) (by omega) _ m2 m1 hfb
  rw [decide_eq_false hd] at ht
  clear hd
  generalize A / 2 ^ f = b at *
  generalize A % 2 ^ f = p at *
  go_enter Tryz.func92, Tryz.ntmps92
  go_wp2_with fail
  go_step3
  go_wp2_with fail
  refine (isFine_any _ _).mono ?_
  rintro e w' ⟨rfl, rfl⟩
  rw [HB.out]
  go_wp2_with fail
  go_quiet (fail)
  go_wp2_with fail
  go_step3
  go_wp2_with fail
  rw [Exit.noGoto_ret]
  exact bodyPost_ret (v := .tuple #[.int .u64 0, .int .u64 0, .bool false]) (by simp [results, Tryz.results92, go_sem]) rfl ⟨rfl, nq, rfl⟩
theorem bounds_zero (f : Nat) (hf : f ≤ 3) (w : World) :
    Calls Tryz.prog 92 #[.int .i64 f, .int .i64 0] w fun e w' => e = .returned (.tuple #[.int .u64 0, .int .u64 0, .bool true]) ∧ ∃ n, w' = w.drewN n := by
  have HB := Lib.hid (show fineB f = true by simp [fineB]; omega)
  go_enter Tryz.func92, Tryz.ntmps92
  go_wp2_with fail
  go_step3
  go_wp2_with fail
  refine (isFine_any _ _).mono ?_
  rintro e w' ⟨rfl, rfl⟩
  rw [HB.out]
  go_wp2_with fail
  rw [Exit.noGoto_ret]
  exact bodyPost_ret (v := .tuple #[.int .u64 0, .int .u64 0, .bool true]) (by simp [results, Tryz.results92, go_sem]) rfl ⟨rfl, 0, rfl⟩
theorem bounds_bad (f a : Int) (hf : fineB f = false) (w : World) :
    Calls Tryz.prog 92 #[.int .i64 f, .int .i64 a] w fun e w' => e = .returned (.tuple #[.int .u64 0, .int .u64 0, .bool false]) ∧ ∃ n, w' = w.drewN n := by
  have HB := Lib.hid hf
  clear hf
  go_enter Tryz.func92, Tryz.ntmps92
  go_wp2_with fail
  refine wp_scope_fwd 0 rfl ?_
  go_wp2_with fail
  refine (isFine_any _ _).mono ?_
  rintro e w' ⟨rfl, rfl⟩
  rw [HB.out]
  go_wp2_with fail
  go_step3
  refine And.intro (Eq.refl 0) ?_
  dsimp only
  go_wp2_with fail
  rw [Exit.noGoto_ret]
  exact bodyPost_ret (v := .tuple #[.int .u64 0, .int .u64 0, .bool false]) (by simp [results, Tryz.results92, go_sem]) rfl ⟨rfl, 0, rfl⟩
theorem bounds_neg (f a : Int) (hf : fineB f = true) (ha : a < 0) (w : World) :
    Calls Tryz.prog 92 #[.int .i64 f, .int .i64 a] w fun e w' => e = .returned (.tuple #[.int .u64 0, .int .u64 0, .bool false]) ∧ ∃ n, w' = w.drewN n := by
  have HB := Lib.hid hf
  clear hf
  go_enter Tryz.func92, Tryz.ntmps92
  go_wp2_with fail
  refine wp_scope_fwd 0 rfl ?_
  go_wp2_with fail
  refine (isFine_any _ _).mono ?_
  rintro e w' ⟨rfl, rfl⟩
  rw [HB.out]
  go_wp2_with fail
  go_step3
  refine And.intro (Eq.refl 0) ?_
  dsimp only
  go_wp2_with fail
  rw [Exit.noGoto_ret]
  exact bodyPost_ret (v := .tuple #[.int .u64 0, .int .u64 0, .bool false]) (by simp [results, Tryz.results92, go_sem]) rfl ⟨rfl, 0, rfl⟩
/-- What Bounds tells. -/
def boundsF (f a : Int) : Int × Int × Bool :=
  if fineB f = true ∧ 0 ≤ a then match bnd f.toNat a.toNat with | some q => ((q.1 : Nat), (q.2 : Nat), true) | none => (0, 0, false) else (0, 0, false)
abbrev bdV (q : Int × Int × Bool) : Value := .tuple #[.int .u64 q.1, .int .u64 q.2.1, .bool q.2.2]
theorem boundsF_nat {f a : Nat} (hf : f ≤ 3) : boundsF f a = match bnd f a with | some q => ((q.1 : Nat), (q.2 : Nat), true) | none => (0, 0, false) := by
  have : fineB f = true := by simp [fineB]; omega
  unfold boundsF; rw [if_pos ⟨this, by omega⟩]; simp
theorem bounds_any (f a : Int) (ha : I64 a) (w : World) :
    Calls Tryz.prog 92 #[.int .i64 f, .int .i64 a] w fun e w' => e = .returned (bdV (boundsF f a)) ∧ ∃ n, w' = w.drewN n := by
  cases h : fineB f with
  | false => have e : boundsF f a = (0, 0, false) := by unfold boundsF; rw [if_neg (by simp [h])]
             rw [e]; exact bounds_bad f a h w
  | true =>
    obtain ⟨h1, h2⟩ := fine_of h
    obtain ⟨F, rfl⟩ := Int.eq_ofNat_of_zero_le h1
    by_cases hn : a < 0
    · have e : boundsF F a = (0, 0, false) := by unfold boundsF; rw [if_neg (by omega)]
      rw [e]; exact bounds_neg F a h hn w
    · obtain ⟨a, rfl⟩ := Int.eq_ofNat_of_zero_le (show 0 ≤ a by omega)
      rw [boundsF_nat (by omega)]
      unfold I64 at ha
      cases a with
      | zero => exact bounds_zero F (by omega) w
      | succ A =>
        unfold bnd
        rw [if_neg (by omega), Nat.add_sub_cancel]
        have hF : F ≤ 3 := by omega
        have hA : A < 9223372036854775807 := by omega
        by_cases c1 : 64 ≤ A / 2 ^ F
        · rw [if_pos c1]; exact bounds_over F A hF hA c1 w
        · rw [if_neg c1]
          by_cases c2 : F ≤ A / 2 ^ F
          · rw [if_pos c2]; exact bounds_wide F A hF hA (by omega) c2 w
          · rw [if_neg c2]
            by_cases c3 : A % 2 ^ F % 2 ^ (F - A / 2 ^ F) = 0
            · rw [if_pos c3]; exact bounds_thin F A hF hA (by omega) c3 w
            · rw [if_neg c3]; exact bounds_none F A hF hA (by omega) c3 w
end
section
open Go.RowKit
set_option linter.unusedVariables false
/-- The place ahead of number k. -/
def bef (l : Bins) (k : Nat) : Int := if k = 0 then -1 else (bth l (k - 1)).1
/-- Is bin k right? -/
def okI (f : Int) (l : Bins) (k : Nat) : Bool := (bth l k).2 != 0 && ((boundsF f (bth l k).1).2.2 && decide (bef l k < (bth l k).1))
def okTo (f : Int) (l : Bins) (k : Nat) : Bool := (List.range k).all (okI f l)
/-- Are bins a histogram? -/
def rightB (f : Int) (l : Bins) : Bool := fineB f && okTo f l l.length
theorem okTo_succ (f : Int) (l : Bins) (k : Nat) : okTo f l (k + 1) = (okTo f l k && okI f l k) := by
  unfold okTo; rw [List.range_succ, List.all_append]; simp
theorem okTo_bad {f : Int} {l : Bins} {k : Nat} (hk : k < l.length) (h : okI f l k = false) : okTo f l l.length = false := by
  unfold okTo
  rw [List.all_eq_false]
  exact ⟨k, List.mem_range.2 hk, by simp [h]⟩
theorem bef_succ (l : Bins) (k : Nat) : bef l (k + 1) = (bth l k).1 := by simp [bef]
def RightI (w : World) (f : Int) (A : Option Addr) (n cap : Nat) (wr : World) : Prop :=
  Blk wr w.heap.size 46 #[.int .i64 f, .slice A n cap] ∧ Below w.heap.size w wr
theorem below_drew {a w : World} (h : Below a.heap.size a w) (n : Nat) : Below a.heap.size a (w.drewN n) := below_drewN h n
theorem _root_.Go.Proofs.YtoffmclbnobllaaGreatDoor.Blk.drewN {w : World} {g : Nat} {t : TypeId} {cs : Array Value} (h : Blk w g t cs) (n : Nat) : Blk (w.drewN n) g t cs := h
theorem _root_.Go.Proofs.YtoffmclbnobllaaGreatDoor.Blk.d0 {w : World} {g : Nat} {t : TypeId} {a b : Value} (h : Blk w g t #[a, b]) : w.cell? ⟨g, 0, none⟩ = some a := h.cell 0
theorem _root_.Go.Proofs.YtoffmclbnobllaaGreatDoor.Blk.d1 {w : World} {g : Nat} {t : TypeId} {a b : Value} (h : Blk w g t #[a, b]) : w.cell? ⟨g, 1, none⟩ = some b := h.cell 1
set_option maxHeartbeats 2000000 in
theorem right_any (f : Int) (A : Option Addr) (l : Bins) (cap : Nat) (hU : UBs l) (hl : l.length ≤ 9223372036854775807) (w : World) (hS : Sb w w.heap.size A l) :
    Calls Tryz.prog 86 #[.agg #[.int .i64 f, .slice A l.length cap]] w fun e w' => e = .returned (.bool (rightB f l)) ∧ Below w.heap.size w w' := by
  have T : Below w.heap.size w (w.alloc (.cells #[.int .i64 f, .slice A l.length cap] 46)) := below_al (below_0 _) _
  have X := Lib.hid (Blk.new w 46 #[.int .i64 f, .slice A l.length cap])
  have HS := Lib.hid hS
  clear hS
  cases hf : fineB f with
  | false =>
    have HF := Lib.hid hf
    clear hf
    go_enter Tryz.func86, Tryz.ntmps86
    go_wp2_with fail
    refine (isFine_any _ _).mono ?_
    rintro e w' ⟨rfl, rfl⟩
    rw [HF.out]
    go_wp2_with fail
    go_ret
    exact ⟨ret_bool (by simp [rightB, HF.out]), T⟩
  | true =>
    have HF := Lib.hid hf
    clear hf
    go_enter Tryz.func86, Tryz.ntmps86
    go_wp2_with fail
    refine (isFine_any _ _).mono ?_
    rintro e w' ⟨rfl, rfl⟩
    rw [HF.out]
    go_wp2_with fail
    have HI : Hid (RightI w f A l.length cap (w.alloc (.cells #[.int .i64 f, .slice A l.length cap] 46))) := ⟨X.out, T⟩
    clear X T
    go_loopw [3, 16] (fun b i wr => ∃ k : Nat, k ≤ l.length ∧ i = .int .i64 k ∧ b = .int .i64 (bef l k) ∧ Hid (okTo f l k = true) ∧ RightI w f A l.length cap wr) (fun _ i _ => l.length - (intOf i).toNat)
    case atStart => exact ⟨0, Nat.zero_le _, rfl, rfl, rfl, HI.out⟩
    case round =>
      obtain ⟨k, hk, rfl, rfl, HK, X, T⟩ := hrel
      clear HI
      have x0 := X.d0
      have x1 := X.d1
      have zx := X.lt
      have HX := Lib.hid X
      clear X
      by_cases hlt : k < l.length
      · obtain ⟨b, off, rfl, hb, hcs⟩ := HS.out.at_ (by omega)
        obtain ⟨h1, h2⟩ := hcs k hlt
        have i1 := (T.cell (p := ⟨b, off + k * 2, none⟩) hb).trans h1
        have i2 := (T.cell (p := ⟨b, off + k * 2 + 1, none⟩) hb).trans h2
        have hbw : b < wr.heap.size := by have := T.size; omega
        have HN : Hid (okTo f l (k + 1) = okI f l k) := by show _ = _; rw [okTo_succ, HK.out, Bool.true_and]
        have HB : Hid (okI f l k = false → okTo f l l.length = false) := fun h => okTo_bad hlt h
        have HV : Hid (okI f l k = ((bth l k).2 != 0 && ((boundsF f (bth l k).1).2.2 && decide (bef l k < (bth l k).1)))) := rfl
        have HB1 : Hid (bef l (k + 1) = (bth l k).1) := bef_succ l k
        obtain ⟨u1, u2⟩ := bth_U hU k
        generalize bth l k = it at *
        generalize bef l k = bf at *
        generalize hq : boundsF f it.1 = q at *
        have HQ := Lib.hid hq
        have hi1 : (0 : Int) ≤ (k : Int) := by omega
        have hi2 : (k : Int) < (l.length : Int) := by omega
        clear hcs h1 h2 hq
        by_cases c1 : it.2 = 0
        · have d1 : (it.2 == 0) = true := by simp [c1]
          have HR : Hid (okTo f l l.length = false) := HB.out (by rw [HV.out]; simp [c1])
          clear c1
          go_wp2_with fail
          refine (bounds_any _ _ u1 _).mono ?_
          rintro e w' ⟨rfl, n, rfl⟩
          rw [HQ.out]
          go_wp2_with fail
          go_ret
          exact ⟨ret_bool (by simp [rightB, HR.out]), below_drew (below_al T _) _⟩
        · have d1 : (it.2 == 0) = false := by simp [c1]
          by_cases c2 : q.2.2 = true
          · by_cases c3 : bf < it.1
            · have d3 : decide (it.1 ≤ bf) = false := by simp; omega
              have HR : Hid (okTo f l (k + 1) = true) := by show _ = _; rw [HN.out, HV.out, c2]; simp [c1, c3]
              clear c1
              go_wp2_with fail
              refine (bounds_any _ _ u1 _).mono ?_
              rintro e w' ⟨rfl, n, rfl⟩
              rw [HQ.out]
              go_wp2_with fail
              go_roundw
              case rel => exact ⟨k + 1, by omega, by go_num, by rw [HB1.out], HR, (HX.out.alloc _).drewN _, below_drew (below_al T _) _⟩
              case measure => simp [intOf]; omega
            · have d3 : decide (it.1 ≤ bf) = true := by simp; omega
              have HR : Hid (okTo f l l.length = false) := HB.out (by rw [HV.out]; simp [c3])
              clear c1
              go_wp2_with fail
              refine (bounds_any _ _ u1 _).mono ?_
              rintro e w' ⟨rfl, n, rfl⟩
              rw [HQ.out]
              go_wp2_with fail
              go_ret
              exact ⟨ret_bool (by simp [rightB, HR.out]), below_drew (below_al T _) _⟩
          · have c2' : q.2.2 = false := by simpa using c2
            have HR : Hid (okTo f l l.length = false) := HB.out (by rw [HV.out, c2']; simp)
            clear c1 c2
            go_wp2_with fail
            refine (bounds_any _ _ u1 _).mono ?_
            rintro e w' ⟨rfl, n, rfl⟩
            rw [HQ.out]
            go_wp2_with fail
            go_ret
            exact ⟨ret_bool (by simp [rightB, HR.out]), below_drew (below_al T _) _⟩
      · obtain rfl : k = l.length := by omega
        go_wp2_with fail
        go_ret
        exact ⟨ret_bool (by simp [rightB, HF.out, HK.out]), T⟩
end
section
open Go.RowKit
set_option linter.unusedVariables false
set_option linter.unusedSimpArgs false
theorem _root_.Go.Proofs.YtoffmclbnobllaaGreatDoor.Blk.new2 (w : World) (o : Obj) (t : TypeId) (cs : Array Value) : Blk ((w.alloc o).alloc (.cells cs t)) (w.heap.size + 1) t cs := by
  have h := Blk.new (w.alloc o) t cs
  have e : (w.alloc o).heap.size = w.heap.size + 1 := by simp
  rwa [e] at h
end
section
open Go.RowKit
theorem guard_bin (op : BinOp) (x y : Operand) (xs ys : Array Value) (w : World) : (eqGuard op 69 x y (.agg xs) (.agg ys)).run Tryz.prog w = .ok () w := run_eqGuard_agg w op _ x y xs ys (by kernel_rfl)
theorem eq_bin (a n b m : Int) (w : World) : (Op.equalIn 10000 69 (.agg #[.int .i64 a, .int .u64 n]) (.agg #[.int .i64 b, .int .u64 m])).run Tryz.prog w = .ok (a == b && n == m) w := by
  have ht : Tryz.prog.underlying 69 = some (.struct (Tryz.prog.fieldsOf 69)) := by kernel_rfl
  rw [run_equalIn_agg w 9999 _ _ _ ht (by kernel_rfl)]
  simp [Op.eqFields, Program.fieldsOf, Tryz.underlying69, go_sem]
  by_cases h1 : a = b <;> by_cases h2 : n = m <;> simp [h1, h2]
theorem neq_bin (p q : Int × Int) (d : Bool) (hd : d = decide (p ≠ q)) (w : World) : (binOp .neq 69 (.agg #[.int .i64 p.1, .int .u64 p.2]) (.agg #[.int .i64 q.1, .int .u64 q.2])).run Tryz.prog w = .ok (.bool d) w := by
  rw [run_neq_struct, eq_bin, hd]
  simp only [Result.andThen_ok]
  congr 2
  by_cases h1 : p.1 = q.1 <;> by_cases h2 : p.2 = q.2 <;> simp [h1, h2, Prod.ext_iff]
end
section
open Go.RowKit
set_option linter.unusedVariables false
set_option linter.unusedSimpArgs false
def sameH (f : Int) (l : Bins) (g : Int) (m : Bins) : Bool := decide (f = g ∧ l = m)
theorem bins_eq_take {l m : Bins} (h : l.length = m.length) (k : Nat) (hk : k = l.length) (he : l.take k = m.take k) : l = m := by
  subst hk
  rwa [List.take_of_length_le (Nat.le_refl _), List.take_of_length_le (by omega)] at he
theorem take_eq_succ {l m : Bins} {k : Nat} (h1 : k < l.length) (h2 : k < m.length) (he : l.take k = m.take k) (hb : bth l k = bth m k) : l.take (k + 1) = m.take (k + 1) := by
  rw [take_bth_succ h1, take_bth_succ h2, he, hb]
def SmI (w : World) (f g : Int) (A C : Option Addr) (n m cap capy : Nat) (wr : World) : Prop :=
  Blk wr w.heap.size 46 #[.int .i64 f, .slice A n cap] ∧ Blk wr (w.heap.size + 1) 46 #[.int .i64 g, .slice C m capy] ∧ Below w.heap.size w wr
set_option maxRecDepth 100000 in
set_option maxHeartbeats 2000000 in
theorem same_any (f g : Int) (A C : Option Addr) (l m : Bins) (cap capy : Nat) (hl : l.length ≤ 65536) (hm : m.length ≤ 65536) (w : World) (hS : Sb w w.heap.size A l) (hT : Sb w w.heap.size C m) :
    Calls Tryz.prog 79 #[.agg #[.int .i64 f, .slice A l.length cap], .agg #[.int .i64 g, .slice C m.length capy]] w fun e w' => e = .returned (.bool (sameH f l g m)) ∧ Below w.heap.size w w' := by
  have T : Below w.heap.size w ((w.alloc (.cells #[.int .i64 f, .slice A l.length cap] 46)).alloc (.cells #[.int .i64 g, .slice C m.length capy] 46)) := below_al (below_al (below_0 _) _) _
  have X := Lib.hid ((Blk.new w 46 #[.int .i64 f, .slice A l.length cap]).alloc (.cells #[.int .i64 g, .slice C m.length capy] 46))
  have Y := Lib.hid (Blk.new2 w (.cells #[.int .i64 f, .slice A l.length cap] 46) 46 #[.int .i64 g, .slice C m.length capy])
  have HS := Lib.hid hS
  have HT := Lib.hid hT
  clear hS hT
  by_cases c1 : f = g
  · subst c1
    by_cases c2 : l.length = m.length
    · have dl : ((l.length : Int) != (m.length : Int)) = false := by simp; omega
      have HL := Lib.hid c2
      have HI : Hid (SmI w f f A C l.length m.length cap capy ((w.alloc (.cells #[.int .i64 f, .slice A l.length cap] 46)).alloc (.cells #[.int .i64 f, .slice C m.length capy] 46))) := ⟨X.out, Y.out, T⟩
      clear c2 X Y T
      go_enter Tryz.func79, Tryz.ntmps79
      go_wp2_with fail
      go_loopw [24] (fun i wr => ∃ k : Nat, k ≤ l.length ∧ i = .int .i64 k ∧ Hid (l.take k = m.take k) ∧ SmI w f f A C l.length m.length cap capy wr) (fun i _ => l.length - (RowKit.intOf i).toNat)
      case atStart => exact ⟨0, Nat.zero_le _, rfl, rfl, HI.out⟩
      case round =>
        obtain ⟨k, hk, rfl, HE, X, Y, T⟩ := hrel
        clear HI
        have x0 := X.d0
        have x1 := X.d1
        have zx := X.lt
        have y1 := Y.d1
        have zy := Y.lt
        have HX := Lib.hid X
        have HY := Lib.hid Y
        clear X Y
        by_cases hlt : k < l.length
        · have hlt2 : k < m.length := by have := HL.out; omega
          obtain ⟨b, off, rfl, hb, hcs⟩ := HS.out.at_ (by omega)
          obtain ⟨b2, off2, rfl, hb2, hcs2⟩ := HT.out.at_ (by omega)
          obtain ⟨h1, h2⟩ := hcs k hlt
          obtain ⟨h3, h4⟩ := hcs2 k hlt2
          have i1 := (T.cell (p := ⟨b, off + k * 2, none⟩) hb).trans h1
          have i2 := (T.cell (p := ⟨b, off + k * 2 + 1, none⟩) hb).trans h2
          have i3 := (T.cell (p := ⟨b2, off2 + k * 2, none⟩) hb2).trans h3
          have i4 := (T.cell (p := ⟨b2, off2 + k * 2 + 1, none⟩) hb2).trans h4
          have hbw : b < wr.heap.size := by have := T.size; omega
          have hbw2 : b2 < wr.heap.size := by have := T.size; omega
          have HN : Hid (bth l k = bth m k → l.take (k + 1) = m.take (k + 1)) := fun h => take_eq_succ hlt hlt2 HE.out h
          have HD : Hid (bth l k ≠ bth m k → l ≠ m) := fun h e => h (by rw [e])
          generalize bth l k = p at *
          generalize bth m k = q at *
          have hi1 : (0 : Int) ≤ (k : Int) := by omega
          have hi2 : (k : Int) < (l.length : Int) := by omega
          have hi3 : (k : Int) < (m.length : Int) := by omega
          clear hcs hcs2 h1 h2 h3 h4
          have gb := guard_bin
          by_cases c : p = q
          · have nb := neq_bin p q false (by simp [c])
            have HE2 := Lib.hid (HN.out c)
            clear c
            go_wp2_with fail
            go_quiet (fail)
            go_wp2_with fail
            go_roundw
            case rel => exact ⟨k + 1, by omega, by go_num, HE2, (HX.out.alloc _).drewN _, (HY.out.alloc _).drewN _, below_drew (below_al T _) _⟩
            case measure => simp [RowKit.intOf]; omega
          · have nb := neq_bin p q true (by simp [c])
            have HE2 := Lib.hid (HD.out c)
            clear c
            go_wp2_with fail
            go_quiet (fail)
            go_wp2_with fail
            go_ret
            exact ⟨ret_bool (by simp [sameH, HE2.out]), below_drew (below_al T _) _⟩
        · obtain rfl : k = l.length := by omega
          have HR : Hid (l = m) := bins_eq_take HL.out _ rfl HE.out
          go_wp2_with fail
          go_ret
          exact ⟨ret_bool (by simp [sameH, HR.out]), T⟩
    · have dl : ((l.length : Int) != (m.length : Int)) = true := by simp; omega
      go_enter Tryz.func79, Tryz.ntmps79
      go_wp2_with fail
      go_ret
      exact ⟨ret_bool (by simp [sameH]; intro e; exact c2 (by rw [e])), T⟩
  · have d1 : (f != g) = true := by simp [c1]
    go_enter Tryz.func79, Tryz.ntmps79
    go_wp2_with fail
    go_ret
    exact ⟨ret_bool (by simp [sameH, c1]), T⟩
end
end Go.Proofs.YtoffmclbnobllaaGreatDoor.Hi

/-
  A scope in which the run jumps ahead to one label, once.
-/
import Derived.ScopeJumps
import Derived.WalkMore
import Derived.WalkKit
namespace Go.Proofs.Ytopddcabaiicgaa
open Go.RowKit
theorem wp_scope_fwd {P : Program} {a : Act} {w : World} {Q : Exit → Act → World → Prop} {c rest : Code} (l : Nat) (hf : findLabel c l = some rest)
    (first : c.wp P (Exit.jump l (fun a w => rest.wp P (Exit.noGoto Q) a w) Q) a w) : (Code.scope c).wp P Q a w :=
  wp_scope_jumps l _ (fun _ _ => 0) hf first (fun a w h => Code.wp_mono (fun e a' w' hq => by cases e <;> first | exact hq | exact False.elim hq) h)
section
variable {l : Nat} {J : Act → World → Prop} {Q : Exit → Act → World → Prop} {a : Act} {w : World}
theorem jump_normal : Exit.jump l J Q .normal a w = Q .normal a w := rfl
theorem jump_ret : Exit.jump l J Q .ret a w = Q .ret a w := rfl
theorem jump_goto : Exit.jump l J Q (.goto l) a w = J a w := by simp [Exit.jump]
end
end Go.Proofs.Ytopddcabaiicgaa

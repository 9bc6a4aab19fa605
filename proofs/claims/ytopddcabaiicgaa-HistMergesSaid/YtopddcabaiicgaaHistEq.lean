/-
  Two bins compared.
-/
import Derived.Test.YtopddcabaiicgaaHistAdd
import Derived.Laws.StructEq
namespace Go.Proofs.Ytopddcabaiicgaa
open Go.RowKit
theorem guard_bin (op : BinOp) (x y : Operand) (xs ys : Array Value) (w : World) : (eqGuard op 71 x y (.agg xs) (.agg ys)).run Try.prog w = .ok () w := run_eqGuard_agg w op _ x y xs ys (by kernel_rfl)
theorem eq_bin (a n b m : Int) (w : World) : (Op.equalIn 10000 71 (.agg #[.int .i64 a, .int .u64 n]) (.agg #[.int .i64 b, .int .u64 m])).run Try.prog w = .ok (a == b && n == m) w := by
  have ht : Try.prog.underlying 71 = some (.struct (Try.prog.fieldsOf 71)) := by kernel_rfl
  rw [run_equalIn_agg w 9999 _ _ _ ht (by kernel_rfl)]
  simp [Op.eqFields, Program.fieldsOf, Try.underlying71, go_sem]
  by_cases h1 : a = b <;> by_cases h2 : n = m <;> simp [h1, h2]
theorem neq_bin (p q : Int × Int) (d : Bool) (hd : d = decide (p ≠ q)) (w : World) : (binOp .neq 71 (.agg #[.int .i64 p.1, .int .u64 p.2]) (.agg #[.int .i64 q.1, .int .u64 q.2])).run Try.prog w = .ok (.bool d) w := by
  rw [run_neq_struct, eq_bin, hd]
  simp only [Result.andThen_ok]
  congr 2
  by_cases h1 : p.1 = q.1 <;> by_cases h2 : p.2 = q.2 <;> simp [h1, h2, Prod.ext_iff]
end Go.Proofs.Ytopddcabaiicgaa

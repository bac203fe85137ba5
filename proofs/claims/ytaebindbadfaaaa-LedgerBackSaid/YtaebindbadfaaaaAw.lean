
/- The walks of package amount and of its reference: each function once, with what it returns. -/
import Derived.Test.YtaebindbadfaaaaAm
import Derived.Test.YtaebindbadfaaaaMw2
import Derived.Test.YtaebindbadfaaaaBk
namespace Go.Proofs.Ytaebindbadfaaaa
open Go.RowKit
theorem am_eqIn (a b c d : Int) (W : World) : (Op.equalIn 10000 23 (.agg #[.int .i64 a, .int .i64 b]) (.agg #[.int .i64 c, .int .i64 d])).run Try.prog W = .ok (decide (a = c ∧ b = d)) W := by
  have h1 : Try.prog.stoodInHeld 23 = false := by kernel_rfl
  rw [run_equalIn_struct (d := 9999) _ _ _ _ (by simp [Program.fieldsOf, Try.underlying23]) h1]
  simp [Program.fieldsOf, Try.underlying23, Op.eqFields, go_sem, Try.underlying3]
  by_cases e1 : a = c <;> by_cases e2 : b = d <;> simp [e1, e2]
theorem am_eql (a b c d : Int) (W : World) : (binOp .eql 23 (.agg #[.int .i64 a, .int .i64 b]) (.agg #[.int .i64 c, .int .i64 d])).run Try.prog W = .ok (.bool (decide (a = c ∧ b = d))) W := by
  rw [run_eql_struct, am_eqIn]; rfl
theorem am_neq (a b c d : Int) (W : World) : (binOp .neq 23 (.agg #[.int .i64 a, .int .i64 b]) (.agg #[.int .i64 c, .int .i64 d])).run Try.prog W = .ok (.bool (!decide (a = c ∧ b = d))) W := by
  rw [run_neq_struct, am_eqIn]; rfl
theorem am_guard : Try.prog.eqGuardType Try.prog.depth 23 = false := by kernel_rfl
theorem am_zero (a b : Int) (W : World) : (binOp .eql 23 (.agg #[.int .i64 a, .int .i64 b]) (.agg #[.int .i64 0, .int .i64 0])).run Try.prog W = .ok (.bool (CL.zer ⟨a, b⟩)) W := am_eql a b 0 0 W
/-- an amount as a value -/
theorem ret_am {J : CL.Am} {a b : Int} (h : J = ⟨a, b⟩) : Ending.returned (.agg #[.int .i64 a, .int .i64 b]) = .returned (.agg #[.int .i64 J.m, .int .i64 J.u]) := by rw [h]
end Go.Proofs.Ytaebindbadfaaaa

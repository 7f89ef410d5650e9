/- Contracts of the document's own functions (chapters 08, 16, 17, 19) over one set of value types, written by the kit's print program. -/
import Derived.Test.YtehoojmalhloeaaPCx0
namespace Go.Proofs.Ytehoojmalhloeaa.PC
open Go.RowKit Go.Proofs.YtehoojmalhloeaaW.PrintWords Go.Proofs.YtehoojmalhloeaaW.PrintLast Go.Proofs.YtehoojmalhloeaaW.PrintMore
attribute [local go_sem] max2_int min2_int max_two min_two max_three min_three max_four min_four   -- for this text's walks alone
set_option linter.unusedVariables false
set_option linter.unusedSimpArgs false

theorem eqA42 (d : Nat) (w : World) (x0 y0 : ByteArray) (x1 y1 : Int) (x2 y2 : Int) :
    (Op.equalIn (d + 2) 42 (.agg #[.string x0, .int .u64 x1, .int .i64 x2]) (.agg #[.string y0, .int .u64 y1, .int .i64 y2])).run Try.prog w = .ok (x0.toList == y0.toList && (x1 == y1 && (x2 == y2))) w := by
  refine eqA_of Try.underlying42 (by kernel_rfl) ?_
  refine eqf_cons (by rfl) (by go_simp; rfl) (by go_simp; rfl) (by go_simp) ?_
  refine eqf_cons (by rfl) (by go_simp; rfl) (by go_simp; rfl) (by go_simp) ?_
  exact eqf_last (by rfl) (by go_simp; rfl) (by go_simp; rfl) (by go_simp)
theorem eqA44 (d : Nat) (w : World) (x0 y0 : ByteArray) (x1 y1 : Int) (x2 y2 : Int) (x3 y3 : ByteArray) :
    (Op.equalIn (d + 3) 44 (.agg #[.string x0, .int .u64 x1, .int .i64 x2, .string x3]) (.agg #[.string y0, .int .u64 y1, .int .i64 y2, .string y3])).run Try.prog w = .ok ((x0.toList == y0.toList && (x1 == y1 && (x2 == y2))) && (x3.toList == y3.toList)) w := by
  refine eqA_of Try.underlying44 (by kernel_rfl) ?_
  refine eqf_cons (by rfl) (by go_simp) (by go_simp) (eqA42 (d + 0) w _ _ _ _ _ _) ?_
  exact eqf_last (by rfl) (by go_simp; rfl) (by go_simp; rfl) (by go_simp)
end Go.Proofs.Ytehoojmalhloeaa.PC

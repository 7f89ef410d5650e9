/- MergeOne: the walk in the form that its row asks. -/
import Derived.Test.YtehoojmalhloeaaNO
import Derived.Test.YtehoojmalhloeaaDR
namespace Go.Proofs.Ytehoojmalhloeaa.CM
open Go.RowKit Go.Proofs.YtehoojmalhloeaaW.PrintWords
theorem mergeOne_row (a0 : Option Addr) (len0 cap0 : Nat) (a1 : Int) (w : World)
    (F0 : ∃ A len cap xs, Value.slice a0 len0 cap0 = .slice A len cap ∧ Kd.C PC.k44 w A len xs ∧ len ≤ cap ∧ len * 48 ≤ 140737488351232 ∧ (∀ p ∈ xs, Fits p) ∧ (A = none → cap = 0)) (w1 : (Lit.int .i64 a1).wf = true) :
    Calls Try.prog 11 #[.slice a0 len0 cap0, .int .i64 a1] w fun e w' => e = .returned (.bool true) ∧ Below w.heap.size w w' := by
  obtain ⟨A, len, cap, xs, hv, h1, h2, h3, _⟩ := F0
  cases hv
  obtain rfl : len0 = xs.length := h1.1.symm
  exact mergeOne_w _ _ _ _ w h1 h2 (by omega)
end Go.Proofs.Ytehoojmalhloeaa.CM

/- MergeGoes: the walk in the form that its row asks. -/
import Derived.Test.YtehoojmalhloeaaNK
import Derived.Test.YtehoojmalhloeaaDR
namespace Go.Proofs.Ytehoojmalhloeaa.CM
open Go.RowKit Go.Proofs.YtehoojmalhloeaaW.PrintWords
theorem mergeGoes_row (a0 : Option Addr) (len0 cap0 : Nat) (w : World)
    (F0 : ∃ A len cap xs, Value.slice a0 len0 cap0 = .slice A len cap ∧ Kd.C (Kd.slice 44 PC.k44) w A len xs ∧ len ≤ cap ∧ len * 24 ≤ 140737488351232 ∧ (∀ p ∈ xs, p.length * 48 ≤ 140737488351232 ∧ ∀ y ∈ p, Fits y) ∧ (A = none → cap = 0)) :
    Calls Try.prog 12 #[.slice a0 len0 cap0] w fun e w' => e = .returned (.bool true) ∧ Below w.heap.size w w' := by
  obtain ⟨A, len, cap, xs, hv, h1, h2, _⟩ := F0
  cases hv
  obtain rfl : len0 = xs.length := h1.1.symm
  exact mergeGoes_w _ _ _ w h1 h2
end Go.Proofs.Ytehoojmalhloeaa.CM

/- MergePlays: the walk in the form that its row asks. -/
import Derived.Test.YtehoojmalhloeaaNY
namespace Go.Proofs.Ytehoojmalhloeaa.CM
open Go.RowKit Go.Proofs.YtehoojmalhloeaaW.PrintWords
theorem mergePlays_row (a0 : Option Addr) (len0 cap0 : Nat) (a1 : Option Addr) (len1 cap1 : Nat) (w : World)
    (F0 : ∃ A len cap xs, Value.slice a0 len0 cap0 = .slice A len cap ∧ Kd.C (Kd.slice 44 PC.k44) w A len xs ∧ len ≤ cap ∧ len * 24 ≤ 140737488351232 ∧ (∀ p ∈ xs, p.length * 48 ≤ 140737488351232 ∧ ∀ y ∈ p, Fits y) ∧ (A = none → cap = 0))
    (F1 : ∃ A len cap xs, Value.slice a1 len1 cap1 = .slice A len cap ∧ Kd.C k63 w A len xs ∧ len ≤ cap ∧ len * 40 ≤ 140737488351232 ∧ (∀ p ∈ xs, True) ∧ (A = none → cap = 0)) :
    Calls Try.prog 13 #[.slice a0 len0 cap0, .slice a1 len1 cap1] w fun e w' => e = .returned (.bool true) ∧ Below w.heap.size w w' := by
  obtain ⟨A, len, cap, xs, hv, h1, h2, _⟩ := F0
  obtain ⟨B, n, d, ys, hu, k1, k2, k3, _⟩ := F1
  cases hv
  cases hu
  obtain rfl : len0 = xs.length := h1.1.symm
  obtain rfl : len1 = ys.length := k1.1.symm
  exact mergePlays_w _ _ _ _ _ _ w h1 h2 k1 (by omega)
end Go.Proofs.Ytehoojmalhloeaa.CM

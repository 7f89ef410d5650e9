/- sched: who counts by comparing and swapping: the walk in the form of a row. -/
import Derived.Test.YtkcjghdopmigoaaTE
namespace Go.Proofs.Ytkcjghdopmigoaa.SC
open Go.RowKit Go.ChangeShapes Go.WideShapes Go.Proofs.YtkcjghdopmigoaaW.PrintWords
theorem schedSwaps_row (t : Int) (P : Option Addr) (q p : Nat) (w : World) (F0 : (Lit.int .i64 t).wf = true)
    (F2 : ∃ A' len cap xs, Value.slice P q p = .slice A' len cap ∧ Kd.C (Kd.int .i64) w A' len xs ∧ len ≤ cap ∧ len * 8 ≤ 140737488351232 ∧ (∀ p ∈ xs, In64 p) ∧ (A' = none → cap = 0)) :
    Calls Try.prog 6 #[.int .i64 t, .slice P q p] w (TrueEnd w) := by
  obtain ⟨_, _, _, picks, e2, c1, c2, c5, c3, c4⟩ := F2
  cases e2
  obtain rfl : picks.length = q := c1.1
  exact swaps_w t P p picks w (wf_i64 t F0) c1 c2 c5 c3 c4
end Go.Proofs.Ytkcjghdopmigoaa.SC

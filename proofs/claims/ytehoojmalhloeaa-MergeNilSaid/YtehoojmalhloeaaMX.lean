/- MergeNil: the walk in the form that its row asks. -/
import Derived.Test.YtehoojmalhloeaaMW
import Derived.Test.YtehoojmalhloeaaDR
namespace Go.Proofs.Ytehoojmalhloeaa.CM
open Go.RowKit Go.Proofs.YtehoojmalhloeaaW.PrintWords
theorem mergeNil_row (cs : Array Value) (w : World)
    (F0 : ∃ y : PC.S42, cs.toList = [.string y.f0, .int .u64 y.f1, .int .i64 y.f2] ∧ (0 ≤ y.f1 ∧ y.f1 ≤ 18446744073709551615) ∧ (-9223372036854775808 ≤ y.f2 ∧ y.f2 ≤ 9223372036854775807) ∧ y.f0.size ≤ 140737488351232) :
    Calls Try.prog 14 #[.agg cs] w fun e w' => e = .returned (.bool true) ∧ Below w.heap.size w w' := by
  obtain ⟨y, hy, _⟩ := F0
  obtain ⟨l⟩ := cs
  have hy : l = _ := hy
  subst hy
  exact mergeNil_w y w
end Go.Proofs.Ytehoojmalhloeaa.CM

/- ViewNil: the walk in the form that its row asks. -/
import Derived.Test.YtehoojmalhloeaaVF
import Derived.Test.YtehoojmalhloeaaDR
namespace Go.Proofs.Ytehoojmalhloeaa.CM
open Go.RowKit Go.Proofs.YtehoojmalhloeaaW.PrintWords
theorem viewNil_row (u : ByteArray) (w : World) {p : Prop} (_ : p) : Calls Try.prog 21 #[.string u] w fun e w' => e = .returned (.bool true) ∧ Below w.heap.size w w' := viewNil_w u w
end Go.Proofs.Ytehoojmalhloeaa.CM

/- The program's own functions of chapter 19, in the form of the written contracts. Their conditions are those of the walks. -/
import Derived.Test.YtehoojmalhloeaaDX
namespace Go.Proofs.Ytehoojmalhloeaa.PC
open Go.RowKit Go.Proofs.YtehoojmalhloeaaW.PrintWords Go.Proofs.YtehoojmalhloeaaW.PrintLast Go.Proofs.YtehoojmalhloeaaW.PrintMore
attribute [local go_sem] max2_int min2_int max_two min_two max_three min_three max_four min_four   -- for this text's walks alone
set_option linter.unusedVariables false
set_option linter.unusedSimpArgs false

def staddlelaw19_awake.f : Option (Bool) := some true
theorem staddlelaw19_awake.calls (r : Bool) (w : World) (h : staddlelaw19_awake.f = some r) :
    Calls Try.prog 22 #[] w fun e w' => e = .returned (.bool r) ∧ Below w.heap.size w w' := by
  obtain rfl := Option.some.inj h
  exact CM.awake19_w w
def compact_Split.f (k : Nat) (l0 : List (S44)) (a1 : Int) : Option ((List (List (S44))) × Int) := if l0.length * 48 ≤ 140737488355328 - 4096 then some (CM.splitA a1 l0) else none
theorem compact_Split.mono : ∀ a0 a1 k, LeO (compact_Split.f k a0 a1) (compact_Split.f (k + 1) a0 a1) := fun _ _ _ _ h => h
theorem compact_Split.calls (k : Nat) (A0 : Option Addr) (c0 : Nat) (l0 : List (S44)) (a1 : Int) (r1 : List (List (S44))) (r2 : Int) (w : World) (hr0 : Kd.C k44 w A0 l0.length l0) (hc0 : l0.length ≤ c0) (h : compact_Split.f k l0 a1 = some (r1, r2)) :
    Calls Try.prog 27 #[.slice A0 l0.length c0, .int .i64 a1] w fun e w' => ∃ v0_ : Value, e = .returned (.tuple #[v0_, .int .i64 r2]) ∧ Kd.S (Kd.slice 44 k44) 22 w' w.heap.size (fun _ => True) v0_ r1 ∧ Below w.heap.size w w' := by
  unfold compact_Split.f at h
  split at h
  · have h := Option.some.inj h
    have := CM.split_any A0 c0 l0 a1 w hr0 hc0 (by assumption)
    rw [h] at this
    exact this
  · cases h

end Go.Proofs.Ytehoojmalhloeaa.PC

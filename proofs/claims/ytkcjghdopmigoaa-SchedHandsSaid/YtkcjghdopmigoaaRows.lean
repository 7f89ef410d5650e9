/-
  No cell of these rows narrows 'for every input' (looked for: loops, veiled, ifaces, maps, wideKeys, modest, calm, conditions, laid).
  DERIVED. THE GIVEN ROWS OF THIS SEAT. 6 by the template 'for every input the law returns true; each argument reads behind the call as it read before'; 0 by the template 'total and deterministic' (their statements: YtkcjghdopmigoaaTotals.lean).
  GIVEN WITH THE SEED: the statements are not yours to turn. If you find one false, say at which input.
  Laid BY PROGRAM, IN A SANDBOX (cutbox-rows.mjs): the forced cells as the released guide's own fill.sh prints them over the translation a76f5f8921164e6a… (all of the seat's roots in one cut). By AI agents, Wed Nov 11 2026. No macro, syntax, notation, axiom, sorry.
-/
import Derived.Test.YtkcjghdopmigoaaChecked
import GoSem.Claim
import GoSem.ClaimJoined
import GoSem.ClaimMapViews
import Derived.JoinedTies
import Derived.KernelRfl
namespace Go.Proofs.Ytkcjghdopmigoaa
/- THE CELL 'sum', in the pinned program and in every row, IS THE sha256 OF THE DUMP (.gsa) THAT YtkcjghdopmigoaaProg.lean LOADS. Nothing in Lean hashes anything: it is a label: what it is worth is what the hold of that sum in a sandbox is worth. -/
noncomputable def Try.pinned : Pinned := { name := "ytkcjghdopmigoaa", sum := "a76f5f8921164e6a4b59e1b60fe4ac1acdd847521b94042ac6b265f37dcaf1c5", checked := Try.checked }
namespace Rows
def none {H : Type} : Left H := { results := [], args := [] }

/-- 'staddlelaw05.SchedNames': WHATEVER THE INPUT: true; the input reads as it did. -/
def schedNamesSpec : ChangeSpec := { name := "schedNames", fn := fun _ => fun
  | [] => { results := [.lit (.bool true)], args := [] }
  | _ => none }
def schedNamesRow : OpenClaim := { program := "ytkcjghdopmigoaa", sum := "a76f5f8921164e6a4b59e1b60fe4ac1acdd847521b94042ac6b265f37dcaf1c5", func := "staddle/staddlelaw05.SchedNames", spec := "schedNames", unfollowed := true, recurses := true, apart := false }
def SchedNamesSaid : Prop := schedNamesRow.holds Try.pinned (OpenSpec.ofChange schedNamesSpec)

/-- ITS FALSE NEIGHBOUR: 'it returns false'. Refute it at one input. -/
def schedNamesWrong : ChangeSpec := { name := "schedNames", fn := fun _ => fun
  | [] => { results := [.lit (.bool false)], args := [] }
  | _ => none }
def SchedNamesWrongFalsely : Prop := schedNamesRow.holds Try.pinned (OpenSpec.ofChange schedNamesWrong)

/-- 'staddlelaw05.SchedBegins': WHATEVER THE INPUT: true; the input reads as it did. -/
def schedBeginsSpec : ChangeSpec := { name := "schedBegins", fn := fun _ => fun
  | [d1, d2, d3, d4] => { results := [.lit (.bool true)], args := [d1, d2, d3, d4] }
  | _ => none }
def schedBeginsRow : OpenClaim := { program := "ytkcjghdopmigoaa", sum := "a76f5f8921164e6a4b59e1b60fe4ac1acdd847521b94042ac6b265f37dcaf1c5", func := "staddle/staddlelaw05.SchedBegins", spec := "schedBegins", unfollowed := true, recurses := true, apart := false }
def SchedBeginsSaid : Prop := schedBeginsRow.holds Try.pinned (OpenSpec.ofChange schedBeginsSpec)

/-- ITS FALSE NEIGHBOUR: 'it returns false'. Refute it at one input. -/
def schedBeginsWrong : ChangeSpec := { name := "schedBegins", fn := fun _ => fun
  | [d1, d2, d3, d4] => { results := [.lit (.bool false)], args := [d1, d2, d3, d4] }
  | _ => none }
def SchedBeginsWrongFalsely : Prop := schedBeginsRow.holds Try.pinned (OpenSpec.ofChange schedBeginsWrong)

/-- 'staddlelaw05.SchedLocks': WHATEVER THE INPUT: true; the input reads as it did. -/
def schedLocksSpec : ChangeSpec := { name := "schedLocks", fn := fun _ => fun
  | [d1, d2, d3] => { results := [.lit (.bool true)], args := [d1, d2, d3] }
  | _ => none }
def schedLocksRow : OpenClaim := { program := "ytkcjghdopmigoaa", sum := "a76f5f8921164e6a4b59e1b60fe4ac1acdd847521b94042ac6b265f37dcaf1c5", func := "staddle/staddlelaw05.SchedLocks", spec := "schedLocks", unfollowed := true, recurses := true, apart := false }
def SchedLocksSaid : Prop := schedLocksRow.holds Try.pinned (OpenSpec.ofChange schedLocksSpec)

/-- ITS FALSE NEIGHBOUR: 'it returns false'. Refute it at one input. -/
def schedLocksWrong : ChangeSpec := { name := "schedLocks", fn := fun _ => fun
  | [d1, d2, d3] => { results := [.lit (.bool false)], args := [d1, d2, d3] }
  | _ => none }
def SchedLocksWrongFalsely : Prop := schedLocksRow.holds Try.pinned (OpenSpec.ofChange schedLocksWrong)

/-- 'staddlelaw05.SchedSwaps': WHATEVER THE INPUT: true; the input reads as it did. -/
def schedSwapsSpec : ChangeSpec := { name := "schedSwaps", fn := fun _ => fun
  | [d1, d2] => { results := [.lit (.bool true)], args := [d1, d2] }
  | _ => none }
def schedSwapsRow : OpenClaim := { program := "ytkcjghdopmigoaa", sum := "a76f5f8921164e6a4b59e1b60fe4ac1acdd847521b94042ac6b265f37dcaf1c5", func := "staddle/staddlelaw05.SchedSwaps", spec := "schedSwaps", unfollowed := true, recurses := true, apart := false }
def SchedSwapsSaid : Prop := schedSwapsRow.holds Try.pinned (OpenSpec.ofChange schedSwapsSpec)

/-- ITS FALSE NEIGHBOUR: 'it returns false'. Refute it at one input. -/
def schedSwapsWrong : ChangeSpec := { name := "schedSwaps", fn := fun _ => fun
  | [d1, d2] => { results := [.lit (.bool false)], args := [d1, d2] }
  | _ => none }
def SchedSwapsWrongFalsely : Prop := schedSwapsRow.holds Try.pinned (OpenSpec.ofChange schedSwapsWrong)

/-- 'staddlelaw05.SchedApart': WHATEVER THE INPUT: true; the input reads as it did. -/
def schedApartSpec : ChangeSpec := { name := "schedApart", fn := fun _ => fun
  | [d1, d2, d3] => { results := [.lit (.bool true)], args := [d1, d2, d3] }
  | _ => none }
def schedApartRow : OpenClaim := { program := "ytkcjghdopmigoaa", sum := "a76f5f8921164e6a4b59e1b60fe4ac1acdd847521b94042ac6b265f37dcaf1c5", func := "staddle/staddlelaw05.SchedApart", spec := "schedApart", unfollowed := true, recurses := true, apart := false }
def SchedApartSaid : Prop := schedApartRow.holds Try.pinned (OpenSpec.ofChange schedApartSpec)

/-- ITS FALSE NEIGHBOUR: 'it returns false'. Refute it at one input. -/
def schedApartWrong : ChangeSpec := { name := "schedApart", fn := fun _ => fun
  | [d1, d2, d3] => { results := [.lit (.bool false)], args := [d1, d2, d3] }
  | _ => none }
def SchedApartWrongFalsely : Prop := schedApartRow.holds Try.pinned (OpenSpec.ofChange schedApartWrong)

/-- 'staddlelaw05.SchedHands': WHATEVER THE INPUT: true; the input reads as it did. -/
def schedHandsSpec : ChangeSpec := { name := "schedHands", fn := fun _ => fun
  | [d1, d2] => { results := [.lit (.bool true)], args := [d1, d2] }
  | _ => none }
def schedHandsRow : OpenClaim := { program := "ytkcjghdopmigoaa", sum := "a76f5f8921164e6a4b59e1b60fe4ac1acdd847521b94042ac6b265f37dcaf1c5", func := "staddle/staddlelaw05.SchedHands", spec := "schedHands", unfollowed := true, recurses := true, apart := false }
def SchedHandsSaid : Prop := schedHandsRow.holds Try.pinned (OpenSpec.ofChange schedHandsSpec)

/-- ITS FALSE NEIGHBOUR: 'it returns false'. Refute it at one input. -/
def schedHandsWrong : ChangeSpec := { name := "schedHands", fn := fun _ => fun
  | [d1, d2] => { results := [.lit (.bool false)], args := [d1, d2] }
  | _ => none }
def SchedHandsWrongFalsely : Prop := schedHandsRow.holds Try.pinned (OpenSpec.ofChange schedHandsWrong)

/- THE SECOND FORM. 'bulk': how many values and letters a reading holds, each counted each time it is reached (what is shared counts as often as it is met; a slice's spare places count too). A statement '..UptoSaid' is the law's where the arguments, and the package variables that the reading takes, are together of bulk at most 1048576: NARROWER than '..Said'. Prove '..Said' where nothing that the law and all that it calls make is longer than what came in: it says more and counts as full. Else prove '..UptoSaid'. A law counts once. -/
mutual
def uptoBulk {H : Type} : DataW H → Nat
  | .lit (.string bytes) => bytes.length + 1
  | .lit _ => 1
  | .nil => 1
  | .ptr d => uptoBulk d + 1
  | .slice elems spare => uptoBulkAll elems + uptoBulkAll spare + 1
  | .agg parts => uptoBulkAll parts + 1
  | .iface _ d => uptoBulk d + 1
  | .map entries => uptoBulkEntries entries + 1
  | .held _ => 1
def uptoBulkAll {H : Type} : List (DataW H) → Nat
  | [] => 0
  | d :: r => uptoBulk d + uptoBulkAll r
def uptoBulkEntries {H : Type} : List (Lit × DataW H) → Nat
  | [] => 0
  | x :: r => uptoBulkEntry x + uptoBulkEntries r
def uptoBulkEntry {H : Type} : Lit × DataW H → Nat
  | (.string bytes, d) => bytes.length + uptoBulk d + 1
  | (_, d) => uptoBulk d + 1
 end
def uptoSmall : (H : Type) → List (DataW H) → Bool := fun _ ds => decide (uptoBulkAll ds ≤ 1048576)
def OpenSpec.upto (s : _root_.Go.ChangeSpec) : _root_.Go.OpenSpec := { _root_.Go.OpenSpec.ofChange s with cond := some uptoSmall }

/-- 'staddlelaw05.SchedNames', WHERE WHAT IT READS IS OF BULK AT MOST 1048576: true; the input reads as it did. -/
def schedNamesUptoRow : OpenClaim := { program := "ytkcjghdopmigoaa", sum := "a76f5f8921164e6a4b59e1b60fe4ac1acdd847521b94042ac6b265f37dcaf1c5", func := "staddle/staddlelaw05.SchedNames", spec := "schedNames", unfollowed := true, recurses := true, apart := false, narrowed := true }
def SchedNamesUptoSaid : Prop := schedNamesUptoRow.holds Try.pinned (OpenSpec.upto schedNamesSpec)

/-- 'staddlelaw05.SchedBegins', WHERE WHAT IT READS IS OF BULK AT MOST 1048576: true; the input reads as it did. -/
def schedBeginsUptoRow : OpenClaim := { program := "ytkcjghdopmigoaa", sum := "a76f5f8921164e6a4b59e1b60fe4ac1acdd847521b94042ac6b265f37dcaf1c5", func := "staddle/staddlelaw05.SchedBegins", spec := "schedBegins", unfollowed := true, recurses := true, apart := false, narrowed := true }
def SchedBeginsUptoSaid : Prop := schedBeginsUptoRow.holds Try.pinned (OpenSpec.upto schedBeginsSpec)

/-- 'staddlelaw05.SchedLocks', WHERE WHAT IT READS IS OF BULK AT MOST 1048576: true; the input reads as it did. -/
def schedLocksUptoRow : OpenClaim := { program := "ytkcjghdopmigoaa", sum := "a76f5f8921164e6a4b59e1b60fe4ac1acdd847521b94042ac6b265f37dcaf1c5", func := "staddle/staddlelaw05.SchedLocks", spec := "schedLocks", unfollowed := true, recurses := true, apart := false, narrowed := true }
def SchedLocksUptoSaid : Prop := schedLocksUptoRow.holds Try.pinned (OpenSpec.upto schedLocksSpec)

/-- 'staddlelaw05.SchedSwaps', WHERE WHAT IT READS IS OF BULK AT MOST 1048576: true; the input reads as it did. -/
def schedSwapsUptoRow : OpenClaim := { program := "ytkcjghdopmigoaa", sum := "a76f5f8921164e6a4b59e1b60fe4ac1acdd847521b94042ac6b265f37dcaf1c5", func := "staddle/staddlelaw05.SchedSwaps", spec := "schedSwaps", unfollowed := true, recurses := true, apart := false, narrowed := true }
def SchedSwapsUptoSaid : Prop := schedSwapsUptoRow.holds Try.pinned (OpenSpec.upto schedSwapsSpec)

/-- 'staddlelaw05.SchedApart', WHERE WHAT IT READS IS OF BULK AT MOST 1048576: true; the input reads as it did. -/
def schedApartUptoRow : OpenClaim := { program := "ytkcjghdopmigoaa", sum := "a76f5f8921164e6a4b59e1b60fe4ac1acdd847521b94042ac6b265f37dcaf1c5", func := "staddle/staddlelaw05.SchedApart", spec := "schedApart", unfollowed := true, recurses := true, apart := false, narrowed := true }
def SchedApartUptoSaid : Prop := schedApartUptoRow.holds Try.pinned (OpenSpec.upto schedApartSpec)

/-- 'staddlelaw05.SchedHands', WHERE WHAT IT READS IS OF BULK AT MOST 1048576: true; the input reads as it did. -/
def schedHandsUptoRow : OpenClaim := { program := "ytkcjghdopmigoaa", sum := "a76f5f8921164e6a4b59e1b60fe4ac1acdd847521b94042ac6b265f37dcaf1c5", func := "staddle/staddlelaw05.SchedHands", spec := "schedHands", unfollowed := true, recurses := true, apart := false, narrowed := true }
def SchedHandsUptoSaid : Prop := schedHandsUptoRow.holds Try.pinned (OpenSpec.upto schedHandsSpec)

end Rows
end Go.Proofs.Ytkcjghdopmigoaa

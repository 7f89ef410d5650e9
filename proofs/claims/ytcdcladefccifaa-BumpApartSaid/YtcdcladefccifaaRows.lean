/-
  No cell of these rows narrows 'for every input' (looked for: loops, veiled, ifaces, maps, wideKeys, modest, calm, conditions, laid).
  DERIVED. THE GIVEN ROWS OF THIS SEAT. 5 by the template 'for every input the law returns true; each argument reads behind the call as it read before'; 0 by the template 'total and deterministic' (their statements: YtcdcladefccifaaTotals.lean).
  GIVEN WITH THE SEED: the statements are not yours to turn. If you find one false, say at which input.
  Laid BY PROGRAM, IN A SANDBOX (cutbox-rows.mjs): the forced cells as the released guide's own fill.sh prints them over the translation 4e340078a67f417f… (all of the seat's roots in one cut). By AI agents, Wed Nov 11 2026. No macro, syntax, notation, axiom, sorry.
-/
import Derived.Test.YtcdcladefccifaaChecked
import GoSem.Claim
import GoSem.ClaimJoined
import GoSem.ClaimMapViews
import Derived.JoinedTies
import Derived.KernelRfl
namespace Go.Proofs.Ytcdcladefccifaa
/- THE CELL 'sum', in the pinned program and in every row, IS THE sha256 OF THE DUMP (.gsa) THAT YtcdcladefccifaaProg.lean LOADS. Nothing in Lean hashes anything: it is a label: what it is worth is what the hold of that sum in a sandbox is worth. -/
noncomputable def Try.pinned : Pinned := { name := "ytcdcladefccifaa", sum := "4e340078a67f417fb8059a34aa78f3abe63434eb1a8fb5784af23044bf65c32b", checked := Try.checked }
namespace Rows
def none {H : Type} : Left H := { results := [], args := [] }

/-- 'staddlelaw06.BumpNames': WHATEVER THE INPUT: true; the input reads as it did. -/
def bumpNamesSpec : ChangeSpec := { name := "bumpNames", fn := fun _ => fun
  | [] => { results := [.lit (.bool true)], args := [] }
  | _ => none }
def bumpNamesRow : OpenClaim := { program := "ytcdcladefccifaa", sum := "4e340078a67f417fb8059a34aa78f3abe63434eb1a8fb5784af23044bf65c32b", func := "staddle/staddlelaw06.BumpNames", spec := "bumpNames", apart := false }
def BumpNamesSaid : Prop := bumpNamesRow.holds Try.pinned (OpenSpec.ofChange bumpNamesSpec)

/-- ITS FALSE NEIGHBOUR: 'it returns false'. Refute it at one input. -/
def bumpNamesWrong : ChangeSpec := { name := "bumpNames", fn := fun _ => fun
  | [] => { results := [.lit (.bool false)], args := [] }
  | _ => none }
def BumpNamesWrongFalsely : Prop := bumpNamesRow.holds Try.pinned (OpenSpec.ofChange bumpNamesWrong)

/-- 'staddlelaw06.BumpCells': WHATEVER THE INPUT: true; the input reads as it did. -/
def bumpCellsSpec : ChangeSpec := { name := "bumpCells", fn := fun _ => fun
  | [d] => { results := [.lit (.bool true)], args := [d] }
  | _ => none }
def bumpCellsRow : OpenClaim := { program := "ytcdcladefccifaa", sum := "4e340078a67f417fb8059a34aa78f3abe63434eb1a8fb5784af23044bf65c32b", func := "staddle/staddlelaw06.BumpCells", spec := "bumpCells", apart := false }
def BumpCellsSaid : Prop := bumpCellsRow.holds Try.pinned (OpenSpec.ofChange bumpCellsSpec)

/-- ITS FALSE NEIGHBOUR: 'it returns false'. Refute it at one input. -/
def bumpCellsWrong : ChangeSpec := { name := "bumpCells", fn := fun _ => fun
  | [d] => { results := [.lit (.bool false)], args := [d] }
  | _ => none }
def BumpCellsWrongFalsely : Prop := bumpCellsRow.holds Try.pinned (OpenSpec.ofChange bumpCellsWrong)

/-- 'staddlelaw06.BumpPlays': WHATEVER THE INPUT: true; the input reads as it did. -/
def bumpPlaysSpec : ChangeSpec := { name := "bumpPlays", fn := fun _ => fun
  | [d1, d2] => { results := [.lit (.bool true)], args := [d1, d2] }
  | _ => none }
def bumpPlaysRow : OpenClaim := { program := "ytcdcladefccifaa", sum := "4e340078a67f417fb8059a34aa78f3abe63434eb1a8fb5784af23044bf65c32b", func := "staddle/staddlelaw06.BumpPlays", spec := "bumpPlays", apart := false }
def BumpPlaysSaid : Prop := bumpPlaysRow.holds Try.pinned (OpenSpec.ofChange bumpPlaysSpec)

/-- ITS FALSE NEIGHBOUR: 'it returns false'. Refute it at one input. -/
def bumpPlaysWrong : ChangeSpec := { name := "bumpPlays", fn := fun _ => fun
  | [d1, d2] => { results := [.lit (.bool false)], args := [d1, d2] }
  | _ => none }
def BumpPlaysWrongFalsely : Prop := bumpPlaysRow.holds Try.pinned (OpenSpec.ofChange bumpPlaysWrong)

/-- 'staddlelaw06.BumpApart': WHATEVER THE INPUT: true; the input reads as it did. -/
def bumpApartSpec : ChangeSpec := { name := "bumpApart", fn := fun _ => fun
  | [d1, d2] => { results := [.lit (.bool true)], args := [d1, d2] }
  | _ => none }
def bumpApartRow : OpenClaim := { program := "ytcdcladefccifaa", sum := "4e340078a67f417fb8059a34aa78f3abe63434eb1a8fb5784af23044bf65c32b", func := "staddle/staddlelaw06.BumpApart", spec := "bumpApart", apart := false }
def BumpApartSaid : Prop := bumpApartRow.holds Try.pinned (OpenSpec.ofChange bumpApartSpec)

/-- ITS FALSE NEIGHBOUR: 'it returns false'. Refute it at one input. -/
def bumpApartWrong : ChangeSpec := { name := "bumpApart", fn := fun _ => fun
  | [d1, d2] => { results := [.lit (.bool false)], args := [d1, d2] }
  | _ => none }
def BumpApartWrongFalsely : Prop := bumpApartRow.holds Try.pinned (OpenSpec.ofChange bumpApartWrong)

/-- 'staddlelaw06.BumpNil': WHATEVER THE INPUT: true; the input reads as it did. -/
def bumpNilSpec : ChangeSpec := { name := "bumpNil", fn := fun _ => fun
  | [d] => { results := [.lit (.bool true)], args := [d] }
  | _ => none }
def bumpNilRow : OpenClaim := { program := "ytcdcladefccifaa", sum := "4e340078a67f417fb8059a34aa78f3abe63434eb1a8fb5784af23044bf65c32b", func := "staddle/staddlelaw06.BumpNil", spec := "bumpNil", apart := false }
def BumpNilSaid : Prop := bumpNilRow.holds Try.pinned (OpenSpec.ofChange bumpNilSpec)

/-- ITS FALSE NEIGHBOUR: 'it returns false'. Refute it at one input. -/
def bumpNilWrong : ChangeSpec := { name := "bumpNil", fn := fun _ => fun
  | [d] => { results := [.lit (.bool false)], args := [d] }
  | _ => none }
def BumpNilWrongFalsely : Prop := bumpNilRow.holds Try.pinned (OpenSpec.ofChange bumpNilWrong)

/- THE SECOND FORM. 'bulk': how many values and letters a reading holds, each counted each time it is reached (what is shared counts as often as it is met; a slice's spare places count too). A statement '..UptoSaid' is the law's where the arguments, and the package variables that the reading takes, are together of bulk at most 1048576: NARROWER than '..Said'. Prove '..Said' where nothing that the law and all that it calls make is longer than what came in: it says more and counts as full. Else prove '..UptoSaid'. A law counts once. -/
mutual
def uptoBulk {H : Type} : DataW H → Nat
  | .lit (.string bytes) => bytes.length + 1
  | .lit _ => 1
  | .nil => 1
  | .ptr d => uptoBulk d + 1
  | .slice elems spare => uptoBulkAll elems + uptoBulkAll spare + 1
  | .agg parts => uptoBulkAll parts + 1
  | .iface _ d => uptoBulk d + 1
  | .map entries => uptoBulkEntries entries + 1
  | .held _ => 1
def uptoBulkAll {H : Type} : List (DataW H) → Nat
  | [] => 0
  | d :: r => uptoBulk d + uptoBulkAll r
def uptoBulkEntries {H : Type} : List (Lit × DataW H) → Nat
  | [] => 0
  | x :: r => uptoBulkEntry x + uptoBulkEntries r
def uptoBulkEntry {H : Type} : Lit × DataW H → Nat
  | (.string bytes, d) => bytes.length + uptoBulk d + 1
  | (_, d) => uptoBulk d + 1
 end
def uptoSmall : (H : Type) → List (DataW H) → Bool := fun _ ds => decide (uptoBulkAll ds ≤ 1048576)
def OpenSpec.upto (s : _root_.Go.ChangeSpec) : _root_.Go.OpenSpec := { _root_.Go.OpenSpec.ofChange s with cond := some uptoSmall }

/-- 'staddlelaw06.BumpNames', WHERE WHAT IT READS IS OF BULK AT MOST 1048576: true; the input reads as it did. -/
def bumpNamesUptoRow : OpenClaim := { program := "ytcdcladefccifaa", sum := "4e340078a67f417fb8059a34aa78f3abe63434eb1a8fb5784af23044bf65c32b", func := "staddle/staddlelaw06.BumpNames", spec := "bumpNames", apart := false, narrowed := true }
def BumpNamesUptoSaid : Prop := bumpNamesUptoRow.holds Try.pinned (OpenSpec.upto bumpNamesSpec)

/-- 'staddlelaw06.BumpCells', WHERE WHAT IT READS IS OF BULK AT MOST 1048576: true; the input reads as it did. -/
def bumpCellsUptoRow : OpenClaim := { program := "ytcdcladefccifaa", sum := "4e340078a67f417fb8059a34aa78f3abe63434eb1a8fb5784af23044bf65c32b", func := "staddle/staddlelaw06.BumpCells", spec := "bumpCells", apart := false, narrowed := true }
def BumpCellsUptoSaid : Prop := bumpCellsUptoRow.holds Try.pinned (OpenSpec.upto bumpCellsSpec)

/-- 'staddlelaw06.BumpPlays', WHERE WHAT IT READS IS OF BULK AT MOST 1048576: true; the input reads as it did. -/
def bumpPlaysUptoRow : OpenClaim := { program := "ytcdcladefccifaa", sum := "4e340078a67f417fb8059a34aa78f3abe63434eb1a8fb5784af23044bf65c32b", func := "staddle/staddlelaw06.BumpPlays", spec := "bumpPlays", apart := false, narrowed := true }
def BumpPlaysUptoSaid : Prop := bumpPlaysUptoRow.holds Try.pinned (OpenSpec.upto bumpPlaysSpec)

/-- 'staddlelaw06.BumpApart', WHERE WHAT IT READS IS OF BULK AT MOST 1048576: true; the input reads as it did. -/
def bumpApartUptoRow : OpenClaim := { program := "ytcdcladefccifaa", sum := "4e340078a67f417fb8059a34aa78f3abe63434eb1a8fb5784af23044bf65c32b", func := "staddle/staddlelaw06.BumpApart", spec := "bumpApart", apart := false, narrowed := true }
def BumpApartUptoSaid : Prop := bumpApartUptoRow.holds Try.pinned (OpenSpec.upto bumpApartSpec)

/-- 'staddlelaw06.BumpNil', WHERE WHAT IT READS IS OF BULK AT MOST 1048576: true; the input reads as it did. -/
def bumpNilUptoRow : OpenClaim := { program := "ytcdcladefccifaa", sum := "4e340078a67f417fb8059a34aa78f3abe63434eb1a8fb5784af23044bf65c32b", func := "staddle/staddlelaw06.BumpNil", spec := "bumpNil", apart := false, narrowed := true }
def BumpNilUptoSaid : Prop := bumpNilUptoRow.holds Try.pinned (OpenSpec.upto bumpNilSpec)

end Rows
end Go.Proofs.Ytcdcladefccifaa

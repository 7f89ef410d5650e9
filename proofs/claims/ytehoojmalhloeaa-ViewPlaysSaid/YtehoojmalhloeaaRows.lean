/-
  No cell of these rows narrows 'for every input' (looked for: loops, veiled, ifaces, maps, wideKeys, modest, calm, conditions, laid).
  DERIVED. THE GIVEN ROWS OF THIS SEAT. 19 by the template 'for every input the law returns true; each argument reads behind the call as it read before'; 0 by the template 'total and deterministic' (their statements: YtehoojmalhloeaaTotals.lean).
  GIVEN WITH THE SEED: the statements are not yours to turn. If you find one false, say at which input.
  Laid BY PROGRAM, IN A SANDBOX (cutbox-rows.mjs): the forced cells as the released guide's own fill.sh prints them over the translation 5ac08174c47aa7ac… (all of the seat's roots in one cut). By AI agents, Wed Nov 11 2026. No macro, syntax, notation, axiom, sorry.
-/
import Derived.Test.YtehoojmalhloeaaChecked
import GoSem.Claim
import GoSem.ClaimJoined
import GoSem.ClaimMapViews
import Derived.JoinedTies
import Derived.KernelRfl
namespace Go.Proofs.Ytehoojmalhloeaa
/- THE CELL 'sum', in the pinned program and in every row, IS THE sha256 OF THE DUMP (.gsa) THAT YtehoojmalhloeaaProg.lean LOADS. Nothing in Lean hashes anything: it is a label: what it is worth is what the hold of that sum in a sandbox is worth. -/
noncomputable def Try.pinned : Pinned := { name := "ytehoojmalhloeaa", sum := "5ac08174c47aa7ac1e1e642c9ecabc0280d0ee63c174172c6c689689808ce416", checked := Try.checked }
namespace Rows
def none {H : Type} : Left H := { results := [], args := [] }

/-- 'staddlelaw19.CompactDrops': WHATEVER THE INPUT: true; the input reads as it did. -/
def compactDropsSpec : ChangeSpec := { name := "compactDrops", fn := fun _ => fun
  | [d1, d2, d3] => { results := [.lit (.bool true)], args := [d1, d2, d3] }
  | _ => none }
def compactDropsRow : OpenClaim := { program := "ytehoojmalhloeaa", sum := "5ac08174c47aa7ac1e1e642c9ecabc0280d0ee63c174172c6c689689808ce416", func := "staddle/staddlelaw19.CompactDrops", spec := "compactDrops", inPlace := ["internal/bytealg.abigen_runtime_cmpstring"], unfollowed := true, recurses := true, apart := false }
def CompactDropsSaid : Prop := compactDropsRow.holds Try.pinned (OpenSpec.ofChange compactDropsSpec)

/-- ITS FALSE NEIGHBOUR: 'it returns false'. Refute it at one input. -/
def compactDropsWrong : ChangeSpec := { name := "compactDrops", fn := fun _ => fun
  | [d1, d2, d3] => { results := [.lit (.bool false)], args := [d1, d2, d3] }
  | _ => none }
def CompactDropsWrongFalsely : Prop := compactDropsRow.holds Try.pinned (OpenSpec.ofChange compactDropsWrong)

/-- 'staddlelaw19.CompactSplits': WHATEVER THE INPUT: true; the input reads as it did. -/
def compactSplitsSpec : ChangeSpec := { name := "compactSplits", fn := fun _ => fun
  | [d1, d2] => { results := [.lit (.bool true)], args := [d1, d2] }
  | _ => none }
def compactSplitsRow : OpenClaim := { program := "ytehoojmalhloeaa", sum := "5ac08174c47aa7ac1e1e642c9ecabc0280d0ee63c174172c6c689689808ce416", func := "staddle/staddlelaw19.CompactSplits", spec := "compactSplits", inPlace := ["internal/bytealg.abigen_runtime_cmpstring"], unfollowed := true, recurses := true, apart := false }
def CompactSplitsSaid : Prop := compactSplitsRow.holds Try.pinned (OpenSpec.ofChange compactSplitsSpec)

/-- ITS FALSE NEIGHBOUR: 'it returns false'. Refute it at one input. -/
def compactSplitsWrong : ChangeSpec := { name := "compactSplits", fn := fun _ => fun
  | [d1, d2] => { results := [.lit (.bool false)], args := [d1, d2] }
  | _ => none }
def CompactSplitsWrongFalsely : Prop := compactSplitsRow.holds Try.pinned (OpenSpec.ofChange compactSplitsWrong)

/-- 'staddlelaw19.CompactKeeps': WHATEVER THE INPUT: true; the input reads as it did. -/
def compactKeepsSpec : ChangeSpec := { name := "compactKeeps", fn := fun _ => fun
  | [d1, d2, d3] => { results := [.lit (.bool true)], args := [d1, d2, d3] }
  | _ => none }
def compactKeepsRow : OpenClaim := { program := "ytehoojmalhloeaa", sum := "5ac08174c47aa7ac1e1e642c9ecabc0280d0ee63c174172c6c689689808ce416", func := "staddle/staddlelaw19.CompactKeeps", spec := "compactKeeps", inPlace := ["internal/bytealg.abigen_runtime_cmpstring"], unfollowed := true, recurses := true, apart := false }
def CompactKeepsSaid : Prop := compactKeepsRow.holds Try.pinned (OpenSpec.ofChange compactKeepsSpec)

/-- ITS FALSE NEIGHBOUR: 'it returns false'. Refute it at one input. -/
def compactKeepsWrong : ChangeSpec := { name := "compactKeeps", fn := fun _ => fun
  | [d1, d2, d3] => { results := [.lit (.bool false)], args := [d1, d2, d3] }
  | _ => none }
def CompactKeepsWrongFalsely : Prop := compactKeepsRow.holds Try.pinned (OpenSpec.ofChange compactKeepsWrong)

/-- 'staddlelaw19.CompactOver': WHATEVER THE INPUT: true; the input reads as it did. -/
def compactOverSpec : ChangeSpec := { name := "compactOver", fn := fun _ => fun
  | [d1, d2, d3] => { results := [.lit (.bool true)], args := [d1, d2, d3] }
  | _ => none }
def compactOverRow : OpenClaim := { program := "ytehoojmalhloeaa", sum := "5ac08174c47aa7ac1e1e642c9ecabc0280d0ee63c174172c6c689689808ce416", func := "staddle/staddlelaw19.CompactOver", spec := "compactOver", inPlace := ["internal/bytealg.abigen_runtime_cmpstring"], unfollowed := true, recurses := true, apart := false }
def CompactOverSaid : Prop := compactOverRow.holds Try.pinned (OpenSpec.ofChange compactOverSpec)

/-- ITS FALSE NEIGHBOUR: 'it returns false'. Refute it at one input. -/
def compactOverWrong : ChangeSpec := { name := "compactOver", fn := fun _ => fun
  | [d1, d2, d3] => { results := [.lit (.bool false)], args := [d1, d2, d3] }
  | _ => none }
def CompactOverWrongFalsely : Prop := compactOverRow.holds Try.pinned (OpenSpec.ofChange compactOverWrong)

/-- 'staddlelaw19.CompactParts': WHATEVER THE INPUT: true; the input reads as it did. -/
def compactPartsSpec : ChangeSpec := { name := "compactParts", fn := fun _ => fun
  | [d1, d2] => { results := [.lit (.bool true)], args := [d1, d2] }
  | _ => none }
def compactPartsRow : OpenClaim := { program := "ytehoojmalhloeaa", sum := "5ac08174c47aa7ac1e1e642c9ecabc0280d0ee63c174172c6c689689808ce416", func := "staddle/staddlelaw19.CompactParts", spec := "compactParts", inPlace := ["internal/bytealg.abigen_runtime_cmpstring"], unfollowed := true, recurses := true, apart := false }
def CompactPartsSaid : Prop := compactPartsRow.holds Try.pinned (OpenSpec.ofChange compactPartsSpec)

/-- ITS FALSE NEIGHBOUR: 'it returns false'. Refute it at one input. -/
def compactPartsWrong : ChangeSpec := { name := "compactParts", fn := fun _ => fun
  | [d1, d2] => { results := [.lit (.bool false)], args := [d1, d2] }
  | _ => none }
def CompactPartsWrongFalsely : Prop := compactPartsRow.holds Try.pinned (OpenSpec.ofChange compactPartsWrong)

/-- 'staddlelaw19.CompactMore': WHATEVER THE INPUT: true; the input reads as it did. -/
def compactMoreSpec : ChangeSpec := { name := "compactMore", fn := fun _ => fun
  | [d1, d2, d3, d4] => { results := [.lit (.bool true)], args := [d1, d2, d3, d4] }
  | _ => none }
def compactMoreRow : OpenClaim := { program := "ytehoojmalhloeaa", sum := "5ac08174c47aa7ac1e1e642c9ecabc0280d0ee63c174172c6c689689808ce416", func := "staddle/staddlelaw19.CompactMore", spec := "compactMore", inPlace := ["internal/bytealg.abigen_runtime_cmpstring"], unfollowed := true, recurses := true, apart := false }
def CompactMoreSaid : Prop := compactMoreRow.holds Try.pinned (OpenSpec.ofChange compactMoreSpec)

/-- ITS FALSE NEIGHBOUR: 'it returns false'. Refute it at one input. -/
def compactMoreWrong : ChangeSpec := { name := "compactMore", fn := fun _ => fun
  | [d1, d2, d3, d4] => { results := [.lit (.bool false)], args := [d1, d2, d3, d4] }
  | _ => none }
def CompactMoreWrongFalsely : Prop := compactMoreRow.holds Try.pinned (OpenSpec.ofChange compactMoreWrong)

/-- 'staddlelaw16.MergeNames': WHATEVER THE INPUT: true; the input reads as it did. -/
def mergeNamesSpec : ChangeSpec := { name := "mergeNames", fn := fun _ => fun
  | [] => { results := [.lit (.bool true)], args := [] }
  | _ => none }
def mergeNamesRow : OpenClaim := { program := "ytehoojmalhloeaa", sum := "5ac08174c47aa7ac1e1e642c9ecabc0280d0ee63c174172c6c689689808ce416", func := "staddle/staddlelaw16.MergeNames", spec := "mergeNames", inPlace := ["internal/bytealg.abigen_runtime_cmpstring"], unfollowed := true, recurses := true, apart := false }
def MergeNamesSaid : Prop := mergeNamesRow.holds Try.pinned (OpenSpec.ofChange mergeNamesSpec)

/-- ITS FALSE NEIGHBOUR: 'it returns false'. Refute it at one input. -/
def mergeNamesWrong : ChangeSpec := { name := "mergeNames", fn := fun _ => fun
  | [] => { results := [.lit (.bool false)], args := [] }
  | _ => none }
def MergeNamesWrongFalsely : Prop := mergeNamesRow.holds Try.pinned (OpenSpec.ofChange mergeNamesWrong)

/-- 'staddlelaw16.MergeHolds': WHATEVER THE INPUT: true; the input reads as it did. -/
def mergeHoldsSpec : ChangeSpec := { name := "mergeHolds", fn := fun _ => fun
  | [d] => { results := [.lit (.bool true)], args := [d] }
  | _ => none }
def mergeHoldsRow : OpenClaim := { program := "ytehoojmalhloeaa", sum := "5ac08174c47aa7ac1e1e642c9ecabc0280d0ee63c174172c6c689689808ce416", func := "staddle/staddlelaw16.MergeHolds", spec := "mergeHolds", inPlace := ["internal/bytealg.abigen_runtime_cmpstring"], unfollowed := true, recurses := true, apart := false }
def MergeHoldsSaid : Prop := mergeHoldsRow.holds Try.pinned (OpenSpec.ofChange mergeHoldsSpec)

/-- ITS FALSE NEIGHBOUR: 'it returns false'. Refute it at one input. -/
def mergeHoldsWrong : ChangeSpec := { name := "mergeHolds", fn := fun _ => fun
  | [d] => { results := [.lit (.bool false)], args := [d] }
  | _ => none }
def MergeHoldsWrongFalsely : Prop := mergeHoldsRow.holds Try.pinned (OpenSpec.ofChange mergeHoldsWrong)

/-- 'staddlelaw16.MergeOne': WHATEVER THE INPUT: true; the input reads as it did. -/
def mergeOneSpec : ChangeSpec := { name := "mergeOne", fn := fun _ => fun
  | [d1, d2] => { results := [.lit (.bool true)], args := [d1, d2] }
  | _ => none }
def mergeOneRow : OpenClaim := { program := "ytehoojmalhloeaa", sum := "5ac08174c47aa7ac1e1e642c9ecabc0280d0ee63c174172c6c689689808ce416", func := "staddle/staddlelaw16.MergeOne", spec := "mergeOne", inPlace := ["internal/bytealg.abigen_runtime_cmpstring"], unfollowed := true, recurses := true, apart := false }
def MergeOneSaid : Prop := mergeOneRow.holds Try.pinned (OpenSpec.ofChange mergeOneSpec)

/-- ITS FALSE NEIGHBOUR: 'it returns false'. Refute it at one input. -/
def mergeOneWrong : ChangeSpec := { name := "mergeOne", fn := fun _ => fun
  | [d1, d2] => { results := [.lit (.bool false)], args := [d1, d2] }
  | _ => none }
def MergeOneWrongFalsely : Prop := mergeOneRow.holds Try.pinned (OpenSpec.ofChange mergeOneWrong)

/-- 'staddlelaw16.MergeGoes': WHATEVER THE INPUT: true; the input reads as it did. -/
def mergeGoesSpec : ChangeSpec := { name := "mergeGoes", fn := fun _ => fun
  | [d] => { results := [.lit (.bool true)], args := [d] }
  | _ => none }
def mergeGoesRow : OpenClaim := { program := "ytehoojmalhloeaa", sum := "5ac08174c47aa7ac1e1e642c9ecabc0280d0ee63c174172c6c689689808ce416", func := "staddle/staddlelaw16.MergeGoes", spec := "mergeGoes", inPlace := ["internal/bytealg.abigen_runtime_cmpstring"], unfollowed := true, recurses := true, apart := false }
def MergeGoesSaid : Prop := mergeGoesRow.holds Try.pinned (OpenSpec.ofChange mergeGoesSpec)

/-- ITS FALSE NEIGHBOUR: 'it returns false'. Refute it at one input. -/
def mergeGoesWrong : ChangeSpec := { name := "mergeGoes", fn := fun _ => fun
  | [d] => { results := [.lit (.bool false)], args := [d] }
  | _ => none }
def MergeGoesWrongFalsely : Prop := mergeGoesRow.holds Try.pinned (OpenSpec.ofChange mergeGoesWrong)

/-- 'staddlelaw16.MergePlays': WHATEVER THE INPUT: true; the input reads as it did. -/
def mergePlaysSpec : ChangeSpec := { name := "mergePlays", fn := fun _ => fun
  | [d1, d2] => { results := [.lit (.bool true)], args := [d1, d2] }
  | _ => none }
def mergePlaysRow : OpenClaim := { program := "ytehoojmalhloeaa", sum := "5ac08174c47aa7ac1e1e642c9ecabc0280d0ee63c174172c6c689689808ce416", func := "staddle/staddlelaw16.MergePlays", spec := "mergePlays", inPlace := ["internal/bytealg.abigen_runtime_cmpstring"], unfollowed := true, recurses := true, apart := false }
def MergePlaysSaid : Prop := mergePlaysRow.holds Try.pinned (OpenSpec.ofChange mergePlaysSpec)

/-- ITS FALSE NEIGHBOUR: 'it returns false'. Refute it at one input. -/
def mergePlaysWrong : ChangeSpec := { name := "mergePlays", fn := fun _ => fun
  | [d1, d2] => { results := [.lit (.bool false)], args := [d1, d2] }
  | _ => none }
def MergePlaysWrongFalsely : Prop := mergePlaysRow.holds Try.pinned (OpenSpec.ofChange mergePlaysWrong)

/-- 'staddlelaw16.MergeNil': WHATEVER THE INPUT: true; the input reads as it did. -/
def mergeNilSpec : ChangeSpec := { name := "mergeNil", fn := fun _ => fun
  | [d] => { results := [.lit (.bool true)], args := [d] }
  | _ => none }
def mergeNilRow : OpenClaim := { program := "ytehoojmalhloeaa", sum := "5ac08174c47aa7ac1e1e642c9ecabc0280d0ee63c174172c6c689689808ce416", func := "staddle/staddlelaw16.MergeNil", spec := "mergeNil", inPlace := ["internal/bytealg.abigen_runtime_cmpstring"], unfollowed := true, recurses := true, apart := false }
def MergeNilSaid : Prop := mergeNilRow.holds Try.pinned (OpenSpec.ofChange mergeNilSpec)

/-- ITS FALSE NEIGHBOUR: 'it returns false'. Refute it at one input. -/
def mergeNilWrong : ChangeSpec := { name := "mergeNil", fn := fun _ => fun
  | [d] => { results := [.lit (.bool false)], args := [d] }
  | _ => none }
def MergeNilWrongFalsely : Prop := mergeNilRow.holds Try.pinned (OpenSpec.ofChange mergeNilWrong)

/-- 'staddlelaw17.ViewStays': WHATEVER THE INPUT: true; the input reads as it did. -/
def viewStaysSpec : ChangeSpec := { name := "viewStays", fn := fun _ => fun
  | [d1, d2, d3] => { results := [.lit (.bool true)], args := [d1, d2, d3] }
  | _ => none }
def viewStaysRow : OpenClaim := { program := "ytehoojmalhloeaa", sum := "5ac08174c47aa7ac1e1e642c9ecabc0280d0ee63c174172c6c689689808ce416", func := "staddle/staddlelaw17.ViewStays", spec := "viewStays", inPlace := ["internal/bytealg.abigen_runtime_cmpstring"], unfollowed := true, recurses := true, apart := false }
def ViewStaysSaid : Prop := viewStaysRow.holds Try.pinned (OpenSpec.ofChange viewStaysSpec)

/-- ITS FALSE NEIGHBOUR: 'it returns false'. Refute it at one input. -/
def viewStaysWrong : ChangeSpec := { name := "viewStays", fn := fun _ => fun
  | [d1, d2, d3] => { results := [.lit (.bool false)], args := [d1, d2, d3] }
  | _ => none }
def ViewStaysWrongFalsely : Prop := viewStaysRow.holds Try.pinned (OpenSpec.ofChange viewStaysWrong)

/-- 'staddlelaw17.ViewFalls': WHATEVER THE INPUT: true; the input reads as it did. -/
def viewFallsSpec : ChangeSpec := { name := "viewFalls", fn := fun _ => fun
  | [d1, d2, d3, d4] => { results := [.lit (.bool true)], args := [d1, d2, d3, d4] }
  | _ => none }
def viewFallsRow : OpenClaim := { program := "ytehoojmalhloeaa", sum := "5ac08174c47aa7ac1e1e642c9ecabc0280d0ee63c174172c6c689689808ce416", func := "staddle/staddlelaw17.ViewFalls", spec := "viewFalls", inPlace := ["internal/bytealg.abigen_runtime_cmpstring"], unfollowed := true, recurses := true, apart := false }
def ViewFallsSaid : Prop := viewFallsRow.holds Try.pinned (OpenSpec.ofChange viewFallsSpec)

/-- ITS FALSE NEIGHBOUR: 'it returns false'. Refute it at one input. -/
def viewFallsWrong : ChangeSpec := { name := "viewFalls", fn := fun _ => fun
  | [d1, d2, d3, d4] => { results := [.lit (.bool false)], args := [d1, d2, d3, d4] }
  | _ => none }
def ViewFallsWrongFalsely : Prop := viewFallsRow.holds Try.pinned (OpenSpec.ofChange viewFallsWrong)

/-- 'staddlelaw17.ViewSees': WHATEVER THE INPUT: true; the input reads as it did. -/
def viewSeesSpec : ChangeSpec := { name := "viewSees", fn := fun _ => fun
  | [d1, d2, d3] => { results := [.lit (.bool true)], args := [d1, d2, d3] }
  | _ => none }
def viewSeesRow : OpenClaim := { program := "ytehoojmalhloeaa", sum := "5ac08174c47aa7ac1e1e642c9ecabc0280d0ee63c174172c6c689689808ce416", func := "staddle/staddlelaw17.ViewSees", spec := "viewSees", inPlace := ["internal/bytealg.abigen_runtime_cmpstring"], unfollowed := true, recurses := true, apart := false }
def ViewSeesSaid : Prop := viewSeesRow.holds Try.pinned (OpenSpec.ofChange viewSeesSpec)

/-- ITS FALSE NEIGHBOUR: 'it returns false'. Refute it at one input. -/
def viewSeesWrong : ChangeSpec := { name := "viewSees", fn := fun _ => fun
  | [d1, d2, d3] => { results := [.lit (.bool false)], args := [d1, d2, d3] }
  | _ => none }
def ViewSeesWrongFalsely : Prop := viewSeesRow.holds Try.pinned (OpenSpec.ofChange viewSeesWrong)

/-- 'staddlelaw17.ViewSeeks': WHATEVER THE INPUT: true; the input reads as it did. -/
def viewSeeksSpec : ChangeSpec := { name := "viewSeeks", fn := fun _ => fun
  | [d1, d2, d3] => { results := [.lit (.bool true)], args := [d1, d2, d3] }
  | _ => none }
def viewSeeksRow : OpenClaim := { program := "ytehoojmalhloeaa", sum := "5ac08174c47aa7ac1e1e642c9ecabc0280d0ee63c174172c6c689689808ce416", func := "staddle/staddlelaw17.ViewSeeks", spec := "viewSeeks", inPlace := ["internal/bytealg.abigen_runtime_cmpstring"], unfollowed := true, recurses := true, apart := false }
def ViewSeeksSaid : Prop := viewSeeksRow.holds Try.pinned (OpenSpec.ofChange viewSeeksSpec)

/-- ITS FALSE NEIGHBOUR: 'it returns false'. Refute it at one input. -/
def viewSeeksWrong : ChangeSpec := { name := "viewSeeks", fn := fun _ => fun
  | [d1, d2, d3] => { results := [.lit (.bool false)], args := [d1, d2, d3] }
  | _ => none }
def ViewSeeksWrongFalsely : Prop := viewSeeksRow.holds Try.pinned (OpenSpec.ofChange viewSeeksWrong)

/-- 'staddlelaw17.ViewTurns': WHATEVER THE INPUT: true; the input reads as it did. -/
def viewTurnsSpec : ChangeSpec := { name := "viewTurns", fn := fun _ => fun
  | [d1, d2] => { results := [.lit (.bool true)], args := [d1, d2] }
  | _ => none }
def viewTurnsRow : OpenClaim := { program := "ytehoojmalhloeaa", sum := "5ac08174c47aa7ac1e1e642c9ecabc0280d0ee63c174172c6c689689808ce416", func := "staddle/staddlelaw17.ViewTurns", spec := "viewTurns", inPlace := ["internal/bytealg.abigen_runtime_cmpstring"], unfollowed := true, recurses := true, apart := false }
def ViewTurnsSaid : Prop := viewTurnsRow.holds Try.pinned (OpenSpec.ofChange viewTurnsSpec)

/-- ITS FALSE NEIGHBOUR: 'it returns false'. Refute it at one input. -/
def viewTurnsWrong : ChangeSpec := { name := "viewTurns", fn := fun _ => fun
  | [d1, d2] => { results := [.lit (.bool false)], args := [d1, d2] }
  | _ => none }
def ViewTurnsWrongFalsely : Prop := viewTurnsRow.holds Try.pinned (OpenSpec.ofChange viewTurnsWrong)

/-- 'staddlelaw17.ViewPlays': WHATEVER THE INPUT: true; the input reads as it did. -/
def viewPlaysSpec : ChangeSpec := { name := "viewPlays", fn := fun _ => fun
  | [d1, d2, d3] => { results := [.lit (.bool true)], args := [d1, d2, d3] }
  | _ => none }
def viewPlaysRow : OpenClaim := { program := "ytehoojmalhloeaa", sum := "5ac08174c47aa7ac1e1e642c9ecabc0280d0ee63c174172c6c689689808ce416", func := "staddle/staddlelaw17.ViewPlays", spec := "viewPlays", inPlace := ["internal/bytealg.abigen_runtime_cmpstring"], unfollowed := true, recurses := true, apart := false }
def ViewPlaysSaid : Prop := viewPlaysRow.holds Try.pinned (OpenSpec.ofChange viewPlaysSpec)

/-- ITS FALSE NEIGHBOUR: 'it returns false'. Refute it at one input. -/
def viewPlaysWrong : ChangeSpec := { name := "viewPlays", fn := fun _ => fun
  | [d1, d2, d3] => { results := [.lit (.bool false)], args := [d1, d2, d3] }
  | _ => none }
def ViewPlaysWrongFalsely : Prop := viewPlaysRow.holds Try.pinned (OpenSpec.ofChange viewPlaysWrong)

/-- 'staddlelaw17.ViewNil': WHATEVER THE INPUT: true; the input reads as it did. -/
def viewNilSpec : ChangeSpec := { name := "viewNil", fn := fun _ => fun
  | [d] => { results := [.lit (.bool true)], args := [d] }
  | _ => none }
def viewNilRow : OpenClaim := { program := "ytehoojmalhloeaa", sum := "5ac08174c47aa7ac1e1e642c9ecabc0280d0ee63c174172c6c689689808ce416", func := "staddle/staddlelaw17.ViewNil", spec := "viewNil", inPlace := ["internal/bytealg.abigen_runtime_cmpstring"], unfollowed := true, recurses := true, apart := false }
def ViewNilSaid : Prop := viewNilRow.holds Try.pinned (OpenSpec.ofChange viewNilSpec)

/-- ITS FALSE NEIGHBOUR: 'it returns false'. Refute it at one input. -/
def viewNilWrong : ChangeSpec := { name := "viewNil", fn := fun _ => fun
  | [d] => { results := [.lit (.bool false)], args := [d] }
  | _ => none }
def ViewNilWrongFalsely : Prop := viewNilRow.holds Try.pinned (OpenSpec.ofChange viewNilWrong)

/- THE SECOND FORM. 'bulk': how many values and letters a reading holds, each counted each time it is reached (what is shared counts as often as it is met; a slice's spare places count too). A statement '..UptoSaid' is the law's where the arguments, and the package variables that the reading takes, are together of bulk at most 1048576: NARROWER than '..Said'. Prove '..Said' where nothing that the law and all that it calls make is longer than what came in: it says more and counts as full. Else prove '..UptoSaid'. A law counts once. -/
mutual
def uptoBulk {H : Type} : DataW H → Nat
  | .lit (.string bytes) => bytes.length + 1
  | .lit _ => 1
  | .nil => 1
  | .ptr d => uptoBulk d + 1
  | .slice elems spare => uptoBulkAll elems + uptoBulkAll spare + 1
  | .agg parts => uptoBulkAll parts + 1
  | .iface _ d => uptoBulk d + 1
  | .map entries => uptoBulkEntries entries + 1
  | .held _ => 1
def uptoBulkAll {H : Type} : List (DataW H) → Nat
  | [] => 0
  | d :: r => uptoBulk d + uptoBulkAll r
def uptoBulkEntries {H : Type} : List (Lit × DataW H) → Nat
  | [] => 0
  | x :: r => uptoBulkEntry x + uptoBulkEntries r
def uptoBulkEntry {H : Type} : Lit × DataW H → Nat
  | (.string bytes, d) => bytes.length + uptoBulk d + 1
  | (_, d) => uptoBulk d + 1
 end
def uptoSmall : (H : Type) → List (DataW H) → Bool := fun _ ds => decide (uptoBulkAll ds ≤ 1048576)
def OpenSpec.upto (s : _root_.Go.ChangeSpec) : _root_.Go.OpenSpec := { _root_.Go.OpenSpec.ofChange s with cond := some uptoSmall }

/-- 'staddlelaw19.CompactDrops', WHERE WHAT IT READS IS OF BULK AT MOST 1048576: true; the input reads as it did. -/
def compactDropsUptoRow : OpenClaim := { program := "ytehoojmalhloeaa", sum := "5ac08174c47aa7ac1e1e642c9ecabc0280d0ee63c174172c6c689689808ce416", func := "staddle/staddlelaw19.CompactDrops", spec := "compactDrops", inPlace := ["internal/bytealg.abigen_runtime_cmpstring"], unfollowed := true, recurses := true, apart := false, narrowed := true }
def CompactDropsUptoSaid : Prop := compactDropsUptoRow.holds Try.pinned (OpenSpec.upto compactDropsSpec)

/-- 'staddlelaw19.CompactSplits', WHERE WHAT IT READS IS OF BULK AT MOST 1048576: true; the input reads as it did. -/
def compactSplitsUptoRow : OpenClaim := { program := "ytehoojmalhloeaa", sum := "5ac08174c47aa7ac1e1e642c9ecabc0280d0ee63c174172c6c689689808ce416", func := "staddle/staddlelaw19.CompactSplits", spec := "compactSplits", inPlace := ["internal/bytealg.abigen_runtime_cmpstring"], unfollowed := true, recurses := true, apart := false, narrowed := true }
def CompactSplitsUptoSaid : Prop := compactSplitsUptoRow.holds Try.pinned (OpenSpec.upto compactSplitsSpec)

/-- 'staddlelaw19.CompactKeeps', WHERE WHAT IT READS IS OF BULK AT MOST 1048576: true; the input reads as it did. -/
def compactKeepsUptoRow : OpenClaim := { program := "ytehoojmalhloeaa", sum := "5ac08174c47aa7ac1e1e642c9ecabc0280d0ee63c174172c6c689689808ce416", func := "staddle/staddlelaw19.CompactKeeps", spec := "compactKeeps", inPlace := ["internal/bytealg.abigen_runtime_cmpstring"], unfollowed := true, recurses := true, apart := false, narrowed := true }
def CompactKeepsUptoSaid : Prop := compactKeepsUptoRow.holds Try.pinned (OpenSpec.upto compactKeepsSpec)

/-- 'staddlelaw19.CompactOver', WHERE WHAT IT READS IS OF BULK AT MOST 1048576: true; the input reads as it did. -/
def compactOverUptoRow : OpenClaim := { program := "ytehoojmalhloeaa", sum := "5ac08174c47aa7ac1e1e642c9ecabc0280d0ee63c174172c6c689689808ce416", func := "staddle/staddlelaw19.CompactOver", spec := "compactOver", inPlace := ["internal/bytealg.abigen_runtime_cmpstring"], unfollowed := true, recurses := true, apart := false, narrowed := true }
def CompactOverUptoSaid : Prop := compactOverUptoRow.holds Try.pinned (OpenSpec.upto compactOverSpec)

/-- 'staddlelaw19.CompactParts', WHERE WHAT IT READS IS OF BULK AT MOST 1048576: true; the input reads as it did. -/
def compactPartsUptoRow : OpenClaim := { program := "ytehoojmalhloeaa", sum := "5ac08174c47aa7ac1e1e642c9ecabc0280d0ee63c174172c6c689689808ce416", func := "staddle/staddlelaw19.CompactParts", spec := "compactParts", inPlace := ["internal/bytealg.abigen_runtime_cmpstring"], unfollowed := true, recurses := true, apart := false, narrowed := true }
def CompactPartsUptoSaid : Prop := compactPartsUptoRow.holds Try.pinned (OpenSpec.upto compactPartsSpec)

/-- 'staddlelaw19.CompactMore', WHERE WHAT IT READS IS OF BULK AT MOST 1048576: true; the input reads as it did. -/
def compactMoreUptoRow : OpenClaim := { program := "ytehoojmalhloeaa", sum := "5ac08174c47aa7ac1e1e642c9ecabc0280d0ee63c174172c6c689689808ce416", func := "staddle/staddlelaw19.CompactMore", spec := "compactMore", inPlace := ["internal/bytealg.abigen_runtime_cmpstring"], unfollowed := true, recurses := true, apart := false, narrowed := true }
def CompactMoreUptoSaid : Prop := compactMoreUptoRow.holds Try.pinned (OpenSpec.upto compactMoreSpec)

/-- 'staddlelaw16.MergeNames', WHERE WHAT IT READS IS OF BULK AT MOST 1048576: true; the input reads as it did. -/
def mergeNamesUptoRow : OpenClaim := { program := "ytehoojmalhloeaa", sum := "5ac08174c47aa7ac1e1e642c9ecabc0280d0ee63c174172c6c689689808ce416", func := "staddle/staddlelaw16.MergeNames", spec := "mergeNames", inPlace := ["internal/bytealg.abigen_runtime_cmpstring"], unfollowed := true, recurses := true, apart := false, narrowed := true }
def MergeNamesUptoSaid : Prop := mergeNamesUptoRow.holds Try.pinned (OpenSpec.upto mergeNamesSpec)

/-- 'staddlelaw16.MergeHolds', WHERE WHAT IT READS IS OF BULK AT MOST 1048576: true; the input reads as it did. -/
def mergeHoldsUptoRow : OpenClaim := { program := "ytehoojmalhloeaa", sum := "5ac08174c47aa7ac1e1e642c9ecabc0280d0ee63c174172c6c689689808ce416", func := "staddle/staddlelaw16.MergeHolds", spec := "mergeHolds", inPlace := ["internal/bytealg.abigen_runtime_cmpstring"], unfollowed := true, recurses := true, apart := false, narrowed := true }
def MergeHoldsUptoSaid : Prop := mergeHoldsUptoRow.holds Try.pinned (OpenSpec.upto mergeHoldsSpec)

/-- 'staddlelaw16.MergeOne', WHERE WHAT IT READS IS OF BULK AT MOST 1048576: true; the input reads as it did. -/
def mergeOneUptoRow : OpenClaim := { program := "ytehoojmalhloeaa", sum := "5ac08174c47aa7ac1e1e642c9ecabc0280d0ee63c174172c6c689689808ce416", func := "staddle/staddlelaw16.MergeOne", spec := "mergeOne", inPlace := ["internal/bytealg.abigen_runtime_cmpstring"], unfollowed := true, recurses := true, apart := false, narrowed := true }
def MergeOneUptoSaid : Prop := mergeOneUptoRow.holds Try.pinned (OpenSpec.upto mergeOneSpec)

/-- 'staddlelaw16.MergeGoes', WHERE WHAT IT READS IS OF BULK AT MOST 1048576: true; the input reads as it did. -/
def mergeGoesUptoRow : OpenClaim := { program := "ytehoojmalhloeaa", sum := "5ac08174c47aa7ac1e1e642c9ecabc0280d0ee63c174172c6c689689808ce416", func := "staddle/staddlelaw16.MergeGoes", spec := "mergeGoes", inPlace := ["internal/bytealg.abigen_runtime_cmpstring"], unfollowed := true, recurses := true, apart := false, narrowed := true }
def MergeGoesUptoSaid : Prop := mergeGoesUptoRow.holds Try.pinned (OpenSpec.upto mergeGoesSpec)

/-- 'staddlelaw16.MergePlays', WHERE WHAT IT READS IS OF BULK AT MOST 1048576: true; the input reads as it did. -/
def mergePlaysUptoRow : OpenClaim := { program := "ytehoojmalhloeaa", sum := "5ac08174c47aa7ac1e1e642c9ecabc0280d0ee63c174172c6c689689808ce416", func := "staddle/staddlelaw16.MergePlays", spec := "mergePlays", inPlace := ["internal/bytealg.abigen_runtime_cmpstring"], unfollowed := true, recurses := true, apart := false, narrowed := true }
def MergePlaysUptoSaid : Prop := mergePlaysUptoRow.holds Try.pinned (OpenSpec.upto mergePlaysSpec)

/-- 'staddlelaw16.MergeNil', WHERE WHAT IT READS IS OF BULK AT MOST 1048576: true; the input reads as it did. -/
def mergeNilUptoRow : OpenClaim := { program := "ytehoojmalhloeaa", sum := "5ac08174c47aa7ac1e1e642c9ecabc0280d0ee63c174172c6c689689808ce416", func := "staddle/staddlelaw16.MergeNil", spec := "mergeNil", inPlace := ["internal/bytealg.abigen_runtime_cmpstring"], unfollowed := true, recurses := true, apart := false, narrowed := true }
def MergeNilUptoSaid : Prop := mergeNilUptoRow.holds Try.pinned (OpenSpec.upto mergeNilSpec)

/-- 'staddlelaw17.ViewStays', WHERE WHAT IT READS IS OF BULK AT MOST 1048576: true; the input reads as it did. -/
def viewStaysUptoRow : OpenClaim := { program := "ytehoojmalhloeaa", sum := "5ac08174c47aa7ac1e1e642c9ecabc0280d0ee63c174172c6c689689808ce416", func := "staddle/staddlelaw17.ViewStays", spec := "viewStays", inPlace := ["internal/bytealg.abigen_runtime_cmpstring"], unfollowed := true, recurses := true, apart := false, narrowed := true }
def ViewStaysUptoSaid : Prop := viewStaysUptoRow.holds Try.pinned (OpenSpec.upto viewStaysSpec)

/-- 'staddlelaw17.ViewFalls', WHERE WHAT IT READS IS OF BULK AT MOST 1048576: true; the input reads as it did. -/
def viewFallsUptoRow : OpenClaim := { program := "ytehoojmalhloeaa", sum := "5ac08174c47aa7ac1e1e642c9ecabc0280d0ee63c174172c6c689689808ce416", func := "staddle/staddlelaw17.ViewFalls", spec := "viewFalls", inPlace := ["internal/bytealg.abigen_runtime_cmpstring"], unfollowed := true, recurses := true, apart := false, narrowed := true }
def ViewFallsUptoSaid : Prop := viewFallsUptoRow.holds Try.pinned (OpenSpec.upto viewFallsSpec)

/-- 'staddlelaw17.ViewSees', WHERE WHAT IT READS IS OF BULK AT MOST 1048576: true; the input reads as it did. -/
def viewSeesUptoRow : OpenClaim := { program := "ytehoojmalhloeaa", sum := "5ac08174c47aa7ac1e1e642c9ecabc0280d0ee63c174172c6c689689808ce416", func := "staddle/staddlelaw17.ViewSees", spec := "viewSees", inPlace := ["internal/bytealg.abigen_runtime_cmpstring"], unfollowed := true, recurses := true, apart := false, narrowed := true }
def ViewSeesUptoSaid : Prop := viewSeesUptoRow.holds Try.pinned (OpenSpec.upto viewSeesSpec)

/-- 'staddlelaw17.ViewSeeks', WHERE WHAT IT READS IS OF BULK AT MOST 1048576: true; the input reads as it did. -/
def viewSeeksUptoRow : OpenClaim := { program := "ytehoojmalhloeaa", sum := "5ac08174c47aa7ac1e1e642c9ecabc0280d0ee63c174172c6c689689808ce416", func := "staddle/staddlelaw17.ViewSeeks", spec := "viewSeeks", inPlace := ["internal/bytealg.abigen_runtime_cmpstring"], unfollowed := true, recurses := true, apart := false, narrowed := true }
def ViewSeeksUptoSaid : Prop := viewSeeksUptoRow.holds Try.pinned (OpenSpec.upto viewSeeksSpec)

/-- 'staddlelaw17.ViewTurns', WHERE WHAT IT READS IS OF BULK AT MOST 1048576: true; the input reads as it did. -/
def viewTurnsUptoRow : OpenClaim := { program := "ytehoojmalhloeaa", sum := "5ac08174c47aa7ac1e1e642c9ecabc0280d0ee63c174172c6c689689808ce416", func := "staddle/staddlelaw17.ViewTurns", spec := "viewTurns", inPlace := ["internal/bytealg.abigen_runtime_cmpstring"], unfollowed := true, recurses := true, apart := false, narrowed := true }
def ViewTurnsUptoSaid : Prop := viewTurnsUptoRow.holds Try.pinned (OpenSpec.upto viewTurnsSpec)

/-- 'staddlelaw17.ViewPlays', WHERE WHAT IT READS IS OF BULK AT MOST 1048576: true; the input reads as it did. -/
def viewPlaysUptoRow : OpenClaim := { program := "ytehoojmalhloeaa", sum := "5ac08174c47aa7ac1e1e642c9ecabc0280d0ee63c174172c6c689689808ce416", func := "staddle/staddlelaw17.ViewPlays", spec := "viewPlays", inPlace := ["internal/bytealg.abigen_runtime_cmpstring"], unfollowed := true, recurses := true, apart := false, narrowed := true }
def ViewPlaysUptoSaid : Prop := viewPlaysUptoRow.holds Try.pinned (OpenSpec.upto viewPlaysSpec)

/-- 'staddlelaw17.ViewNil', WHERE WHAT IT READS IS OF BULK AT MOST 1048576: true; the input reads as it did. -/
def viewNilUptoRow : OpenClaim := { program := "ytehoojmalhloeaa", sum := "5ac08174c47aa7ac1e1e642c9ecabc0280d0ee63c174172c6c689689808ce416", func := "staddle/staddlelaw17.ViewNil", spec := "viewNil", inPlace := ["internal/bytealg.abigen_runtime_cmpstring"], unfollowed := true, recurses := true, apart := false, narrowed := true }
def ViewNilUptoSaid : Prop := viewNilUptoRow.holds Try.pinned (OpenSpec.upto viewNilSpec)

end Rows
end Go.Proofs.Ytehoojmalhloeaa

/-
  No cell of these rows narrows 'for every input' (looked for: loops, veiled, ifaces, maps, wideKeys, modest, calm, conditions, laid).
  DERIVED. THE GIVEN ROWS OF THIS SEAT. 18 by the template 'for every input the law returns true; each argument reads behind the call as it read before'; 0 by the template 'total and deterministic' (their statements: YtdaagdohhnhbdaaTotals.lean).
  GIVEN WITH THE SEED: the statements are not yours to turn. If you find one false, say at which input.
  Laid BY PROGRAM, IN A SANDBOX (cutbox-rows.mjs): the forced cells as the released guide's own fill.sh prints them over the translation 1a16862fc410f6fb… (all of the seat's roots in one cut). By AI agents, Wed Nov 11 2026. No macro, syntax, notation, axiom, sorry.
-/
import Derived.Test.YtdaagdohhnhbdaaChecked
import GoSem.Claim
import GoSem.ClaimJoined
import GoSem.ClaimMapViews
import Derived.JoinedTies
import Derived.KernelRfl
namespace Go.Proofs.Ytdaagdohhnhbdaa
/- THE CELL 'sum', in the pinned program and in every row, IS THE sha256 OF THE DUMP (.gsa) THAT YtdaagdohhnhbdaaProg.lean LOADS. Nothing in Lean hashes anything: it is a label: what it is worth is what the hold of that sum in a sandbox is worth. -/
noncomputable def Try.pinned : Pinned := { name := "ytdaagdohhnhbdaa", sum := "1a16862fc410f6fb07c2d3776351dab5f39bb04d752fe8885b31abdd2f91d709", checked := Try.checked }
namespace Rows
def none {H : Type} : Left H := { results := [], args := [] }

/-- 'umlautlaw03.PartPres': WHATEVER THE INPUT: true; the input reads as it did. -/
def partPresSpec : ChangeSpec := { name := "partPres", fn := fun _ => fun
  | [d1, d2, d3] => { results := [.lit (.bool true)], args := [d1, d2, d3] }
  | _ => none }
def partPresRow : OpenClaim := { program := "ytdaagdohhnhbdaa", sum := "1a16862fc410f6fb07c2d3776351dab5f39bb04d752fe8885b31abdd2f91d709", func := "umlaut/umlautlaw03.PartPres", spec := "partPres", unfollowed := true, recurses := true, apart := false }
def PartPresSaid : Prop := partPresRow.holds Try.pinned (OpenSpec.ofChange partPresSpec)

/-- ITS FALSE NEIGHBOUR: 'it returns false'. Refute it at one input. -/
def partPresWrong : ChangeSpec := { name := "partPres", fn := fun _ => fun
  | [d1, d2, d3] => { results := [.lit (.bool false)], args := [d1, d2, d3] }
  | _ => none }
def PartPresWrongFalsely : Prop := partPresRow.holds Try.pinned (OpenSpec.ofChange partPresWrong)

/-- 'umlautlaw03.PartDigits': WHATEVER THE INPUT: true; the input reads as it did. -/
def partDigitsSpec : ChangeSpec := { name := "partDigits", fn := fun _ => fun
  | [d1, d2] => { results := [.lit (.bool true)], args := [d1, d2] }
  | _ => none }
def partDigitsRow : OpenClaim := { program := "ytdaagdohhnhbdaa", sum := "1a16862fc410f6fb07c2d3776351dab5f39bb04d752fe8885b31abdd2f91d709", func := "umlaut/umlautlaw03.PartDigits", spec := "partDigits", unfollowed := true, recurses := true, apart := false }
def PartDigitsSaid : Prop := partDigitsRow.holds Try.pinned (OpenSpec.ofChange partDigitsSpec)

/-- ITS FALSE NEIGHBOUR: 'it returns false'. Refute it at one input. -/
def partDigitsWrong : ChangeSpec := { name := "partDigits", fn := fun _ => fun
  | [d1, d2] => { results := [.lit (.bool false)], args := [d1, d2] }
  | _ => none }
def PartDigitsWrongFalsely : Prop := partDigitsRow.holds Try.pinned (OpenSpec.ofChange partDigitsWrong)

/-- 'umlautlaw03.PartWhole': WHATEVER THE INPUT: true; the input reads as it did. -/
def partWholeSpec : ChangeSpec := { name := "partWhole", fn := fun _ => fun
  | [d1, d2, d3] => { results := [.lit (.bool true)], args := [d1, d2, d3] }
  | _ => none }
def partWholeRow : OpenClaim := { program := "ytdaagdohhnhbdaa", sum := "1a16862fc410f6fb07c2d3776351dab5f39bb04d752fe8885b31abdd2f91d709", func := "umlaut/umlautlaw03.PartWhole", spec := "partWhole", unfollowed := true, recurses := true, apart := false }
def PartWholeSaid : Prop := partWholeRow.holds Try.pinned (OpenSpec.ofChange partWholeSpec)

/-- ITS FALSE NEIGHBOUR: 'it returns false'. Refute it at one input. -/
def partWholeWrong : ChangeSpec := { name := "partWhole", fn := fun _ => fun
  | [d1, d2, d3] => { results := [.lit (.bool false)], args := [d1, d2, d3] }
  | _ => none }
def PartWholeWrongFalsely : Prop := partWholeRow.holds Try.pinned (OpenSpec.ofChange partWholeWrong)

/-- 'umlautlaw03.PartValues': WHATEVER THE INPUT: true; the input reads as it did. -/
def partValuesSpec : ChangeSpec := { name := "partValues", fn := fun _ => fun
  | [d1, d2, d3] => { results := [.lit (.bool true)], args := [d1, d2, d3] }
  | _ => none }
def partValuesRow : OpenClaim := { program := "ytdaagdohhnhbdaa", sum := "1a16862fc410f6fb07c2d3776351dab5f39bb04d752fe8885b31abdd2f91d709", func := "umlaut/umlautlaw03.PartValues", spec := "partValues", unfollowed := true, recurses := true, apart := false }
def PartValuesSaid : Prop := partValuesRow.holds Try.pinned (OpenSpec.ofChange partValuesSpec)

/-- ITS FALSE NEIGHBOUR: 'it returns false'. Refute it at one input. -/
def partValuesWrong : ChangeSpec := { name := "partValues", fn := fun _ => fun
  | [d1, d2, d3] => { results := [.lit (.bool false)], args := [d1, d2, d3] }
  | _ => none }
def PartValuesWrongFalsely : Prop := partValuesRow.holds Try.pinned (OpenSpec.ofChange partValuesWrong)

/-- 'umlautlaw03.PartImages': WHATEVER THE INPUT: true; the input reads as it did. -/
def partImagesSpec : ChangeSpec := { name := "partImages", fn := fun _ => fun
  | [d1, d2] => { results := [.lit (.bool true)], args := [d1, d2] }
  | _ => none }
def partImagesRow : OpenClaim := { program := "ytdaagdohhnhbdaa", sum := "1a16862fc410f6fb07c2d3776351dab5f39bb04d752fe8885b31abdd2f91d709", func := "umlaut/umlautlaw03.PartImages", spec := "partImages", unfollowed := true, recurses := true, apart := false }
def PartImagesSaid : Prop := partImagesRow.holds Try.pinned (OpenSpec.ofChange partImagesSpec)

/-- ITS FALSE NEIGHBOUR: 'it returns false'. Refute it at one input. -/
def partImagesWrong : ChangeSpec := { name := "partImages", fn := fun _ => fun
  | [d1, d2] => { results := [.lit (.bool false)], args := [d1, d2] }
  | _ => none }
def PartImagesWrongFalsely : Prop := partImagesRow.holds Try.pinned (OpenSpec.ofChange partImagesWrong)

/-- 'umlautlaw03.PartPoints': WHATEVER THE INPUT: true; the input reads as it did. -/
def partPointsSpec : ChangeSpec := { name := "partPoints", fn := fun _ => fun
  | [d1, d2, d3, d4] => { results := [.lit (.bool true)], args := [d1, d2, d3, d4] }
  | _ => none }
def partPointsRow : OpenClaim := { program := "ytdaagdohhnhbdaa", sum := "1a16862fc410f6fb07c2d3776351dab5f39bb04d752fe8885b31abdd2f91d709", func := "umlaut/umlautlaw03.PartPoints", spec := "partPoints", unfollowed := true, recurses := true, apart := false }
def PartPointsSaid : Prop := partPointsRow.holds Try.pinned (OpenSpec.ofChange partPointsSpec)

/-- ITS FALSE NEIGHBOUR: 'it returns false'. Refute it at one input. -/
def partPointsWrong : ChangeSpec := { name := "partPoints", fn := fun _ => fun
  | [d1, d2, d3, d4] => { results := [.lit (.bool false)], args := [d1, d2, d3, d4] }
  | _ => none }
def PartPointsWrongFalsely : Prop := partPointsRow.holds Try.pinned (OpenSpec.ofChange partPointsWrong)

/-- 'umlautlaw05.MintermSplits': WHATEVER THE INPUT: true; the input reads as it did. -/
def mintermSplitsSpec : ChangeSpec := { name := "mintermSplits", fn := fun _ => fun
  | [d1, d2] => { results := [.lit (.bool true)], args := [d1, d2] }
  | _ => none }
def mintermSplitsRow : OpenClaim := { program := "ytdaagdohhnhbdaa", sum := "1a16862fc410f6fb07c2d3776351dab5f39bb04d752fe8885b31abdd2f91d709", func := "umlaut/umlautlaw05.MintermSplits", spec := "mintermSplits", unfollowed := true, recurses := true, apart := false }
def MintermSplitsSaid : Prop := mintermSplitsRow.holds Try.pinned (OpenSpec.ofChange mintermSplitsSpec)

/-- ITS FALSE NEIGHBOUR: 'it returns false'. Refute it at one input. -/
def mintermSplitsWrong : ChangeSpec := { name := "mintermSplits", fn := fun _ => fun
  | [d1, d2] => { results := [.lit (.bool false)], args := [d1, d2] }
  | _ => none }
def MintermSplitsWrongFalsely : Prop := mintermSplitsRow.holds Try.pinned (OpenSpec.ofChange mintermSplitsWrong)

/-- 'umlautlaw05.MintermRefines': WHATEVER THE INPUT: true; the input reads as it did. -/
def mintermRefinesSpec : ChangeSpec := { name := "mintermRefines", fn := fun _ => fun
  | [d1, d2] => { results := [.lit (.bool true)], args := [d1, d2] }
  | _ => none }
def mintermRefinesRow : OpenClaim := { program := "ytdaagdohhnhbdaa", sum := "1a16862fc410f6fb07c2d3776351dab5f39bb04d752fe8885b31abdd2f91d709", func := "umlaut/umlautlaw05.MintermRefines", spec := "mintermRefines", unfollowed := true, recurses := true, apart := false }
def MintermRefinesSaid : Prop := mintermRefinesRow.holds Try.pinned (OpenSpec.ofChange mintermRefinesSpec)

/-- ITS FALSE NEIGHBOUR: 'it returns false'. Refute it at one input. -/
def mintermRefinesWrong : ChangeSpec := { name := "mintermRefines", fn := fun _ => fun
  | [d1, d2] => { results := [.lit (.bool false)], args := [d1, d2] }
  | _ => none }
def MintermRefinesWrongFalsely : Prop := mintermRefinesRow.holds Try.pinned (OpenSpec.ofChange mintermRefinesWrong)

/-- 'umlautlaw05.MintermTells': WHATEVER THE INPUT: true; the input reads as it did. -/
def mintermTellsSpec : ChangeSpec := { name := "mintermTells", fn := fun _ => fun
  | [d1, d2, d3, d4] => { results := [.lit (.bool true)], args := [d1, d2, d3, d4] }
  | _ => none }
def mintermTellsRow : OpenClaim := { program := "ytdaagdohhnhbdaa", sum := "1a16862fc410f6fb07c2d3776351dab5f39bb04d752fe8885b31abdd2f91d709", func := "umlaut/umlautlaw05.MintermTells", spec := "mintermTells", unfollowed := true, recurses := true, apart := false }
def MintermTellsSaid : Prop := mintermTellsRow.holds Try.pinned (OpenSpec.ofChange mintermTellsSpec)

/-- ITS FALSE NEIGHBOUR: 'it returns false'. Refute it at one input. -/
def mintermTellsWrong : ChangeSpec := { name := "mintermTells", fn := fun _ => fun
  | [d1, d2, d3, d4] => { results := [.lit (.bool false)], args := [d1, d2, d3, d4] }
  | _ => none }
def MintermTellsWrongFalsely : Prop := mintermTellsRow.holds Try.pinned (OpenSpec.ofChange mintermTellsWrong)

/-- 'umlautlaw05.MintermMany': WHATEVER THE INPUT: true; the input reads as it did. -/
def mintermManySpec : ChangeSpec := { name := "mintermMany", fn := fun _ => fun
  | [d] => { results := [.lit (.bool true)], args := [d] }
  | _ => none }
def mintermManyRow : OpenClaim := { program := "ytdaagdohhnhbdaa", sum := "1a16862fc410f6fb07c2d3776351dab5f39bb04d752fe8885b31abdd2f91d709", func := "umlaut/umlautlaw05.MintermMany", spec := "mintermMany", unfollowed := true, recurses := true, apart := false }
def MintermManySaid : Prop := mintermManyRow.holds Try.pinned (OpenSpec.ofChange mintermManySpec)

/-- ITS FALSE NEIGHBOUR: 'it returns false'. Refute it at one input. -/
def mintermManyWrong : ChangeSpec := { name := "mintermMany", fn := fun _ => fun
  | [d] => { results := [.lit (.bool false)], args := [d] }
  | _ => none }
def MintermManyWrongFalsely : Prop := mintermManyRow.holds Try.pinned (OpenSpec.ofChange mintermManyWrong)

/-- 'umlautlaw05.MintermRows': WHATEVER THE INPUT: true; the input reads as it did. -/
def mintermRowsSpec : ChangeSpec := { name := "mintermRows", fn := fun _ => fun
  | [d] => { results := [.lit (.bool true)], args := [d] }
  | _ => none }
def mintermRowsRow : OpenClaim := { program := "ytdaagdohhnhbdaa", sum := "1a16862fc410f6fb07c2d3776351dab5f39bb04d752fe8885b31abdd2f91d709", func := "umlaut/umlautlaw05.MintermRows", spec := "mintermRows", unfollowed := true, recurses := true, apart := false }
def MintermRowsSaid : Prop := mintermRowsRow.holds Try.pinned (OpenSpec.ofChange mintermRowsSpec)

/-- ITS FALSE NEIGHBOUR: 'it returns false'. Refute it at one input. -/
def mintermRowsWrong : ChangeSpec := { name := "mintermRows", fn := fun _ => fun
  | [d] => { results := [.lit (.bool false)], args := [d] }
  | _ => none }
def MintermRowsWrongFalsely : Prop := mintermRowsRow.holds Try.pinned (OpenSpec.ofChange mintermRowsWrong)

/-- 'umlautlaw05.MintermClasses': WHATEVER THE INPUT: true; the input reads as it did. -/
def mintermClassesSpec : ChangeSpec := { name := "mintermClasses", fn := fun _ => fun
  | [d1, d2] => { results := [.lit (.bool true)], args := [d1, d2] }
  | _ => none }
def mintermClassesRow : OpenClaim := { program := "ytdaagdohhnhbdaa", sum := "1a16862fc410f6fb07c2d3776351dab5f39bb04d752fe8885b31abdd2f91d709", func := "umlaut/umlautlaw05.MintermClasses", spec := "mintermClasses", unfollowed := true, recurses := true, apart := false }
def MintermClassesSaid : Prop := mintermClassesRow.holds Try.pinned (OpenSpec.ofChange mintermClassesSpec)

/-- ITS FALSE NEIGHBOUR: 'it returns false'. Refute it at one input. -/
def mintermClassesWrong : ChangeSpec := { name := "mintermClasses", fn := fun _ => fun
  | [d1, d2] => { results := [.lit (.bool false)], args := [d1, d2] }
  | _ => none }
def MintermClassesWrongFalsely : Prop := mintermClassesRow.holds Try.pinned (OpenSpec.ofChange mintermClassesWrong)

/-- 'umlautlaw05.MintermUnions': WHATEVER THE INPUT: true; the input reads as it did. -/
def mintermUnionsSpec : ChangeSpec := { name := "mintermUnions", fn := fun _ => fun
  | [d1, d2] => { results := [.lit (.bool true)], args := [d1, d2] }
  | _ => none }
def mintermUnionsRow : OpenClaim := { program := "ytdaagdohhnhbdaa", sum := "1a16862fc410f6fb07c2d3776351dab5f39bb04d752fe8885b31abdd2f91d709", func := "umlaut/umlautlaw05.MintermUnions", spec := "mintermUnions", unfollowed := true, recurses := true, apart := false }
def MintermUnionsSaid : Prop := mintermUnionsRow.holds Try.pinned (OpenSpec.ofChange mintermUnionsSpec)

/-- ITS FALSE NEIGHBOUR: 'it returns false'. Refute it at one input. -/
def mintermUnionsWrong : ChangeSpec := { name := "mintermUnions", fn := fun _ => fun
  | [d1, d2] => { results := [.lit (.bool false)], args := [d1, d2] }
  | _ => none }
def MintermUnionsWrongFalsely : Prop := mintermUnionsRow.holds Try.pinned (OpenSpec.ofChange mintermUnionsWrong)

/-- 'umlautlaw12.BoxFinds': WHATEVER THE INPUT: true; the input reads as it did. -/
def boxFindsSpec : ChangeSpec := { name := "boxFinds", fn := fun _ => fun
  | [d1, d2, d3, d4] => { results := [.lit (.bool true)], args := [d1, d2, d3, d4] }
  | _ => none }
def boxFindsRow : OpenClaim := { program := "ytdaagdohhnhbdaa", sum := "1a16862fc410f6fb07c2d3776351dab5f39bb04d752fe8885b31abdd2f91d709", func := "umlaut/umlautlaw12.BoxFinds", spec := "boxFinds", unfollowed := true, recurses := true, apart := false }
def BoxFindsSaid : Prop := boxFindsRow.holds Try.pinned (OpenSpec.ofChange boxFindsSpec)

/-- ITS FALSE NEIGHBOUR: 'it returns false'. Refute it at one input. -/
def boxFindsWrong : ChangeSpec := { name := "boxFinds", fn := fun _ => fun
  | [d1, d2, d3, d4] => { results := [.lit (.bool false)], args := [d1, d2, d3, d4] }
  | _ => none }
def BoxFindsWrongFalsely : Prop := boxFindsRow.holds Try.pinned (OpenSpec.ofChange boxFindsWrong)

/-- 'umlautlaw12.BoxAll': WHATEVER THE INPUT: true; the input reads as it did. -/
def boxAllSpec : ChangeSpec := { name := "boxAll", fn := fun _ => fun
  | [d1, d2, d3] => { results := [.lit (.bool true)], args := [d1, d2, d3] }
  | _ => none }
def boxAllRow : OpenClaim := { program := "ytdaagdohhnhbdaa", sum := "1a16862fc410f6fb07c2d3776351dab5f39bb04d752fe8885b31abdd2f91d709", func := "umlaut/umlautlaw12.BoxAll", spec := "boxAll", unfollowed := true, recurses := true, apart := false }
def BoxAllSaid : Prop := boxAllRow.holds Try.pinned (OpenSpec.ofChange boxAllSpec)

/-- ITS FALSE NEIGHBOUR: 'it returns false'. Refute it at one input. -/
def boxAllWrong : ChangeSpec := { name := "boxAll", fn := fun _ => fun
  | [d1, d2, d3] => { results := [.lit (.bool false)], args := [d1, d2, d3] }
  | _ => none }
def BoxAllWrongFalsely : Prop := boxAllRow.holds Try.pinned (OpenSpec.ofChange boxAllWrong)

/-- 'umlautlaw12.BoxMeets': WHATEVER THE INPUT: true; the input reads as it did. -/
def boxMeetsSpec : ChangeSpec := { name := "boxMeets", fn := fun _ => fun
  | [d1, d2, d3] => { results := [.lit (.bool true)], args := [d1, d2, d3] }
  | _ => none }
def boxMeetsRow : OpenClaim := { program := "ytdaagdohhnhbdaa", sum := "1a16862fc410f6fb07c2d3776351dab5f39bb04d752fe8885b31abdd2f91d709", func := "umlaut/umlautlaw12.BoxMeets", spec := "boxMeets", unfollowed := true, recurses := true, apart := false }
def BoxMeetsSaid : Prop := boxMeetsRow.holds Try.pinned (OpenSpec.ofChange boxMeetsSpec)

/-- ITS FALSE NEIGHBOUR: 'it returns false'. Refute it at one input. -/
def boxMeetsWrong : ChangeSpec := { name := "boxMeets", fn := fun _ => fun
  | [d1, d2, d3] => { results := [.lit (.bool false)], args := [d1, d2, d3] }
  | _ => none }
def BoxMeetsWrongFalsely : Prop := boxMeetsRow.holds Try.pinned (OpenSpec.ofChange boxMeetsWrong)

/-- 'umlautlaw12.BoxShapes': WHATEVER THE INPUT: true; the input reads as it did. -/
def boxShapesSpec : ChangeSpec := { name := "boxShapes", fn := fun _ => fun
  | [d1, d2, d3] => { results := [.lit (.bool true)], args := [d1, d2, d3] }
  | _ => none }
def boxShapesRow : OpenClaim := { program := "ytdaagdohhnhbdaa", sum := "1a16862fc410f6fb07c2d3776351dab5f39bb04d752fe8885b31abdd2f91d709", func := "umlaut/umlautlaw12.BoxShapes", spec := "boxShapes", unfollowed := true, recurses := true, apart := false }
def BoxShapesSaid : Prop := boxShapesRow.holds Try.pinned (OpenSpec.ofChange boxShapesSpec)

/-- ITS FALSE NEIGHBOUR: 'it returns false'. Refute it at one input. -/
def boxShapesWrong : ChangeSpec := { name := "boxShapes", fn := fun _ => fun
  | [d1, d2, d3] => { results := [.lit (.bool false)], args := [d1, d2, d3] }
  | _ => none }
def BoxShapesWrongFalsely : Prop := boxShapesRow.holds Try.pinned (OpenSpec.ofChange boxShapesWrong)

/-- 'umlautlaw12.BoxSides': WHATEVER THE INPUT: true; the input reads as it did. -/
def boxSidesSpec : ChangeSpec := { name := "boxSides", fn := fun _ => fun
  | [d1, d2, d3, d4] => { results := [.lit (.bool true)], args := [d1, d2, d3, d4] }
  | _ => none }
def boxSidesRow : OpenClaim := { program := "ytdaagdohhnhbdaa", sum := "1a16862fc410f6fb07c2d3776351dab5f39bb04d752fe8885b31abdd2f91d709", func := "umlaut/umlautlaw12.BoxSides", spec := "boxSides", unfollowed := true, recurses := true, apart := false }
def BoxSidesSaid : Prop := boxSidesRow.holds Try.pinned (OpenSpec.ofChange boxSidesSpec)

/-- ITS FALSE NEIGHBOUR: 'it returns false'. Refute it at one input. -/
def boxSidesWrong : ChangeSpec := { name := "boxSides", fn := fun _ => fun
  | [d1, d2, d3, d4] => { results := [.lit (.bool false)], args := [d1, d2, d3, d4] }
  | _ => none }
def BoxSidesWrongFalsely : Prop := boxSidesRow.holds Try.pinned (OpenSpec.ofChange boxSidesWrong)

/- THE SECOND FORM. 'bulk': how many values and letters a reading holds, each counted each time it is reached (what is shared counts as often as it is met; a slice's spare places count too). A statement '..UptoSaid' is the law's where the arguments, and the package variables that the reading takes, are together of bulk at most 1048576: NARROWER than '..Said'. Prove '..Said' where nothing that the law and all that it calls make is longer than what came in: it says more and counts as full. Else prove '..UptoSaid'. A law counts once. -/
mutual
def uptoBulk {H : Type} : DataW H → Nat
  | .lit (.string bytes) => bytes.length + 1
  | .lit _ => 1
  | .nil => 1
  | .ptr d => uptoBulk d + 1
  | .slice elems spare => uptoBulkAll elems + uptoBulkAll spare + 1
  | .agg parts => uptoBulkAll parts + 1
  | .iface _ d => uptoBulk d + 1
  | .map entries => uptoBulkEntries entries + 1
  | .held _ => 1
def uptoBulkAll {H : Type} : List (DataW H) → Nat
  | [] => 0
  | d :: r => uptoBulk d + uptoBulkAll r
def uptoBulkEntries {H : Type} : List (Lit × DataW H) → Nat
  | [] => 0
  | x :: r => uptoBulkEntry x + uptoBulkEntries r
def uptoBulkEntry {H : Type} : Lit × DataW H → Nat
  | (.string bytes, d) => bytes.length + uptoBulk d + 1
  | (_, d) => uptoBulk d + 1
 end
def uptoSmall : (H : Type) → List (DataW H) → Bool := fun _ ds => decide (uptoBulkAll ds ≤ 1048576)
def OpenSpec.upto (s : _root_.Go.ChangeSpec) : _root_.Go.OpenSpec := { _root_.Go.OpenSpec.ofChange s with cond := some uptoSmall }

/-- 'umlautlaw03.PartPres', WHERE WHAT IT READS IS OF BULK AT MOST 1048576: true; the input reads as it did. -/
def partPresUptoRow : OpenClaim := { program := "ytdaagdohhnhbdaa", sum := "1a16862fc410f6fb07c2d3776351dab5f39bb04d752fe8885b31abdd2f91d709", func := "umlaut/umlautlaw03.PartPres", spec := "partPres", unfollowed := true, recurses := true, apart := false, narrowed := true }
def PartPresUptoSaid : Prop := partPresUptoRow.holds Try.pinned (OpenSpec.upto partPresSpec)

/-- 'umlautlaw03.PartDigits', WHERE WHAT IT READS IS OF BULK AT MOST 1048576: true; the input reads as it did. -/
def partDigitsUptoRow : OpenClaim := { program := "ytdaagdohhnhbdaa", sum := "1a16862fc410f6fb07c2d3776351dab5f39bb04d752fe8885b31abdd2f91d709", func := "umlaut/umlautlaw03.PartDigits", spec := "partDigits", unfollowed := true, recurses := true, apart := false, narrowed := true }
def PartDigitsUptoSaid : Prop := partDigitsUptoRow.holds Try.pinned (OpenSpec.upto partDigitsSpec)

/-- 'umlautlaw03.PartWhole', WHERE WHAT IT READS IS OF BULK AT MOST 1048576: true; the input reads as it did. -/
def partWholeUptoRow : OpenClaim := { program := "ytdaagdohhnhbdaa", sum := "1a16862fc410f6fb07c2d3776351dab5f39bb04d752fe8885b31abdd2f91d709", func := "umlaut/umlautlaw03.PartWhole", spec := "partWhole", unfollowed := true, recurses := true, apart := false, narrowed := true }
def PartWholeUptoSaid : Prop := partWholeUptoRow.holds Try.pinned (OpenSpec.upto partWholeSpec)

/-- 'umlautlaw03.PartValues', WHERE WHAT IT READS IS OF BULK AT MOST 1048576: true; the input reads as it did. -/
def partValuesUptoRow : OpenClaim := { program := "ytdaagdohhnhbdaa", sum := "1a16862fc410f6fb07c2d3776351dab5f39bb04d752fe8885b31abdd2f91d709", func := "umlaut/umlautlaw03.PartValues", spec := "partValues", unfollowed := true, recurses := true, apart := false, narrowed := true }
def PartValuesUptoSaid : Prop := partValuesUptoRow.holds Try.pinned (OpenSpec.upto partValuesSpec)

/-- 'umlautlaw03.PartImages', WHERE WHAT IT READS IS OF BULK AT MOST 1048576: true; the input reads as it did. -/
def partImagesUptoRow : OpenClaim := { program := "ytdaagdohhnhbdaa", sum := "1a16862fc410f6fb07c2d3776351dab5f39bb04d752fe8885b31abdd2f91d709", func := "umlaut/umlautlaw03.PartImages", spec := "partImages", unfollowed := true, recurses := true, apart := false, narrowed := true }
def PartImagesUptoSaid : Prop := partImagesUptoRow.holds Try.pinned (OpenSpec.upto partImagesSpec)

/-- 'umlautlaw03.PartPoints', WHERE WHAT IT READS IS OF BULK AT MOST 1048576: true; the input reads as it did. -/
def partPointsUptoRow : OpenClaim := { program := "ytdaagdohhnhbdaa", sum := "1a16862fc410f6fb07c2d3776351dab5f39bb04d752fe8885b31abdd2f91d709", func := "umlaut/umlautlaw03.PartPoints", spec := "partPoints", unfollowed := true, recurses := true, apart := false, narrowed := true }
def PartPointsUptoSaid : Prop := partPointsUptoRow.holds Try.pinned (OpenSpec.upto partPointsSpec)

/-- 'umlautlaw05.MintermSplits', WHERE WHAT IT READS IS OF BULK AT MOST 1048576: true; the input reads as it did. -/
def mintermSplitsUptoRow : OpenClaim := { program := "ytdaagdohhnhbdaa", sum := "1a16862fc410f6fb07c2d3776351dab5f39bb04d752fe8885b31abdd2f91d709", func := "umlaut/umlautlaw05.MintermSplits", spec := "mintermSplits", unfollowed := true, recurses := true, apart := false, narrowed := true }
def MintermSplitsUptoSaid : Prop := mintermSplitsUptoRow.holds Try.pinned (OpenSpec.upto mintermSplitsSpec)

/-- 'umlautlaw05.MintermRefines', WHERE WHAT IT READS IS OF BULK AT MOST 1048576: true; the input reads as it did. -/
def mintermRefinesUptoRow : OpenClaim := { program := "ytdaagdohhnhbdaa", sum := "1a16862fc410f6fb07c2d3776351dab5f39bb04d752fe8885b31abdd2f91d709", func := "umlaut/umlautlaw05.MintermRefines", spec := "mintermRefines", unfollowed := true, recurses := true, apart := false, narrowed := true }
def MintermRefinesUptoSaid : Prop := mintermRefinesUptoRow.holds Try.pinned (OpenSpec.upto mintermRefinesSpec)

/-- 'umlautlaw05.MintermTells', WHERE WHAT IT READS IS OF BULK AT MOST 1048576: true; the input reads as it did. -/
def mintermTellsUptoRow : OpenClaim := { program := "ytdaagdohhnhbdaa", sum := "1a16862fc410f6fb07c2d3776351dab5f39bb04d752fe8885b31abdd2f91d709", func := "umlaut/umlautlaw05.MintermTells", spec := "mintermTells", unfollowed := true, recurses := true, apart := false, narrowed := true }
def MintermTellsUptoSaid : Prop := mintermTellsUptoRow.holds Try.pinned (OpenSpec.upto mintermTellsSpec)

/-- 'umlautlaw05.MintermMany', WHERE WHAT IT READS IS OF BULK AT MOST 1048576: true; the input reads as it did. -/
def mintermManyUptoRow : OpenClaim := { program := "ytdaagdohhnhbdaa", sum := "1a16862fc410f6fb07c2d3776351dab5f39bb04d752fe8885b31abdd2f91d709", func := "umlaut/umlautlaw05.MintermMany", spec := "mintermMany", unfollowed := true, recurses := true, apart := false, narrowed := true }
def MintermManyUptoSaid : Prop := mintermManyUptoRow.holds Try.pinned (OpenSpec.upto mintermManySpec)

/-- 'umlautlaw05.MintermRows', WHERE WHAT IT READS IS OF BULK AT MOST 1048576: true; the input reads as it did. -/
def mintermRowsUptoRow : OpenClaim := { program := "ytdaagdohhnhbdaa", sum := "1a16862fc410f6fb07c2d3776351dab5f39bb04d752fe8885b31abdd2f91d709", func := "umlaut/umlautlaw05.MintermRows", spec := "mintermRows", unfollowed := true, recurses := true, apart := false, narrowed := true }
def MintermRowsUptoSaid : Prop := mintermRowsUptoRow.holds Try.pinned (OpenSpec.upto mintermRowsSpec)

/-- 'umlautlaw05.MintermClasses', WHERE WHAT IT READS IS OF BULK AT MOST 1048576: true; the input reads as it did. -/
def mintermClassesUptoRow : OpenClaim := { program := "ytdaagdohhnhbdaa", sum := "1a16862fc410f6fb07c2d3776351dab5f39bb04d752fe8885b31abdd2f91d709", func := "umlaut/umlautlaw05.MintermClasses", spec := "mintermClasses", unfollowed := true, recurses := true, apart := false, narrowed := true }
def MintermClassesUptoSaid : Prop := mintermClassesUptoRow.holds Try.pinned (OpenSpec.upto mintermClassesSpec)

/-- 'umlautlaw05.MintermUnions', WHERE WHAT IT READS IS OF BULK AT MOST 1048576: true; the input reads as it did. -/
def mintermUnionsUptoRow : OpenClaim := { program := "ytdaagdohhnhbdaa", sum := "1a16862fc410f6fb07c2d3776351dab5f39bb04d752fe8885b31abdd2f91d709", func := "umlaut/umlautlaw05.MintermUnions", spec := "mintermUnions", unfollowed := true, recurses := true, apart := false, narrowed := true }
def MintermUnionsUptoSaid : Prop := mintermUnionsUptoRow.holds Try.pinned (OpenSpec.upto mintermUnionsSpec)

/-- 'umlautlaw12.BoxFinds', WHERE WHAT IT READS IS OF BULK AT MOST 1048576: true; the input reads as it did. -/
def boxFindsUptoRow : OpenClaim := { program := "ytdaagdohhnhbdaa", sum := "1a16862fc410f6fb07c2d3776351dab5f39bb04d752fe8885b31abdd2f91d709", func := "umlaut/umlautlaw12.BoxFinds", spec := "boxFinds", unfollowed := true, recurses := true, apart := false, narrowed := true }
def BoxFindsUptoSaid : Prop := boxFindsUptoRow.holds Try.pinned (OpenSpec.upto boxFindsSpec)

/-- 'umlautlaw12.BoxAll', WHERE WHAT IT READS IS OF BULK AT MOST 1048576: true; the input reads as it did. -/
def boxAllUptoRow : OpenClaim := { program := "ytdaagdohhnhbdaa", sum := "1a16862fc410f6fb07c2d3776351dab5f39bb04d752fe8885b31abdd2f91d709", func := "umlaut/umlautlaw12.BoxAll", spec := "boxAll", unfollowed := true, recurses := true, apart := false, narrowed := true }
def BoxAllUptoSaid : Prop := boxAllUptoRow.holds Try.pinned (OpenSpec.upto boxAllSpec)

/-- 'umlautlaw12.BoxMeets', WHERE WHAT IT READS IS OF BULK AT MOST 1048576: true; the input reads as it did. -/
def boxMeetsUptoRow : OpenClaim := { program := "ytdaagdohhnhbdaa", sum := "1a16862fc410f6fb07c2d3776351dab5f39bb04d752fe8885b31abdd2f91d709", func := "umlaut/umlautlaw12.BoxMeets", spec := "boxMeets", unfollowed := true, recurses := true, apart := false, narrowed := true }
def BoxMeetsUptoSaid : Prop := boxMeetsUptoRow.holds Try.pinned (OpenSpec.upto boxMeetsSpec)

/-- 'umlautlaw12.BoxShapes', WHERE WHAT IT READS IS OF BULK AT MOST 1048576: true; the input reads as it did. -/
def boxShapesUptoRow : OpenClaim := { program := "ytdaagdohhnhbdaa", sum := "1a16862fc410f6fb07c2d3776351dab5f39bb04d752fe8885b31abdd2f91d709", func := "umlaut/umlautlaw12.BoxShapes", spec := "boxShapes", unfollowed := true, recurses := true, apart := false, narrowed := true }
def BoxShapesUptoSaid : Prop := boxShapesUptoRow.holds Try.pinned (OpenSpec.upto boxShapesSpec)

/-- 'umlautlaw12.BoxSides', WHERE WHAT IT READS IS OF BULK AT MOST 1048576: true; the input reads as it did. -/
def boxSidesUptoRow : OpenClaim := { program := "ytdaagdohhnhbdaa", sum := "1a16862fc410f6fb07c2d3776351dab5f39bb04d752fe8885b31abdd2f91d709", func := "umlaut/umlautlaw12.BoxSides", spec := "boxSides", unfollowed := true, recurses := true, apart := false, narrowed := true }
def BoxSidesUptoSaid : Prop := boxSidesUptoRow.holds Try.pinned (OpenSpec.upto boxSidesSpec)

end Rows
end Go.Proofs.Ytdaagdohhnhbdaa

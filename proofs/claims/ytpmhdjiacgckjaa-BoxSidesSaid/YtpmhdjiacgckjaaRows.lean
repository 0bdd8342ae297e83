/-
  No cell of these rows narrows 'for every input' (looked for: loops, veiled, ifaces, maps, wideKeys, modest, calm, conditions, laid).
  DERIVED. THE GIVEN ROWS OF THIS SEAT. 5 by the template 'for every input the law returns true; each argument reads behind the call as it read before'; 0 by the template 'total and deterministic' (their statements: YtpmhdjiacgckjaaTotals.lean).
  GIVEN WITH THE SEED: the statements are not yours to turn. If you find one false, say at which input.
  Laid BY PROGRAM, IN A SANDBOX (cutbox-rows.mjs): the forced cells as the released guide's own fill.sh prints them over the translation 964df612b7964901… (all of the seat's roots in one cut). By AI agents, Wed Nov 11 2026. No macro, syntax, notation, axiom, sorry.
-/
import Derived.Test.YtpmhdjiacgckjaaChecked
import GoSem.Claim
import GoSem.ClaimJoined
import GoSem.ClaimMapViews
import Derived.JoinedTies
import Derived.KernelRfl
namespace Go.Proofs.Ytpmhdjiacgckjaa
/- THE CELL 'sum', in the pinned program and in every row, IS THE sha256 OF THE DUMP (.gsa) THAT YtpmhdjiacgckjaaProg.lean LOADS. Nothing in Lean hashes anything: it is a label: what it is worth is what the hold of that sum in a sandbox is worth. -/
noncomputable def Try.pinned : Pinned := { name := "ytpmhdjiacgckjaa", sum := "964df612b79649016d9cd060102b565aa5bf48096b734c391a929965c2c0f1a3", checked := Try.checked }
namespace Rows
def none {H : Type} : Left H := { results := [], args := [] }

/-- 'umlautlaw12.BoxFinds': WHATEVER THE INPUT: true; the input reads as it did. -/
def boxFindsSpec : ChangeSpec := { name := "boxFinds", fn := fun _ => fun
  | [d1, d2, d3, d4] => { results := [.lit (.bool true)], args := [d1, d2, d3, d4] }
  | _ => none }
def boxFindsRow : OpenClaim := { program := "ytpmhdjiacgckjaa", sum := "964df612b79649016d9cd060102b565aa5bf48096b734c391a929965c2c0f1a3", func := "umlaut/umlautlaw12.BoxFinds", spec := "boxFinds", unfollowed := true, recurses := true, apart := false }
def BoxFindsSaid : Prop := boxFindsRow.holds Try.pinned (OpenSpec.ofChange boxFindsSpec)

/-- ITS FALSE NEIGHBOUR: 'it returns false'. Refute it at one input. -/
def boxFindsWrong : ChangeSpec := { name := "boxFinds", fn := fun _ => fun
  | [d1, d2, d3, d4] => { results := [.lit (.bool false)], args := [d1, d2, d3, d4] }
  | _ => none }
def BoxFindsWrongFalsely : Prop := boxFindsRow.holds Try.pinned (OpenSpec.ofChange boxFindsWrong)

/-- 'umlautlaw12.BoxAll': WHATEVER THE INPUT: true; the input reads as it did. -/
def boxAllSpec : ChangeSpec := { name := "boxAll", fn := fun _ => fun
  | [d1, d2, d3] => { results := [.lit (.bool true)], args := [d1, d2, d3] }
  | _ => none }
def boxAllRow : OpenClaim := { program := "ytpmhdjiacgckjaa", sum := "964df612b79649016d9cd060102b565aa5bf48096b734c391a929965c2c0f1a3", func := "umlaut/umlautlaw12.BoxAll", spec := "boxAll", unfollowed := true, recurses := true, apart := false }
def BoxAllSaid : Prop := boxAllRow.holds Try.pinned (OpenSpec.ofChange boxAllSpec)

/-- ITS FALSE NEIGHBOUR: 'it returns false'. Refute it at one input. -/
def boxAllWrong : ChangeSpec := { name := "boxAll", fn := fun _ => fun
  | [d1, d2, d3] => { results := [.lit (.bool false)], args := [d1, d2, d3] }
  | _ => none }
def BoxAllWrongFalsely : Prop := boxAllRow.holds Try.pinned (OpenSpec.ofChange boxAllWrong)

/-- 'umlautlaw12.BoxMeets': WHATEVER THE INPUT: true; the input reads as it did. -/
def boxMeetsSpec : ChangeSpec := { name := "boxMeets", fn := fun _ => fun
  | [d1, d2, d3] => { results := [.lit (.bool true)], args := [d1, d2, d3] }
  | _ => none }
def boxMeetsRow : OpenClaim := { program := "ytpmhdjiacgckjaa", sum := "964df612b79649016d9cd060102b565aa5bf48096b734c391a929965c2c0f1a3", func := "umlaut/umlautlaw12.BoxMeets", spec := "boxMeets", unfollowed := true, recurses := true, apart := false }
def BoxMeetsSaid : Prop := boxMeetsRow.holds Try.pinned (OpenSpec.ofChange boxMeetsSpec)

/-- ITS FALSE NEIGHBOUR: 'it returns false'. Refute it at one input. -/
def boxMeetsWrong : ChangeSpec := { name := "boxMeets", fn := fun _ => fun
  | [d1, d2, d3] => { results := [.lit (.bool false)], args := [d1, d2, d3] }
  | _ => none }
def BoxMeetsWrongFalsely : Prop := boxMeetsRow.holds Try.pinned (OpenSpec.ofChange boxMeetsWrong)

/-- 'umlautlaw12.BoxShapes': WHATEVER THE INPUT: true; the input reads as it did. -/
def boxShapesSpec : ChangeSpec := { name := "boxShapes", fn := fun _ => fun
  | [d1, d2, d3] => { results := [.lit (.bool true)], args := [d1, d2, d3] }
  | _ => none }
def boxShapesRow : OpenClaim := { program := "ytpmhdjiacgckjaa", sum := "964df612b79649016d9cd060102b565aa5bf48096b734c391a929965c2c0f1a3", func := "umlaut/umlautlaw12.BoxShapes", spec := "boxShapes", unfollowed := true, recurses := true, apart := false }
def BoxShapesSaid : Prop := boxShapesRow.holds Try.pinned (OpenSpec.ofChange boxShapesSpec)

/-- ITS FALSE NEIGHBOUR: 'it returns false'. Refute it at one input. -/
def boxShapesWrong : ChangeSpec := { name := "boxShapes", fn := fun _ => fun
  | [d1, d2, d3] => { results := [.lit (.bool false)], args := [d1, d2, d3] }
  | _ => none }
def BoxShapesWrongFalsely : Prop := boxShapesRow.holds Try.pinned (OpenSpec.ofChange boxShapesWrong)

/-- 'umlautlaw12.BoxSides': WHATEVER THE INPUT: true; the input reads as it did. -/
def boxSidesSpec : ChangeSpec := { name := "boxSides", fn := fun _ => fun
  | [d1, d2, d3, d4] => { results := [.lit (.bool true)], args := [d1, d2, d3, d4] }
  | _ => none }
def boxSidesRow : OpenClaim := { program := "ytpmhdjiacgckjaa", sum := "964df612b79649016d9cd060102b565aa5bf48096b734c391a929965c2c0f1a3", func := "umlaut/umlautlaw12.BoxSides", spec := "boxSides", unfollowed := true, recurses := true, apart := false }
def BoxSidesSaid : Prop := boxSidesRow.holds Try.pinned (OpenSpec.ofChange boxSidesSpec)

/-- ITS FALSE NEIGHBOUR: 'it returns false'. Refute it at one input. -/
def boxSidesWrong : ChangeSpec := { name := "boxSides", fn := fun _ => fun
  | [d1, d2, d3, d4] => { results := [.lit (.bool false)], args := [d1, d2, d3, d4] }
  | _ => none }
def BoxSidesWrongFalsely : Prop := boxSidesRow.holds Try.pinned (OpenSpec.ofChange boxSidesWrong)

/- THE SECOND FORM. 'bulk': how many values and letters a reading holds, each counted each time it is reached (what is shared counts as often as it is met; a slice's spare places count too). A statement '..UptoSaid' is the law's where the arguments, and the package variables that the reading takes, are together of bulk at most 1048576: NARROWER than '..Said'. Prove '..Said' where nothing that the law and all that it calls make is longer than what came in: it says more and counts as full. Else prove '..UptoSaid'. A law counts once. -/
mutual
def uptoBulk {H : Type} : DataW H → Nat
  | .lit (.string bytes) => bytes.length + 1
  | .lit _ => 1
  | .nil => 1
  | .ptr d => uptoBulk d + 1
  | .slice elems spare => uptoBulkAll elems + uptoBulkAll spare + 1
  | .agg parts => uptoBulkAll parts + 1
  | .iface _ d => uptoBulk d + 1
  | .map entries => uptoBulkEntries entries + 1
  | .held _ => 1
def uptoBulkAll {H : Type} : List (DataW H) → Nat
  | [] => 0
  | d :: r => uptoBulk d + uptoBulkAll r
def uptoBulkEntries {H : Type} : List (Lit × DataW H) → Nat
  | [] => 0
  | x :: r => uptoBulkEntry x + uptoBulkEntries r
def uptoBulkEntry {H : Type} : Lit × DataW H → Nat
  | (.string bytes, d) => bytes.length + uptoBulk d + 1
  | (_, d) => uptoBulk d + 1
 end
def uptoSmall : (H : Type) → List (DataW H) → Bool := fun _ ds => decide (uptoBulkAll ds ≤ 1048576)
def OpenSpec.upto (s : _root_.Go.ChangeSpec) : _root_.Go.OpenSpec := { _root_.Go.OpenSpec.ofChange s with cond := some uptoSmall }

/-- 'umlautlaw12.BoxFinds', WHERE WHAT IT READS IS OF BULK AT MOST 1048576: true; the input reads as it did. -/
def boxFindsUptoRow : OpenClaim := { program := "ytpmhdjiacgckjaa", sum := "964df612b79649016d9cd060102b565aa5bf48096b734c391a929965c2c0f1a3", func := "umlaut/umlautlaw12.BoxFinds", spec := "boxFinds", unfollowed := true, recurses := true, apart := false, narrowed := true }
def BoxFindsUptoSaid : Prop := boxFindsUptoRow.holds Try.pinned (OpenSpec.upto boxFindsSpec)

/-- 'umlautlaw12.BoxAll', WHERE WHAT IT READS IS OF BULK AT MOST 1048576: true; the input reads as it did. -/
def boxAllUptoRow : OpenClaim := { program := "ytpmhdjiacgckjaa", sum := "964df612b79649016d9cd060102b565aa5bf48096b734c391a929965c2c0f1a3", func := "umlaut/umlautlaw12.BoxAll", spec := "boxAll", unfollowed := true, recurses := true, apart := false, narrowed := true }
def BoxAllUptoSaid : Prop := boxAllUptoRow.holds Try.pinned (OpenSpec.upto boxAllSpec)

/-- 'umlautlaw12.BoxMeets', WHERE WHAT IT READS IS OF BULK AT MOST 1048576: true; the input reads as it did. -/
def boxMeetsUptoRow : OpenClaim := { program := "ytpmhdjiacgckjaa", sum := "964df612b79649016d9cd060102b565aa5bf48096b734c391a929965c2c0f1a3", func := "umlaut/umlautlaw12.BoxMeets", spec := "boxMeets", unfollowed := true, recurses := true, apart := false, narrowed := true }
def BoxMeetsUptoSaid : Prop := boxMeetsUptoRow.holds Try.pinned (OpenSpec.upto boxMeetsSpec)

/-- 'umlautlaw12.BoxShapes', WHERE WHAT IT READS IS OF BULK AT MOST 1048576: true; the input reads as it did. -/
def boxShapesUptoRow : OpenClaim := { program := "ytpmhdjiacgckjaa", sum := "964df612b79649016d9cd060102b565aa5bf48096b734c391a929965c2c0f1a3", func := "umlaut/umlautlaw12.BoxShapes", spec := "boxShapes", unfollowed := true, recurses := true, apart := false, narrowed := true }
def BoxShapesUptoSaid : Prop := boxShapesUptoRow.holds Try.pinned (OpenSpec.upto boxShapesSpec)

/-- 'umlautlaw12.BoxSides', WHERE WHAT IT READS IS OF BULK AT MOST 1048576: true; the input reads as it did. -/
def boxSidesUptoRow : OpenClaim := { program := "ytpmhdjiacgckjaa", sum := "964df612b79649016d9cd060102b565aa5bf48096b734c391a929965c2c0f1a3", func := "umlaut/umlautlaw12.BoxSides", spec := "boxSides", unfollowed := true, recurses := true, apart := false, narrowed := true }
def BoxSidesUptoSaid : Prop := boxSidesUptoRow.holds Try.pinned (OpenSpec.upto boxSidesSpec)

end Rows
end Go.Proofs.Ytpmhdjiacgckjaa

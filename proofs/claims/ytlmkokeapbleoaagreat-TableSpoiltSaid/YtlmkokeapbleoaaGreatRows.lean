/-
  No cell of these rows narrows 'for every input' (looked for: loops, veiled, ifaces, maps, wideKeys, modest, calm, conditions, laid).
  DERIVED. THE GIVEN ROWS OF THIS SEAT. 14 by the template 'for every input the law returns true; each argument reads behind the call as it read before'; 0 by the template 'total and deterministic' (their statements: YtlmkokeapbleoaaGreatTotals.lean).
  GIVEN WITH THE SEED: the statements are not yours to turn. If you find one false, say at which input.
  Laid BY PROGRAM, IN A SANDBOX (cutbox-rows.mjs): the forced cells as the released guide's own fill.sh prints them over the translation ec8a7699b8c01368… (all of the seat's roots in one cut). By AI agents, Wed Nov 11 2026. No macro, syntax, notation, axiom, sorry.
-/
import Derived.Test.YtlmkokeapbleoaaGreatChecked
import GoSem.Claim
import GoSem.ClaimJoined
import GoSem.ClaimMapViews
import Derived.JoinedTies
import Derived.KernelRfl
namespace Go.Proofs.YtlmkokeapbleoaaGreat
/- THE CELL 'sum', in the pinned program and in every row, IS THE sha256 OF THE DUMP (.gsa) THAT YtlmkokeapbleoaaGreatProg.lean LOADS. Nothing in Lean hashes anything: it is a label: what it is worth is what the hold of that sum in a sandbox is worth. -/
noncomputable def Tryz.pinned : Pinned := { name := "ytlmkokeapbleoaagreat", sum := "ec8a7699b8c01368018f8b45fa3ff9096f9f46343ab8909a6b5f3338a278d347", checked := Tryz.checked }
namespace Rows
def none {H : Type} : Left H := { results := [], args := [] }

/-- 'umlautlaw20.SubsetBlocks': WHATEVER THE INPUT: true; the input reads as it did. -/
def subsetBlocksSpec : ChangeSpec := { name := "subsetBlocks", fn := fun _ => fun
  | [d1, d2] => { results := [.lit (.bool true)], args := [d1, d2] }
  | _ => none }
def subsetBlocksRow : OpenClaim := { program := "ytlmkokeapbleoaagreat", sum := "ec8a7699b8c01368018f8b45fa3ff9096f9f46343ab8909a6b5f3338a278d347", func := "umlaut/umlautlaw20.SubsetBlocks", spec := "subsetBlocks", unfollowed := true, recurses := true, plainKeys := false, apart := false }
def SubsetBlocksSaid : Prop := subsetBlocksRow.holds Tryz.pinned (OpenSpec.ofChange subsetBlocksSpec)

/-- ITS FALSE NEIGHBOUR: 'it returns false'. Refute it at one input. -/
def subsetBlocksWrong : ChangeSpec := { name := "subsetBlocks", fn := fun _ => fun
  | [d1, d2] => { results := [.lit (.bool false)], args := [d1, d2] }
  | _ => none }
def SubsetBlocksWrongFalsely : Prop := subsetBlocksRow.holds Tryz.pinned (OpenSpec.ofChange subsetBlocksWrong)

/-- 'umlautlaw20.SubsetTells': WHATEVER THE INPUT: true; the input reads as it did. -/
def subsetTellsSpec : ChangeSpec := { name := "subsetTells", fn := fun _ => fun
  | [d1, d2, d3] => { results := [.lit (.bool true)], args := [d1, d2, d3] }
  | _ => none }
def subsetTellsRow : OpenClaim := { program := "ytlmkokeapbleoaagreat", sum := "ec8a7699b8c01368018f8b45fa3ff9096f9f46343ab8909a6b5f3338a278d347", func := "umlaut/umlautlaw20.SubsetTells", spec := "subsetTells", unfollowed := true, recurses := true, plainKeys := false, apart := false }
def SubsetTellsSaid : Prop := subsetTellsRow.holds Tryz.pinned (OpenSpec.ofChange subsetTellsSpec)

/-- ITS FALSE NEIGHBOUR: 'it returns false'. Refute it at one input. -/
def subsetTellsWrong : ChangeSpec := { name := "subsetTells", fn := fun _ => fun
  | [d1, d2, d3] => { results := [.lit (.bool false)], args := [d1, d2, d3] }
  | _ => none }
def SubsetTellsWrongFalsely : Prop := subsetTellsRow.holds Tryz.pinned (OpenSpec.ofChange subsetTellsWrong)

/-- 'umlautlaw17.TableCompiles': WHATEVER THE INPUT: true; the input reads as it did. -/
def tableCompilesSpec : ChangeSpec := { name := "tableCompiles", fn := fun _ => fun
  | [d] => { results := [.lit (.bool true)], args := [d] }
  | _ => none }
def tableCompilesRow : OpenClaim := { program := "ytlmkokeapbleoaagreat", sum := "ec8a7699b8c01368018f8b45fa3ff9096f9f46343ab8909a6b5f3338a278d347", func := "umlaut/umlautlaw17.TableCompiles", spec := "tableCompiles", unfollowed := true, recurses := true, plainKeys := false, apart := false }
def TableCompilesSaid : Prop := tableCompilesRow.holds Tryz.pinned (OpenSpec.ofChange tableCompilesSpec)

/-- ITS FALSE NEIGHBOUR: 'it returns false'. Refute it at one input. -/
def tableCompilesWrong : ChangeSpec := { name := "tableCompiles", fn := fun _ => fun
  | [d] => { results := [.lit (.bool false)], args := [d] }
  | _ => none }
def TableCompilesWrongFalsely : Prop := tableCompilesRow.holds Tryz.pinned (OpenSpec.ofChange tableCompilesWrong)

/-- 'umlautlaw17.TableChecks': WHATEVER THE INPUT: true; the input reads as it did. -/
def tableChecksSpec : ChangeSpec := { name := "tableChecks", fn := fun _ => fun
  | [d] => { results := [.lit (.bool true)], args := [d] }
  | _ => none }
def tableChecksRow : OpenClaim := { program := "ytlmkokeapbleoaagreat", sum := "ec8a7699b8c01368018f8b45fa3ff9096f9f46343ab8909a6b5f3338a278d347", func := "umlaut/umlautlaw17.TableChecks", spec := "tableChecks", unfollowed := true, recurses := true, plainKeys := false, apart := false }
def TableChecksSaid : Prop := tableChecksRow.holds Tryz.pinned (OpenSpec.ofChange tableChecksSpec)

/-- ITS FALSE NEIGHBOUR: 'it returns false'. Refute it at one input. -/
def tableChecksWrong : ChangeSpec := { name := "tableChecks", fn := fun _ => fun
  | [d] => { results := [.lit (.bool false)], args := [d] }
  | _ => none }
def TableChecksWrongFalsely : Prop := tableChecksRow.holds Tryz.pinned (OpenSpec.ofChange tableChecksWrong)

/-- 'umlautlaw17.TableSpoilt': WHATEVER THE INPUT: true; the input reads as it did. -/
def tableSpoiltSpec : ChangeSpec := { name := "tableSpoilt", fn := fun _ => fun
  | [d1, d2, d3, d4] => { results := [.lit (.bool true)], args := [d1, d2, d3, d4] }
  | _ => none }
def tableSpoiltRow : OpenClaim := { program := "ytlmkokeapbleoaagreat", sum := "ec8a7699b8c01368018f8b45fa3ff9096f9f46343ab8909a6b5f3338a278d347", func := "umlaut/umlautlaw17.TableSpoilt", spec := "tableSpoilt", unfollowed := true, recurses := true, plainKeys := false, apart := false }
def TableSpoiltSaid : Prop := tableSpoiltRow.holds Tryz.pinned (OpenSpec.ofChange tableSpoiltSpec)

/-- ITS FALSE NEIGHBOUR: 'it returns false'. Refute it at one input. -/
def tableSpoiltWrong : ChangeSpec := { name := "tableSpoilt", fn := fun _ => fun
  | [d1, d2, d3, d4] => { results := [.lit (.bool false)], args := [d1, d2, d3, d4] }
  | _ => none }
def TableSpoiltWrongFalsely : Prop := tableSpoiltRow.holds Tryz.pinned (OpenSpec.ofChange tableSpoiltWrong)

/-- 'umlautlaw17.TableOwn': WHATEVER THE INPUT: true; the input reads as it did. -/
def tableOwnSpec : ChangeSpec := { name := "tableOwn", fn := fun _ => fun
  | [d] => { results := [.lit (.bool true)], args := [d] }
  | _ => none }
def tableOwnRow : OpenClaim := { program := "ytlmkokeapbleoaagreat", sum := "ec8a7699b8c01368018f8b45fa3ff9096f9f46343ab8909a6b5f3338a278d347", func := "umlaut/umlautlaw17.TableOwn", spec := "tableOwn", unfollowed := true, recurses := true, plainKeys := false, apart := false }
def TableOwnSaid : Prop := tableOwnRow.holds Tryz.pinned (OpenSpec.ofChange tableOwnSpec)

/-- ITS FALSE NEIGHBOUR: 'it returns false'. Refute it at one input. -/
def tableOwnWrong : ChangeSpec := { name := "tableOwn", fn := fun _ => fun
  | [d] => { results := [.lit (.bool false)], args := [d] }
  | _ => none }
def TableOwnWrongFalsely : Prop := tableOwnRow.holds Tryz.pinned (OpenSpec.ofChange tableOwnWrong)

/-- 'umlautlaw20.SubsetApart': WHATEVER THE INPUT: true; the input reads as it did. -/
def subsetApartSpec : ChangeSpec := { name := "subsetApart", fn := fun _ => fun
  | [d1, d2] => { results := [.lit (.bool true)], args := [d1, d2] }
  | _ => none }
def subsetApartRow : OpenClaim := { program := "ytlmkokeapbleoaagreat", sum := "ec8a7699b8c01368018f8b45fa3ff9096f9f46343ab8909a6b5f3338a278d347", func := "umlaut/umlautlaw20.SubsetApart", spec := "subsetApart", unfollowed := true, recurses := true, plainKeys := false, apart := false }
def SubsetApartSaid : Prop := subsetApartRow.holds Tryz.pinned (OpenSpec.ofChange subsetApartSpec)

/-- ITS FALSE NEIGHBOUR: 'it returns false'. Refute it at one input. -/
def subsetApartWrong : ChangeSpec := { name := "subsetApart", fn := fun _ => fun
  | [d1, d2] => { results := [.lit (.bool false)], args := [d1, d2] }
  | _ => none }
def SubsetApartWrongFalsely : Prop := subsetApartRow.holds Tryz.pinned (OpenSpec.ofChange subsetApartWrong)

/-- 'umlautlaw20.SubsetAlike': WHATEVER THE INPUT: true; the input reads as it did. -/
def subsetAlikeSpec : ChangeSpec := { name := "subsetAlike", fn := fun _ => fun
  | [d1, d2, d3] => { results := [.lit (.bool true)], args := [d1, d2, d3] }
  | _ => none }
def subsetAlikeRow : OpenClaim := { program := "ytlmkokeapbleoaagreat", sum := "ec8a7699b8c01368018f8b45fa3ff9096f9f46343ab8909a6b5f3338a278d347", func := "umlaut/umlautlaw20.SubsetAlike", spec := "subsetAlike", unfollowed := true, recurses := true, plainKeys := false, apart := false }
def SubsetAlikeSaid : Prop := subsetAlikeRow.holds Tryz.pinned (OpenSpec.ofChange subsetAlikeSpec)

/-- ITS FALSE NEIGHBOUR: 'it returns false'. Refute it at one input. -/
def subsetAlikeWrong : ChangeSpec := { name := "subsetAlike", fn := fun _ => fun
  | [d1, d2, d3] => { results := [.lit (.bool false)], args := [d1, d2, d3] }
  | _ => none }
def SubsetAlikeWrongFalsely : Prop := subsetAlikeRow.holds Tryz.pinned (OpenSpec.ofChange subsetAlikeWrong)

/-- 'umlautlaw19.DrivePlays': WHATEVER THE INPUT: true; the input reads as it did. -/
def drivePlaysSpec : ChangeSpec := { name := "drivePlays", fn := fun _ => fun
  | [d1, d2] => { results := [.lit (.bool true)], args := [d1, d2] }
  | _ => none }
def drivePlaysRow : OpenClaim := { program := "ytlmkokeapbleoaagreat", sum := "ec8a7699b8c01368018f8b45fa3ff9096f9f46343ab8909a6b5f3338a278d347", func := "umlaut/umlautlaw19.DrivePlays", spec := "drivePlays", unfollowed := true, recurses := true, plainKeys := false, apart := false }
def DrivePlaysSaid : Prop := drivePlaysRow.holds Tryz.pinned (OpenSpec.ofChange drivePlaysSpec)

/-- ITS FALSE NEIGHBOUR: 'it returns false'. Refute it at one input. -/
def drivePlaysWrong : ChangeSpec := { name := "drivePlays", fn := fun _ => fun
  | [d1, d2] => { results := [.lit (.bool false)], args := [d1, d2] }
  | _ => none }
def DrivePlaysWrongFalsely : Prop := drivePlaysRow.holds Tryz.pinned (OpenSpec.ofChange drivePlaysWrong)

/-- 'umlautlaw19.DriveChunks': WHATEVER THE INPUT: true; the input reads as it did. -/
def driveChunksSpec : ChangeSpec := { name := "driveChunks", fn := fun _ => fun
  | [d1, d2, d3] => { results := [.lit (.bool true)], args := [d1, d2, d3] }
  | _ => none }
def driveChunksRow : OpenClaim := { program := "ytlmkokeapbleoaagreat", sum := "ec8a7699b8c01368018f8b45fa3ff9096f9f46343ab8909a6b5f3338a278d347", func := "umlaut/umlautlaw19.DriveChunks", spec := "driveChunks", unfollowed := true, recurses := true, plainKeys := false, apart := false }
def DriveChunksSaid : Prop := driveChunksRow.holds Tryz.pinned (OpenSpec.ofChange driveChunksSpec)

/-- ITS FALSE NEIGHBOUR: 'it returns false'. Refute it at one input. -/
def driveChunksWrong : ChangeSpec := { name := "driveChunks", fn := fun _ => fun
  | [d1, d2, d3] => { results := [.lit (.bool false)], args := [d1, d2, d3] }
  | _ => none }
def DriveChunksWrongFalsely : Prop := driveChunksRow.holds Tryz.pinned (OpenSpec.ofChange driveChunksWrong)

/-- 'umlautlaw19.DriveEnds': WHATEVER THE INPUT: true; the input reads as it did. -/
def driveEndsSpec : ChangeSpec := { name := "driveEnds", fn := fun _ => fun
  | [d1, d2, d3] => { results := [.lit (.bool true)], args := [d1, d2, d3] }
  | _ => none }
def driveEndsRow : OpenClaim := { program := "ytlmkokeapbleoaagreat", sum := "ec8a7699b8c01368018f8b45fa3ff9096f9f46343ab8909a6b5f3338a278d347", func := "umlaut/umlautlaw19.DriveEnds", spec := "driveEnds", unfollowed := true, recurses := true, plainKeys := false, apart := false }
def DriveEndsSaid : Prop := driveEndsRow.holds Tryz.pinned (OpenSpec.ofChange driveEndsSpec)

/-- ITS FALSE NEIGHBOUR: 'it returns false'. Refute it at one input. -/
def driveEndsWrong : ChangeSpec := { name := "driveEnds", fn := fun _ => fun
  | [d1, d2, d3] => { results := [.lit (.bool false)], args := [d1, d2, d3] }
  | _ => none }
def DriveEndsWrongFalsely : Prop := driveEndsRow.holds Tryz.pinned (OpenSpec.ofChange driveEndsWrong)

/-- 'umlautlaw19.DriveCopies': WHATEVER THE INPUT: true; the input reads as it did. -/
def driveCopiesSpec : ChangeSpec := { name := "driveCopies", fn := fun _ => fun
  | [d1, d2, d3, d4] => { results := [.lit (.bool true)], args := [d1, d2, d3, d4] }
  | _ => none }
def driveCopiesRow : OpenClaim := { program := "ytlmkokeapbleoaagreat", sum := "ec8a7699b8c01368018f8b45fa3ff9096f9f46343ab8909a6b5f3338a278d347", func := "umlaut/umlautlaw19.DriveCopies", spec := "driveCopies", unfollowed := true, recurses := true, plainKeys := false, apart := false }
def DriveCopiesSaid : Prop := driveCopiesRow.holds Tryz.pinned (OpenSpec.ofChange driveCopiesSpec)

/-- ITS FALSE NEIGHBOUR: 'it returns false'. Refute it at one input. -/
def driveCopiesWrong : ChangeSpec := { name := "driveCopies", fn := fun _ => fun
  | [d1, d2, d3, d4] => { results := [.lit (.bool false)], args := [d1, d2, d3, d4] }
  | _ => none }
def DriveCopiesWrongFalsely : Prop := driveCopiesRow.holds Tryz.pinned (OpenSpec.ofChange driveCopiesWrong)

/-- 'umlautlaw19.DriveBounds': WHATEVER THE INPUT: true; the input reads as it did. -/
def driveBoundsSpec : ChangeSpec := { name := "driveBounds", fn := fun _ => fun
  | [d1, d2] => { results := [.lit (.bool true)], args := [d1, d2] }
  | _ => none }
def driveBoundsRow : OpenClaim := { program := "ytlmkokeapbleoaagreat", sum := "ec8a7699b8c01368018f8b45fa3ff9096f9f46343ab8909a6b5f3338a278d347", func := "umlaut/umlautlaw19.DriveBounds", spec := "driveBounds", unfollowed := true, recurses := true, plainKeys := false, apart := false }
def DriveBoundsSaid : Prop := driveBoundsRow.holds Tryz.pinned (OpenSpec.ofChange driveBoundsSpec)

/-- ITS FALSE NEIGHBOUR: 'it returns false'. Refute it at one input. -/
def driveBoundsWrong : ChangeSpec := { name := "driveBounds", fn := fun _ => fun
  | [d1, d2] => { results := [.lit (.bool false)], args := [d1, d2] }
  | _ => none }
def DriveBoundsWrongFalsely : Prop := driveBoundsRow.holds Tryz.pinned (OpenSpec.ofChange driveBoundsWrong)

/-- 'umlautlaw19.DriveRuns': WHATEVER THE INPUT: true; the input reads as it did. -/
def driveRunsSpec : ChangeSpec := { name := "driveRuns", fn := fun _ => fun
  | [d1, d2] => { results := [.lit (.bool true)], args := [d1, d2] }
  | _ => none }
def driveRunsRow : OpenClaim := { program := "ytlmkokeapbleoaagreat", sum := "ec8a7699b8c01368018f8b45fa3ff9096f9f46343ab8909a6b5f3338a278d347", func := "umlaut/umlautlaw19.DriveRuns", spec := "driveRuns", unfollowed := true, recurses := true, plainKeys := false, apart := false }
def DriveRunsSaid : Prop := driveRunsRow.holds Tryz.pinned (OpenSpec.ofChange driveRunsSpec)

/-- ITS FALSE NEIGHBOUR: 'it returns false'. Refute it at one input. -/
def driveRunsWrong : ChangeSpec := { name := "driveRuns", fn := fun _ => fun
  | [d1, d2] => { results := [.lit (.bool false)], args := [d1, d2] }
  | _ => none }
def DriveRunsWrongFalsely : Prop := driveRunsRow.holds Tryz.pinned (OpenSpec.ofChange driveRunsWrong)

/- THE SECOND FORM. 'bulk': how many values and letters a reading holds, each counted each time it is reached (what is shared counts as often as it is met; a slice's spare places count too). A statement '..UptoSaid' is the law's where the arguments, and the package variables that the reading takes, are together of bulk at most 1048576: NARROWER than '..Said'. Prove '..Said' where nothing that the law and all that it calls make is longer than what came in: it says more and counts as full. Else prove '..UptoSaid'. A law counts once. -/
mutual
def uptoBulk {H : Type} : DataW H → Nat
  | .lit (.string bytes) => bytes.length + 1
  | .lit _ => 1
  | .nil => 1
  | .ptr d => uptoBulk d + 1
  | .slice elems spare => uptoBulkAll elems + uptoBulkAll spare + 1
  | .agg parts => uptoBulkAll parts + 1
  | .iface _ d => uptoBulk d + 1
  | .map entries => uptoBulkEntries entries + 1
  | .held _ => 1
def uptoBulkAll {H : Type} : List (DataW H) → Nat
  | [] => 0
  | d :: r => uptoBulk d + uptoBulkAll r
def uptoBulkEntries {H : Type} : List (Lit × DataW H) → Nat
  | [] => 0
  | x :: r => uptoBulkEntry x + uptoBulkEntries r
def uptoBulkEntry {H : Type} : Lit × DataW H → Nat
  | (.string bytes, d) => bytes.length + uptoBulk d + 1
  | (_, d) => uptoBulk d + 1
 end
def uptoSmall : (H : Type) → List (DataW H) → Bool := fun _ ds => decide (uptoBulkAll ds ≤ 1048576)
def OpenSpec.upto (s : _root_.Go.ChangeSpec) : _root_.Go.OpenSpec := { _root_.Go.OpenSpec.ofChange s with cond := some uptoSmall }

/-- 'umlautlaw20.SubsetBlocks', WHERE WHAT IT READS IS OF BULK AT MOST 1048576: true; the input reads as it did. -/
def subsetBlocksUptoRow : OpenClaim := { program := "ytlmkokeapbleoaagreat", sum := "ec8a7699b8c01368018f8b45fa3ff9096f9f46343ab8909a6b5f3338a278d347", func := "umlaut/umlautlaw20.SubsetBlocks", spec := "subsetBlocks", unfollowed := true, recurses := true, plainKeys := false, apart := false, narrowed := true }
def SubsetBlocksUptoSaid : Prop := subsetBlocksUptoRow.holds Tryz.pinned (OpenSpec.upto subsetBlocksSpec)

/-- 'umlautlaw20.SubsetTells', WHERE WHAT IT READS IS OF BULK AT MOST 1048576: true; the input reads as it did. -/
def subsetTellsUptoRow : OpenClaim := { program := "ytlmkokeapbleoaagreat", sum := "ec8a7699b8c01368018f8b45fa3ff9096f9f46343ab8909a6b5f3338a278d347", func := "umlaut/umlautlaw20.SubsetTells", spec := "subsetTells", unfollowed := true, recurses := true, plainKeys := false, apart := false, narrowed := true }
def SubsetTellsUptoSaid : Prop := subsetTellsUptoRow.holds Tryz.pinned (OpenSpec.upto subsetTellsSpec)

/-- 'umlautlaw17.TableCompiles', WHERE WHAT IT READS IS OF BULK AT MOST 1048576: true; the input reads as it did. -/
def tableCompilesUptoRow : OpenClaim := { program := "ytlmkokeapbleoaagreat", sum := "ec8a7699b8c01368018f8b45fa3ff9096f9f46343ab8909a6b5f3338a278d347", func := "umlaut/umlautlaw17.TableCompiles", spec := "tableCompiles", unfollowed := true, recurses := true, plainKeys := false, apart := false, narrowed := true }
def TableCompilesUptoSaid : Prop := tableCompilesUptoRow.holds Tryz.pinned (OpenSpec.upto tableCompilesSpec)

/-- 'umlautlaw17.TableChecks', WHERE WHAT IT READS IS OF BULK AT MOST 1048576: true; the input reads as it did. -/
def tableChecksUptoRow : OpenClaim := { program := "ytlmkokeapbleoaagreat", sum := "ec8a7699b8c01368018f8b45fa3ff9096f9f46343ab8909a6b5f3338a278d347", func := "umlaut/umlautlaw17.TableChecks", spec := "tableChecks", unfollowed := true, recurses := true, plainKeys := false, apart := false, narrowed := true }
def TableChecksUptoSaid : Prop := tableChecksUptoRow.holds Tryz.pinned (OpenSpec.upto tableChecksSpec)

/-- 'umlautlaw17.TableSpoilt', WHERE WHAT IT READS IS OF BULK AT MOST 1048576: true; the input reads as it did. -/
def tableSpoiltUptoRow : OpenClaim := { program := "ytlmkokeapbleoaagreat", sum := "ec8a7699b8c01368018f8b45fa3ff9096f9f46343ab8909a6b5f3338a278d347", func := "umlaut/umlautlaw17.TableSpoilt", spec := "tableSpoilt", unfollowed := true, recurses := true, plainKeys := false, apart := false, narrowed := true }
def TableSpoiltUptoSaid : Prop := tableSpoiltUptoRow.holds Tryz.pinned (OpenSpec.upto tableSpoiltSpec)

/-- 'umlautlaw17.TableOwn', WHERE WHAT IT READS IS OF BULK AT MOST 1048576: true; the input reads as it did. -/
def tableOwnUptoRow : OpenClaim := { program := "ytlmkokeapbleoaagreat", sum := "ec8a7699b8c01368018f8b45fa3ff9096f9f46343ab8909a6b5f3338a278d347", func := "umlaut/umlautlaw17.TableOwn", spec := "tableOwn", unfollowed := true, recurses := true, plainKeys := false, apart := false, narrowed := true }
def TableOwnUptoSaid : Prop := tableOwnUptoRow.holds Tryz.pinned (OpenSpec.upto tableOwnSpec)

/-- 'umlautlaw20.SubsetApart', WHERE WHAT IT READS IS OF BULK AT MOST 1048576: true; the input reads as it did. -/
def subsetApartUptoRow : OpenClaim := { program := "ytlmkokeapbleoaagreat", sum := "ec8a7699b8c01368018f8b45fa3ff9096f9f46343ab8909a6b5f3338a278d347", func := "umlaut/umlautlaw20.SubsetApart", spec := "subsetApart", unfollowed := true, recurses := true, plainKeys := false, apart := false, narrowed := true }
def SubsetApartUptoSaid : Prop := subsetApartUptoRow.holds Tryz.pinned (OpenSpec.upto subsetApartSpec)

/-- 'umlautlaw20.SubsetAlike', WHERE WHAT IT READS IS OF BULK AT MOST 1048576: true; the input reads as it did. -/
def subsetAlikeUptoRow : OpenClaim := { program := "ytlmkokeapbleoaagreat", sum := "ec8a7699b8c01368018f8b45fa3ff9096f9f46343ab8909a6b5f3338a278d347", func := "umlaut/umlautlaw20.SubsetAlike", spec := "subsetAlike", unfollowed := true, recurses := true, plainKeys := false, apart := false, narrowed := true }
def SubsetAlikeUptoSaid : Prop := subsetAlikeUptoRow.holds Tryz.pinned (OpenSpec.upto subsetAlikeSpec)

/-- 'umlautlaw19.DrivePlays', WHERE WHAT IT READS IS OF BULK AT MOST 1048576: true; the input reads as it did. -/
def drivePlaysUptoRow : OpenClaim := { program := "ytlmkokeapbleoaagreat", sum := "ec8a7699b8c01368018f8b45fa3ff9096f9f46343ab8909a6b5f3338a278d347", func := "umlaut/umlautlaw19.DrivePlays", spec := "drivePlays", unfollowed := true, recurses := true, plainKeys := false, apart := false, narrowed := true }
def DrivePlaysUptoSaid : Prop := drivePlaysUptoRow.holds Tryz.pinned (OpenSpec.upto drivePlaysSpec)

/-- 'umlautlaw19.DriveChunks', WHERE WHAT IT READS IS OF BULK AT MOST 1048576: true; the input reads as it did. -/
def driveChunksUptoRow : OpenClaim := { program := "ytlmkokeapbleoaagreat", sum := "ec8a7699b8c01368018f8b45fa3ff9096f9f46343ab8909a6b5f3338a278d347", func := "umlaut/umlautlaw19.DriveChunks", spec := "driveChunks", unfollowed := true, recurses := true, plainKeys := false, apart := false, narrowed := true }
def DriveChunksUptoSaid : Prop := driveChunksUptoRow.holds Tryz.pinned (OpenSpec.upto driveChunksSpec)

/-- 'umlautlaw19.DriveEnds', WHERE WHAT IT READS IS OF BULK AT MOST 1048576: true; the input reads as it did. -/
def driveEndsUptoRow : OpenClaim := { program := "ytlmkokeapbleoaagreat", sum := "ec8a7699b8c01368018f8b45fa3ff9096f9f46343ab8909a6b5f3338a278d347", func := "umlaut/umlautlaw19.DriveEnds", spec := "driveEnds", unfollowed := true, recurses := true, plainKeys := false, apart := false, narrowed := true }
def DriveEndsUptoSaid : Prop := driveEndsUptoRow.holds Tryz.pinned (OpenSpec.upto driveEndsSpec)

/-- 'umlautlaw19.DriveCopies', WHERE WHAT IT READS IS OF BULK AT MOST 1048576: true; the input reads as it did. -/
def driveCopiesUptoRow : OpenClaim := { program := "ytlmkokeapbleoaagreat", sum := "ec8a7699b8c01368018f8b45fa3ff9096f9f46343ab8909a6b5f3338a278d347", func := "umlaut/umlautlaw19.DriveCopies", spec := "driveCopies", unfollowed := true, recurses := true, plainKeys := false, apart := false, narrowed := true }
def DriveCopiesUptoSaid : Prop := driveCopiesUptoRow.holds Tryz.pinned (OpenSpec.upto driveCopiesSpec)

/-- 'umlautlaw19.DriveBounds', WHERE WHAT IT READS IS OF BULK AT MOST 1048576: true; the input reads as it did. -/
def driveBoundsUptoRow : OpenClaim := { program := "ytlmkokeapbleoaagreat", sum := "ec8a7699b8c01368018f8b45fa3ff9096f9f46343ab8909a6b5f3338a278d347", func := "umlaut/umlautlaw19.DriveBounds", spec := "driveBounds", unfollowed := true, recurses := true, plainKeys := false, apart := false, narrowed := true }
def DriveBoundsUptoSaid : Prop := driveBoundsUptoRow.holds Tryz.pinned (OpenSpec.upto driveBoundsSpec)

/-- 'umlautlaw19.DriveRuns', WHERE WHAT IT READS IS OF BULK AT MOST 1048576: true; the input reads as it did. -/
def driveRunsUptoRow : OpenClaim := { program := "ytlmkokeapbleoaagreat", sum := "ec8a7699b8c01368018f8b45fa3ff9096f9f46343ab8909a6b5f3338a278d347", func := "umlaut/umlautlaw19.DriveRuns", spec := "driveRuns", unfollowed := true, recurses := true, plainKeys := false, apart := false, narrowed := true }
def DriveRunsUptoSaid : Prop := driveRunsUptoRow.holds Tryz.pinned (OpenSpec.upto driveRunsSpec)

end Rows
end Go.Proofs.YtlmkokeapbleoaaGreat

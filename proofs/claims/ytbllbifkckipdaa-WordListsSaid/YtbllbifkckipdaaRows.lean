/-
  No cell of these rows narrows 'for every input' (looked for: loops, veiled, ifaces, maps, wideKeys, modest, calm, conditions, laid).
  DERIVED. THE GIVEN ROWS OF THIS SEAT. 15 by the template 'for every input the law returns true; each argument reads behind the call as it read before'; 0 by the template 'total and deterministic' (their statements: YtbllbifkckipdaaTotals.lean).
  GIVEN WITH THE SEED: the statements are not yours to turn. If you find one false, say at which input.
  Laid BY PROGRAM, IN A SANDBOX (cutbox-rows.mjs): the forced cells as the released guide's own fill.sh prints them over the translation d3e97b8b3acfe243… (all of the seat's roots in one cut). By AI agents, Wed Nov 11 2026. No macro, syntax, notation, axiom, sorry.
-/
import Derived.Test.YtbllbifkckipdaaChecked
import GoSem.Claim
import GoSem.ClaimJoined
import GoSem.ClaimMapViews
import Derived.JoinedTies
import Derived.KernelRfl
namespace Go.Proofs.Ytbllbifkckipdaa
/- THE CELL 'sum', in the pinned program and in every row, IS THE sha256 OF THE DUMP (.gsa) THAT YtbllbifkckipdaaProg.lean LOADS. Nothing in Lean hashes anything: it is a label: what it is worth is what the hold of that sum in a sandbox is worth. -/
noncomputable def Try.pinned : Pinned := { name := "ytbllbifkckipdaa", sum := "d3e97b8b3acfe2436acbcb3ecf37758dc4152b7d03ed3c27d1c155e9f133950c", checked := Try.checked }
namespace Rows
def none {H : Type} : Left H := { results := [], args := [] }

/-- 'umlautlaw02.WordOf': WHATEVER THE INPUT: true; the input reads as it did. -/
def wordOfSpec : ChangeSpec := { name := "wordOf", fn := fun _ => fun
  | [d] => { results := [.lit (.bool true)], args := [d] }
  | _ => none }
def wordOfRow : OpenClaim := { program := "ytbllbifkckipdaa", sum := "d3e97b8b3acfe2436acbcb3ecf37758dc4152b7d03ed3c27d1c155e9f133950c", func := "umlaut/umlautlaw02.WordOf", spec := "wordOf", apart := false }
def WordOfSaid : Prop := wordOfRow.holds Try.pinned (OpenSpec.ofChange wordOfSpec)

/-- ITS FALSE NEIGHBOUR: 'it returns false'. Refute it at one input. -/
def wordOfWrong : ChangeSpec := { name := "wordOf", fn := fun _ => fun
  | [d] => { results := [.lit (.bool false)], args := [d] }
  | _ => none }
def WordOfWrongFalsely : Prop := wordOfRow.holds Try.pinned (OpenSpec.ofChange wordOfWrong)

/-- 'umlautlaw02.WordOrders': WHATEVER THE INPUT: true; the input reads as it did. -/
def wordOrdersSpec : ChangeSpec := { name := "wordOrders", fn := fun _ => fun
  | [d1, d2] => { results := [.lit (.bool true)], args := [d1, d2] }
  | _ => none }
def wordOrdersRow : OpenClaim := { program := "ytbllbifkckipdaa", sum := "d3e97b8b3acfe2436acbcb3ecf37758dc4152b7d03ed3c27d1c155e9f133950c", func := "umlaut/umlautlaw02.WordOrders", spec := "wordOrders", apart := false }
def WordOrdersSaid : Prop := wordOrdersRow.holds Try.pinned (OpenSpec.ofChange wordOrdersSpec)

/-- ITS FALSE NEIGHBOUR: 'it returns false'. Refute it at one input. -/
def wordOrdersWrong : ChangeSpec := { name := "wordOrders", fn := fun _ => fun
  | [d1, d2] => { results := [.lit (.bool false)], args := [d1, d2] }
  | _ => none }
def WordOrdersWrongFalsely : Prop := wordOrdersRow.holds Try.pinned (OpenSpec.ofChange wordOrdersWrong)

/-- 'umlautlaw02.WordSorts': WHATEVER THE INPUT: true; the input reads as it did. -/
def wordSortsSpec : ChangeSpec := { name := "wordSorts", fn := fun _ => fun
  | [d1, d2, d3] => { results := [.lit (.bool true)], args := [d1, d2, d3] }
  | _ => none }
def wordSortsRow : OpenClaim := { program := "ytbllbifkckipdaa", sum := "d3e97b8b3acfe2436acbcb3ecf37758dc4152b7d03ed3c27d1c155e9f133950c", func := "umlaut/umlautlaw02.WordSorts", spec := "wordSorts", apart := false }
def WordSortsSaid : Prop := wordSortsRow.holds Try.pinned (OpenSpec.ofChange wordSortsSpec)

/-- ITS FALSE NEIGHBOUR: 'it returns false'. Refute it at one input. -/
def wordSortsWrong : ChangeSpec := { name := "wordSorts", fn := fun _ => fun
  | [d1, d2, d3] => { results := [.lit (.bool false)], args := [d1, d2, d3] }
  | _ => none }
def WordSortsWrongFalsely : Prop := wordSortsRow.holds Try.pinned (OpenSpec.ofChange wordSortsWrong)

/-- 'umlautlaw02.WordRaws': WHATEVER THE INPUT: true; the input reads as it did. -/
def wordRawsSpec : ChangeSpec := { name := "wordRaws", fn := fun _ => fun
  | [d1, d2] => { results := [.lit (.bool true)], args := [d1, d2] }
  | _ => none }
def wordRawsRow : OpenClaim := { program := "ytbllbifkckipdaa", sum := "d3e97b8b3acfe2436acbcb3ecf37758dc4152b7d03ed3c27d1c155e9f133950c", func := "umlaut/umlautlaw02.WordRaws", spec := "wordRaws", apart := false }
def WordRawsSaid : Prop := wordRawsRow.holds Try.pinned (OpenSpec.ofChange wordRawsSpec)

/-- ITS FALSE NEIGHBOUR: 'it returns false'. Refute it at one input. -/
def wordRawsWrong : ChangeSpec := { name := "wordRaws", fn := fun _ => fun
  | [d1, d2] => { results := [.lit (.bool false)], args := [d1, d2] }
  | _ => none }
def WordRawsWrongFalsely : Prop := wordRawsRow.holds Try.pinned (OpenSpec.ofChange wordRawsWrong)

/-- 'umlautlaw02.WordTexts': WHATEVER THE INPUT: true; the input reads as it did. -/
def wordTextsSpec : ChangeSpec := { name := "wordTexts", fn := fun _ => fun
  | [d] => { results := [.lit (.bool true)], args := [d] }
  | _ => none }
def wordTextsRow : OpenClaim := { program := "ytbllbifkckipdaa", sum := "d3e97b8b3acfe2436acbcb3ecf37758dc4152b7d03ed3c27d1c155e9f133950c", func := "umlaut/umlautlaw02.WordTexts", spec := "wordTexts", inPlace := ["internal/abi.NoEscape"], apart := false }
def WordTextsSaid : Prop := wordTextsRow.holds Try.pinned (OpenSpec.ofChange wordTextsSpec)

/-- ITS FALSE NEIGHBOUR: 'it returns false'. Refute it at one input. -/
def wordTextsWrong : ChangeSpec := { name := "wordTexts", fn := fun _ => fun
  | [d] => { results := [.lit (.bool false)], args := [d] }
  | _ => none }
def WordTextsWrongFalsely : Prop := wordTextsRow.holds Try.pinned (OpenSpec.ofChange wordTextsWrong)

/-- 'umlautlaw02.WordBack': WHATEVER THE INPUT: true; the input reads as it did. -/
def wordBackSpec : ChangeSpec := { name := "wordBack", fn := fun _ => fun
  | [d1, d2] => { results := [.lit (.bool true)], args := [d1, d2] }
  | _ => none }
def wordBackRow : OpenClaim := { program := "ytbllbifkckipdaa", sum := "d3e97b8b3acfe2436acbcb3ecf37758dc4152b7d03ed3c27d1c155e9f133950c", func := "umlaut/umlautlaw02.WordBack", spec := "wordBack", inPlace := ["internal/abi.NoEscape"], apart := false }
def WordBackSaid : Prop := wordBackRow.holds Try.pinned (OpenSpec.ofChange wordBackSpec)

/-- ITS FALSE NEIGHBOUR: 'it returns false'. Refute it at one input. -/
def wordBackWrong : ChangeSpec := { name := "wordBack", fn := fun _ => fun
  | [d1, d2] => { results := [.lit (.bool false)], args := [d1, d2] }
  | _ => none }
def WordBackWrongFalsely : Prop := wordBackRow.holds Try.pinned (OpenSpec.ofChange wordBackWrong)

/-- 'umlautlaw01.SpanNorms': WHATEVER THE INPUT: true; the input reads as it did. -/
def spanNormsSpec : ChangeSpec := { name := "spanNorms", fn := fun _ => fun
  | [d] => { results := [.lit (.bool true)], args := [d] }
  | _ => none }
def spanNormsRow : OpenClaim := { program := "ytbllbifkckipdaa", sum := "d3e97b8b3acfe2436acbcb3ecf37758dc4152b7d03ed3c27d1c155e9f133950c", func := "umlaut/umlautlaw01.SpanNorms", spec := "spanNorms", unfollowed := true, recurses := true, apart := false }
def SpanNormsSaid : Prop := spanNormsRow.holds Try.pinned (OpenSpec.ofChange spanNormsSpec)

/-- ITS FALSE NEIGHBOUR: 'it returns false'. Refute it at one input. -/
def spanNormsWrong : ChangeSpec := { name := "spanNorms", fn := fun _ => fun
  | [d] => { results := [.lit (.bool false)], args := [d] }
  | _ => none }
def SpanNormsWrongFalsely : Prop := spanNormsRow.holds Try.pinned (OpenSpec.ofChange spanNormsWrong)

/-- 'umlautlaw02.WordLists': WHATEVER THE INPUT: true; the input reads as it did. -/
def wordListsSpec : ChangeSpec := { name := "wordLists", fn := fun _ => fun
  | [d] => { results := [.lit (.bool true)], args := [d] }
  | _ => none }
def wordListsRow : OpenClaim := { program := "ytbllbifkckipdaa", sum := "d3e97b8b3acfe2436acbcb3ecf37758dc4152b7d03ed3c27d1c155e9f133950c", func := "umlaut/umlautlaw02.WordLists", spec := "wordLists", unfollowed := true, recurses := true, apart := false }
def WordListsSaid : Prop := wordListsRow.holds Try.pinned (OpenSpec.ofChange wordListsSpec)

/-- ITS FALSE NEIGHBOUR: 'it returns false'. Refute it at one input. -/
def wordListsWrong : ChangeSpec := { name := "wordLists", fn := fun _ => fun
  | [d] => { results := [.lit (.bool false)], args := [d] }
  | _ => none }
def WordListsWrongFalsely : Prop := wordListsRow.holds Try.pinned (OpenSpec.ofChange wordListsWrong)

/-- 'umlautlaw01.SpanMoves': WHATEVER THE INPUT: true; the input reads as it did. -/
def spanMovesSpec : ChangeSpec := { name := "spanMoves", fn := fun _ => fun
  | [d1, d2] => { results := [.lit (.bool true)], args := [d1, d2] }
  | _ => none }
def spanMovesRow : OpenClaim := { program := "ytbllbifkckipdaa", sum := "d3e97b8b3acfe2436acbcb3ecf37758dc4152b7d03ed3c27d1c155e9f133950c", func := "umlaut/umlautlaw01.SpanMoves", spec := "spanMoves", unfollowed := true, recurses := true, apart := false }
def SpanMovesSaid : Prop := spanMovesRow.holds Try.pinned (OpenSpec.ofChange spanMovesSpec)

/-- ITS FALSE NEIGHBOUR: 'it returns false'. Refute it at one input. -/
def spanMovesWrong : ChangeSpec := { name := "spanMoves", fn := fun _ => fun
  | [d1, d2] => { results := [.lit (.bool false)], args := [d1, d2] }
  | _ => none }
def SpanMovesWrongFalsely : Prop := spanMovesRow.holds Try.pinned (OpenSpec.ofChange spanMovesWrong)

/-- 'umlautlaw01.SpanEach': WHATEVER THE INPUT: true; the input reads as it did. -/
def spanEachSpec : ChangeSpec := { name := "spanEach", fn := fun _ => fun
  | [d1, d2] => { results := [.lit (.bool true)], args := [d1, d2] }
  | _ => none }
def spanEachRow : OpenClaim := { program := "ytbllbifkckipdaa", sum := "d3e97b8b3acfe2436acbcb3ecf37758dc4152b7d03ed3c27d1c155e9f133950c", func := "umlaut/umlautlaw01.SpanEach", spec := "spanEach", unfollowed := true, recurses := true, apart := false }
def SpanEachSaid : Prop := spanEachRow.holds Try.pinned (OpenSpec.ofChange spanEachSpec)

/-- ITS FALSE NEIGHBOUR: 'it returns false'. Refute it at one input. -/
def spanEachWrong : ChangeSpec := { name := "spanEach", fn := fun _ => fun
  | [d1, d2] => { results := [.lit (.bool false)], args := [d1, d2] }
  | _ => none }
def SpanEachWrongFalsely : Prop := spanEachRow.holds Try.pinned (OpenSpec.ofChange spanEachWrong)

/-- 'umlautlaw01.SpanBack': WHATEVER THE INPUT: true; the input reads as it did. -/
def spanBackSpec : ChangeSpec := { name := "spanBack", fn := fun _ => fun
  | [d1, d2, d3] => { results := [.lit (.bool true)], args := [d1, d2, d3] }
  | _ => none }
def spanBackRow : OpenClaim := { program := "ytbllbifkckipdaa", sum := "d3e97b8b3acfe2436acbcb3ecf37758dc4152b7d03ed3c27d1c155e9f133950c", func := "umlaut/umlautlaw01.SpanBack", spec := "spanBack", unfollowed := true, recurses := true, apart := false }
def SpanBackSaid : Prop := spanBackRow.holds Try.pinned (OpenSpec.ofChange spanBackSpec)

/-- ITS FALSE NEIGHBOUR: 'it returns false'. Refute it at one input. -/
def spanBackWrong : ChangeSpec := { name := "spanBack", fn := fun _ => fun
  | [d1, d2, d3] => { results := [.lit (.bool false)], args := [d1, d2, d3] }
  | _ => none }
def SpanBackWrongFalsely : Prop := spanBackRow.holds Try.pinned (OpenSpec.ofChange spanBackWrong)

/-- 'umlautlaw01.SpanAlgebra': WHATEVER THE INPUT: true; the input reads as it did. -/
def spanAlgebraSpec : ChangeSpec := { name := "spanAlgebra", fn := fun _ => fun
  | [d1, d2, d3] => { results := [.lit (.bool true)], args := [d1, d2, d3] }
  | _ => none }
def spanAlgebraRow : OpenClaim := { program := "ytbllbifkckipdaa", sum := "d3e97b8b3acfe2436acbcb3ecf37758dc4152b7d03ed3c27d1c155e9f133950c", func := "umlaut/umlautlaw01.SpanAlgebra", spec := "spanAlgebra", unfollowed := true, recurses := true, apart := false }
def SpanAlgebraSaid : Prop := spanAlgebraRow.holds Try.pinned (OpenSpec.ofChange spanAlgebraSpec)

/-- ITS FALSE NEIGHBOUR: 'it returns false'. Refute it at one input. -/
def spanAlgebraWrong : ChangeSpec := { name := "spanAlgebra", fn := fun _ => fun
  | [d1, d2, d3] => { results := [.lit (.bool false)], args := [d1, d2, d3] }
  | _ => none }
def SpanAlgebraWrongFalsely : Prop := spanAlgebraRow.holds Try.pinned (OpenSpec.ofChange spanAlgebraWrong)

/-- 'umlautlaw01.SpanPairs': WHATEVER THE INPUT: true; the input reads as it did. -/
def spanPairsSpec : ChangeSpec := { name := "spanPairs", fn := fun _ => fun
  | [d1, d2] => { results := [.lit (.bool true)], args := [d1, d2] }
  | _ => none }
def spanPairsRow : OpenClaim := { program := "ytbllbifkckipdaa", sum := "d3e97b8b3acfe2436acbcb3ecf37758dc4152b7d03ed3c27d1c155e9f133950c", func := "umlaut/umlautlaw01.SpanPairs", spec := "spanPairs", unfollowed := true, recurses := true, apart := false }
def SpanPairsSaid : Prop := spanPairsRow.holds Try.pinned (OpenSpec.ofChange spanPairsSpec)

/-- ITS FALSE NEIGHBOUR: 'it returns false'. Refute it at one input. -/
def spanPairsWrong : ChangeSpec := { name := "spanPairs", fn := fun _ => fun
  | [d1, d2] => { results := [.lit (.bool false)], args := [d1, d2] }
  | _ => none }
def SpanPairsWrongFalsely : Prop := spanPairsRow.holds Try.pinned (OpenSpec.ofChange spanPairsWrong)

/-- 'umlautlaw01.SpanAsks': WHATEVER THE INPUT: true; the input reads as it did. -/
def spanAsksSpec : ChangeSpec := { name := "spanAsks", fn := fun _ => fun
  | [d1, d2, d3] => { results := [.lit (.bool true)], args := [d1, d2, d3] }
  | _ => none }
def spanAsksRow : OpenClaim := { program := "ytbllbifkckipdaa", sum := "d3e97b8b3acfe2436acbcb3ecf37758dc4152b7d03ed3c27d1c155e9f133950c", func := "umlaut/umlautlaw01.SpanAsks", spec := "spanAsks", unfollowed := true, recurses := true, apart := false }
def SpanAsksSaid : Prop := spanAsksRow.holds Try.pinned (OpenSpec.ofChange spanAsksSpec)

/-- ITS FALSE NEIGHBOUR: 'it returns false'. Refute it at one input. -/
def spanAsksWrong : ChangeSpec := { name := "spanAsks", fn := fun _ => fun
  | [d1, d2, d3] => { results := [.lit (.bool false)], args := [d1, d2, d3] }
  | _ => none }
def SpanAsksWrongFalsely : Prop := spanAsksRow.holds Try.pinned (OpenSpec.ofChange spanAsksWrong)

/-- 'umlautlaw01.SpanParts': WHATEVER THE INPUT: true; the input reads as it did. -/
def spanPartsSpec : ChangeSpec := { name := "spanParts", fn := fun _ => fun
  | [d1, d2, d3] => { results := [.lit (.bool true)], args := [d1, d2, d3] }
  | _ => none }
def spanPartsRow : OpenClaim := { program := "ytbllbifkckipdaa", sum := "d3e97b8b3acfe2436acbcb3ecf37758dc4152b7d03ed3c27d1c155e9f133950c", func := "umlaut/umlautlaw01.SpanParts", spec := "spanParts", unfollowed := true, recurses := true, apart := false }
def SpanPartsSaid : Prop := spanPartsRow.holds Try.pinned (OpenSpec.ofChange spanPartsSpec)

/-- ITS FALSE NEIGHBOUR: 'it returns false'. Refute it at one input. -/
def spanPartsWrong : ChangeSpec := { name := "spanParts", fn := fun _ => fun
  | [d1, d2, d3] => { results := [.lit (.bool false)], args := [d1, d2, d3] }
  | _ => none }
def SpanPartsWrongFalsely : Prop := spanPartsRow.holds Try.pinned (OpenSpec.ofChange spanPartsWrong)

/- THE SECOND FORM. 'bulk': how many values and letters a reading holds, each counted each time it is reached (what is shared counts as often as it is met; a slice's spare places count too). A statement '..UptoSaid' is the law's where the arguments, and the package variables that the reading takes, are together of bulk at most 1048576: NARROWER than '..Said'. Prove '..Said' where nothing that the law and all that it calls make is longer than what came in: it says more and counts as full. Else prove '..UptoSaid'. A law counts once. -/
mutual
def uptoBulk {H : Type} : DataW H → Nat
  | .lit (.string bytes) => bytes.length + 1
  | .lit _ => 1
  | .nil => 1
  | .ptr d => uptoBulk d + 1
  | .slice elems spare => uptoBulkAll elems + uptoBulkAll spare + 1
  | .agg parts => uptoBulkAll parts + 1
  | .iface _ d => uptoBulk d + 1
  | .map entries => uptoBulkEntries entries + 1
  | .held _ => 1
def uptoBulkAll {H : Type} : List (DataW H) → Nat
  | [] => 0
  | d :: r => uptoBulk d + uptoBulkAll r
def uptoBulkEntries {H : Type} : List (Lit × DataW H) → Nat
  | [] => 0
  | x :: r => uptoBulkEntry x + uptoBulkEntries r
def uptoBulkEntry {H : Type} : Lit × DataW H → Nat
  | (.string bytes, d) => bytes.length + uptoBulk d + 1
  | (_, d) => uptoBulk d + 1
 end
def uptoSmall : (H : Type) → List (DataW H) → Bool := fun _ ds => decide (uptoBulkAll ds ≤ 1048576)
def OpenSpec.upto (s : _root_.Go.ChangeSpec) : _root_.Go.OpenSpec := { _root_.Go.OpenSpec.ofChange s with cond := some uptoSmall }

/-- 'umlautlaw02.WordOf', WHERE WHAT IT READS IS OF BULK AT MOST 1048576: true; the input reads as it did. -/
def wordOfUptoRow : OpenClaim := { program := "ytbllbifkckipdaa", sum := "d3e97b8b3acfe2436acbcb3ecf37758dc4152b7d03ed3c27d1c155e9f133950c", func := "umlaut/umlautlaw02.WordOf", spec := "wordOf", apart := false, narrowed := true }
def WordOfUptoSaid : Prop := wordOfUptoRow.holds Try.pinned (OpenSpec.upto wordOfSpec)

/-- 'umlautlaw02.WordOrders', WHERE WHAT IT READS IS OF BULK AT MOST 1048576: true; the input reads as it did. -/
def wordOrdersUptoRow : OpenClaim := { program := "ytbllbifkckipdaa", sum := "d3e97b8b3acfe2436acbcb3ecf37758dc4152b7d03ed3c27d1c155e9f133950c", func := "umlaut/umlautlaw02.WordOrders", spec := "wordOrders", apart := false, narrowed := true }
def WordOrdersUptoSaid : Prop := wordOrdersUptoRow.holds Try.pinned (OpenSpec.upto wordOrdersSpec)

/-- 'umlautlaw02.WordSorts', WHERE WHAT IT READS IS OF BULK AT MOST 1048576: true; the input reads as it did. -/
def wordSortsUptoRow : OpenClaim := { program := "ytbllbifkckipdaa", sum := "d3e97b8b3acfe2436acbcb3ecf37758dc4152b7d03ed3c27d1c155e9f133950c", func := "umlaut/umlautlaw02.WordSorts", spec := "wordSorts", apart := false, narrowed := true }
def WordSortsUptoSaid : Prop := wordSortsUptoRow.holds Try.pinned (OpenSpec.upto wordSortsSpec)

/-- 'umlautlaw02.WordRaws', WHERE WHAT IT READS IS OF BULK AT MOST 1048576: true; the input reads as it did. -/
def wordRawsUptoRow : OpenClaim := { program := "ytbllbifkckipdaa", sum := "d3e97b8b3acfe2436acbcb3ecf37758dc4152b7d03ed3c27d1c155e9f133950c", func := "umlaut/umlautlaw02.WordRaws", spec := "wordRaws", apart := false, narrowed := true }
def WordRawsUptoSaid : Prop := wordRawsUptoRow.holds Try.pinned (OpenSpec.upto wordRawsSpec)

/-- 'umlautlaw02.WordTexts', WHERE WHAT IT READS IS OF BULK AT MOST 1048576: true; the input reads as it did. -/
def wordTextsUptoRow : OpenClaim := { program := "ytbllbifkckipdaa", sum := "d3e97b8b3acfe2436acbcb3ecf37758dc4152b7d03ed3c27d1c155e9f133950c", func := "umlaut/umlautlaw02.WordTexts", spec := "wordTexts", inPlace := ["internal/abi.NoEscape"], apart := false, narrowed := true }
def WordTextsUptoSaid : Prop := wordTextsUptoRow.holds Try.pinned (OpenSpec.upto wordTextsSpec)

/-- 'umlautlaw02.WordBack', WHERE WHAT IT READS IS OF BULK AT MOST 1048576: true; the input reads as it did. -/
def wordBackUptoRow : OpenClaim := { program := "ytbllbifkckipdaa", sum := "d3e97b8b3acfe2436acbcb3ecf37758dc4152b7d03ed3c27d1c155e9f133950c", func := "umlaut/umlautlaw02.WordBack", spec := "wordBack", inPlace := ["internal/abi.NoEscape"], apart := false, narrowed := true }
def WordBackUptoSaid : Prop := wordBackUptoRow.holds Try.pinned (OpenSpec.upto wordBackSpec)

/-- 'umlautlaw01.SpanNorms', WHERE WHAT IT READS IS OF BULK AT MOST 1048576: true; the input reads as it did. -/
def spanNormsUptoRow : OpenClaim := { program := "ytbllbifkckipdaa", sum := "d3e97b8b3acfe2436acbcb3ecf37758dc4152b7d03ed3c27d1c155e9f133950c", func := "umlaut/umlautlaw01.SpanNorms", spec := "spanNorms", unfollowed := true, recurses := true, apart := false, narrowed := true }
def SpanNormsUptoSaid : Prop := spanNormsUptoRow.holds Try.pinned (OpenSpec.upto spanNormsSpec)

/-- 'umlautlaw02.WordLists', WHERE WHAT IT READS IS OF BULK AT MOST 1048576: true; the input reads as it did. -/
def wordListsUptoRow : OpenClaim := { program := "ytbllbifkckipdaa", sum := "d3e97b8b3acfe2436acbcb3ecf37758dc4152b7d03ed3c27d1c155e9f133950c", func := "umlaut/umlautlaw02.WordLists", spec := "wordLists", unfollowed := true, recurses := true, apart := false, narrowed := true }
def WordListsUptoSaid : Prop := wordListsUptoRow.holds Try.pinned (OpenSpec.upto wordListsSpec)

/-- 'umlautlaw01.SpanMoves', WHERE WHAT IT READS IS OF BULK AT MOST 1048576: true; the input reads as it did. -/
def spanMovesUptoRow : OpenClaim := { program := "ytbllbifkckipdaa", sum := "d3e97b8b3acfe2436acbcb3ecf37758dc4152b7d03ed3c27d1c155e9f133950c", func := "umlaut/umlautlaw01.SpanMoves", spec := "spanMoves", unfollowed := true, recurses := true, apart := false, narrowed := true }
def SpanMovesUptoSaid : Prop := spanMovesUptoRow.holds Try.pinned (OpenSpec.upto spanMovesSpec)

/-- 'umlautlaw01.SpanEach', WHERE WHAT IT READS IS OF BULK AT MOST 1048576: true; the input reads as it did. -/
def spanEachUptoRow : OpenClaim := { program := "ytbllbifkckipdaa", sum := "d3e97b8b3acfe2436acbcb3ecf37758dc4152b7d03ed3c27d1c155e9f133950c", func := "umlaut/umlautlaw01.SpanEach", spec := "spanEach", unfollowed := true, recurses := true, apart := false, narrowed := true }
def SpanEachUptoSaid : Prop := spanEachUptoRow.holds Try.pinned (OpenSpec.upto spanEachSpec)

/-- 'umlautlaw01.SpanBack', WHERE WHAT IT READS IS OF BULK AT MOST 1048576: true; the input reads as it did. -/
def spanBackUptoRow : OpenClaim := { program := "ytbllbifkckipdaa", sum := "d3e97b8b3acfe2436acbcb3ecf37758dc4152b7d03ed3c27d1c155e9f133950c", func := "umlaut/umlautlaw01.SpanBack", spec := "spanBack", unfollowed := true, recurses := true, apart := false, narrowed := true }
def SpanBackUptoSaid : Prop := spanBackUptoRow.holds Try.pinned (OpenSpec.upto spanBackSpec)

/-- 'umlautlaw01.SpanAlgebra', WHERE WHAT IT READS IS OF BULK AT MOST 1048576: true; the input reads as it did. -/
def spanAlgebraUptoRow : OpenClaim := { program := "ytbllbifkckipdaa", sum := "d3e97b8b3acfe2436acbcb3ecf37758dc4152b7d03ed3c27d1c155e9f133950c", func := "umlaut/umlautlaw01.SpanAlgebra", spec := "spanAlgebra", unfollowed := true, recurses := true, apart := false, narrowed := true }
def SpanAlgebraUptoSaid : Prop := spanAlgebraUptoRow.holds Try.pinned (OpenSpec.upto spanAlgebraSpec)

/-- 'umlautlaw01.SpanPairs', WHERE WHAT IT READS IS OF BULK AT MOST 1048576: true; the input reads as it did. -/
def spanPairsUptoRow : OpenClaim := { program := "ytbllbifkckipdaa", sum := "d3e97b8b3acfe2436acbcb3ecf37758dc4152b7d03ed3c27d1c155e9f133950c", func := "umlaut/umlautlaw01.SpanPairs", spec := "spanPairs", unfollowed := true, recurses := true, apart := false, narrowed := true }
def SpanPairsUptoSaid : Prop := spanPairsUptoRow.holds Try.pinned (OpenSpec.upto spanPairsSpec)

/-- 'umlautlaw01.SpanAsks', WHERE WHAT IT READS IS OF BULK AT MOST 1048576: true; the input reads as it did. -/
def spanAsksUptoRow : OpenClaim := { program := "ytbllbifkckipdaa", sum := "d3e97b8b3acfe2436acbcb3ecf37758dc4152b7d03ed3c27d1c155e9f133950c", func := "umlaut/umlautlaw01.SpanAsks", spec := "spanAsks", unfollowed := true, recurses := true, apart := false, narrowed := true }
def SpanAsksUptoSaid : Prop := spanAsksUptoRow.holds Try.pinned (OpenSpec.upto spanAsksSpec)

/-- 'umlautlaw01.SpanParts', WHERE WHAT IT READS IS OF BULK AT MOST 1048576: true; the input reads as it did. -/
def spanPartsUptoRow : OpenClaim := { program := "ytbllbifkckipdaa", sum := "d3e97b8b3acfe2436acbcb3ecf37758dc4152b7d03ed3c27d1c155e9f133950c", func := "umlaut/umlautlaw01.SpanParts", spec := "spanParts", unfollowed := true, recurses := true, apart := false, narrowed := true }
def SpanPartsUptoSaid : Prop := spanPartsUptoRow.holds Try.pinned (OpenSpec.upto spanPartsSpec)

end Rows
end Go.Proofs.Ytbllbifkckipdaa

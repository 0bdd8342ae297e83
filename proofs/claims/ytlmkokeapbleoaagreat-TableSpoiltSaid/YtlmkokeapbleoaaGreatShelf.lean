/- The contracts of the library that this seat leans on, laid at its numbers out of the kit's shelf. Condition: as each says. -/
import Derived.Shelf.Lay
import Derived.Shelf.LaySoft
import Derived.Shelf.SlGeneric
import Derived.Shelf.SlSortCmp.WholeK
import Derived.Shelf.SlSortCmp.Whole1
import Derived.Shelf.SlSortCmp.NoneTotal
import Derived.Shelf.Spec.SlicesGrow
import Derived.Ground.SlsfProg
import Derived.Ground.SlgnProg
import Derived.Ground.Names8Prog
import Derived.Test.YtlmkokeapbleoaaGreatProg
namespace Go.Proofs
open Go.Shelf
shelf_try shelf_lay_g SlLaysF0.n6 Slsf 6 at Tryz 157 as Tryz.sortSpan
shelf_tried
end Go.Proofs

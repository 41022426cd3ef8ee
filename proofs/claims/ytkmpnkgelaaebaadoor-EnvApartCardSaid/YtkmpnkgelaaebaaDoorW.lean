/- WALKS over jalousieref1: numbers of 128 bits. No condition but that numbers are of their kinds. -/
import Derived.Test.YtkmpnkgelaaebaaDoorWP
import Derived.Test.YtkmpnkgelaaebaaDoorCmp
import Derived.Shelf.Spec.BitsCarry
set_option linter.unusedSimpArgs false
set_option linter.unusedVariables false
namespace Go.Proofs.YtkmpnkgelaaebaaDoor
open Go.RowKit
end Go.Proofs.YtkmpnkgelaaebaaDoor

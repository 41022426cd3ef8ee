/- WALKS over rat, jalousieref1, ref8, dom: sizes, names, boxes. No condition but that numbers are of their kinds and strings of a length that can be. -/
import Derived.Test.YtkmpnkgelaaebaaDoorRat
import Derived.Test.YtkmpnkgelaaebaaDoorName
set_option linter.unusedSimpArgs false
set_option linter.unusedVariables false
namespace Go.Proofs.YtkmpnkgelaaebaaDoor
open Go.RowKit
end Go.Proofs.YtkmpnkgelaaebaaDoor

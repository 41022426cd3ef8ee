/- WALKS over jalousieref1: which of two fractions is less. No condition but that numbers are of their kinds. -/
import Derived.Test.YtkmpnkgelaaebaaDoorQDiv
import Derived.Deep.RegionHeld3
set_option linter.unusedSimpArgs false
set_option linter.unusedVariables false
namespace Go.Proofs.YtkmpnkgelaaebaaDoor
open Go.RowKit
end Go.Proofs.YtkmpnkgelaaebaaDoor

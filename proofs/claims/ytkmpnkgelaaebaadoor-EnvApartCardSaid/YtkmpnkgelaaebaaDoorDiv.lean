/- WALKS over jalousieref1: the quotient of numbers of 128 bits. No condition but that the second one is not 0, and less than half. -/
import Derived.Test.YtkmpnkgelaaebaaDoorGcd
set_option linter.unusedSimpArgs false
set_option linter.unusedVariables false
namespace Go.Proofs.YtkmpnkgelaaebaaDoor
open Go.RowKit
end Go.Proofs.YtkmpnkgelaaebaaDoor

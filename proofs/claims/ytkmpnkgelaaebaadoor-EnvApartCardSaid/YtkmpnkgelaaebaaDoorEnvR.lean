/- WALKS over jalousieref16: which environments may be. No condition but that numbers and texts are of their kinds. -/
import Derived.Test.YtkmpnkgelaaebaaDoorEnvM
import Derived.Test.YtkmpnkgelaaebaaDoorSeg
set_option linter.unusedSimpArgs false
set_option linter.unusedVariables false
namespace Go.Proofs.YtkmpnkgelaaebaaDoor
open Go.RowKit
end Go.Proofs.YtkmpnkgelaaebaaDoor

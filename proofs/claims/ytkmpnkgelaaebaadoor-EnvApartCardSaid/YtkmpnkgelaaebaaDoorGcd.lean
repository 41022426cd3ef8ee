/- WALKS over jalousieref1: the greatest common divisor of numbers of 128 bits. No condition but that the second one is not 0. -/
import Derived.Test.YtkmpnkgelaaebaaDoorW
import Derived.Test.YtkmpnkgelaaebaaDoorMem
import Derived.Test.YtkmpnkgelaaebaaDoorTail
set_option linter.unusedSimpArgs false
set_option linter.unusedVariables false
namespace Go.Proofs.YtkmpnkgelaaebaaDoor
open Go.RowKit
end Go.Proofs.YtkmpnkgelaaebaaDoor

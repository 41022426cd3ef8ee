/- Texts of the walk, one after the other; what each proves stands ahead of it. -/
import Derived.Test.YtjfccilmlmimaaaMa
import Derived.Test.YtjfccilmlmimaaaW
set_option linter.unusedSimpArgs false
set_option linter.unusedVariables false
/- WALKS over jalousieref1: the greatest common divisor of numbers of 128 bits. No condition but that the second one is not 0. -/
namespace Go.Proofs.Ytjfccilmlmimaaa
open Go.RowKit

/-- a box of 128 bits at g -/
def atW (w : World) (g x : Nat) : Prop := w.row g = some (.cells #[.int .u64 (hiW x), .int .u64 (loW x)] 69)

end Go.Proofs.Ytjfccilmlmimaaa

/- WALKS over jalousieref1: the quotient of numbers of 128 bits. No condition but that the second one is not 0, and less than half. -/
namespace Go.Proofs.Ytjfccilmlmimaaa
open Go.RowKit
end Go.Proofs.Ytjfccilmlmimaaa

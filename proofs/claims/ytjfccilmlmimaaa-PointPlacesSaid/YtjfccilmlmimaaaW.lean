/- WALKS over jalousieref1: numbers of 128 bits. No condition but that numbers are of their kinds. -/
import Derived.Test.YtjfccilmlmimaaaMb
import Derived.Test.YtjfccilmlmimaaaCmp
import Derived.Shelf.Spec.BitsCarry
set_option linter.unusedSimpArgs false
set_option linter.unusedVariables false
namespace Go.Proofs.Ytjfccilmlmimaaa
open Go.RowKit
set_option maxRecDepth 100000 in
theorem less_any (x y : Nat) (w : World) : Calls Try.prog 36 #[valW x, valW y] w (Gives w (.bool (decide (x < y)))) := by
  refine (refLess_any _ _ _ _ _).mono ?_
  rintro e w' ⟨rfl, h⟩
  exact ⟨ret_bool (by have := less_iff x y; rw [Bool.eq_iff_iff]; simp [lessH, ← this]), h⟩

end Go.Proofs.Ytjfccilmlmimaaa

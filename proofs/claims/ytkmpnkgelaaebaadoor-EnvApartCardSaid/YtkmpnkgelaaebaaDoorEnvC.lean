/- WALKS over env and jalousieref16: what a change hands back. No condition. -/
import Derived.Test.YtkmpnkgelaaebaaDoorEnvV
set_option linter.unusedSimpArgs false
set_option linter.unusedVariables false
namespace Go
open Go.RowKit

/-- no environment -/
def En.zero : En := ⟨false, 0, 0, 0, 0, 0, 0, 0, 0, ⟨#[]⟩, ⟨#[]⟩, ⟨#[]⟩, ⟨#[]⟩⟩
/-- what a change of e hands back, if it comes to o: an environment, and an error's number -/
def chgE (e : En) (o : Option En) : En := if e.may then (match o with | some f => f | none => En.zero) else En.zero
def chgW (e : En) (why : Int) (o : Option En) : Int := if e.may then (match o with | some _ => 0 | none => why) else 1
abbrev chgV (e : En) (why : Int) (o : Option En) : Value := .tuple #[(chgE e o).v, .int .i64 (chgW e why o)]

end Go

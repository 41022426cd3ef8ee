/- THE TIED CARD of EnvApart: for every environment and every change: a change changes its own features alone. Condition: none beside the program's own text, to which the list of nine names is tied. -/
import Derived.Test.YtkmpnkgelaaebaaDoorEnvApart
import Derived.Test.YtkmpnkgelaaebaaDoorCards
import Derived.Test.YtkmpnkgelaaebaaDoorTie
import Derived.SevenTiedAt
set_option linter.unusedSimpArgs false
set_option linter.unusedVariables false
namespace Go.Proofs.YtkmpnkgelaaebaaDoor
open Go

set_option maxRecDepth 100000 in
theorem envApartCard_holds : Rows.EnvApartCardSaid :=
  Claim7.holds_tied_plain_at .later [] [.data] true (true, "bdae23744846f9d337d168ce8a03c44b3e8ced25e72f6116b1d210746bb2fff4") false
    envApart_holds (fun _ h => by cases h) (by kernel_rfl) (fun _ h => by cases h) envApart_row_tie rfl ⟨rfl, rfl⟩ (by kernel_rfl) rfl
    (fun f fn hf hfn => by
      obtain rfl : f = 3 := Option.some.inj ((show Tryd.prog.funcNamed "jalousie/jalousielaw16.EnvApart" = some 3 by kernel_rfl).symm.trans hf) |>.symm
      obtain rfl : fn = Tryd.f3 := (Option.some.inj (Tryd.func3.symm.trans hfn)).symm
      exact ⟨by kernel_rfl, fun j t ht => by
        rw [Tryd.params3] at ht
        have hm : t ∈ [25, 30] := by simpa using Array.mem_of_getElem? ht
        have hall : ([25, 30].all fun u => !Tryd.prog.wantsStandIn u) = true := by kernel_rfl
        exact (show Tryd.prog.wantsStandIn t = false by simpa using List.all_eq_true.1 hall t hm)⟩)
    (by kernel_rfl)
#print axioms envApartCard_holds

end Go.Proofs.YtkmpnkgelaaebaaDoor

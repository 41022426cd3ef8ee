/- CHANGES of environments: what each comes to. No condition but that numbers are of their kinds. -/
import Derived.Test.YtkmpnkgelaaebaaDoorRows
import Derived.Test.YtkmpnkgelaaebaaDoorEnvP
import Derived.Test.YtkmpnkgelaaebaaDoorArgsQ
set_option linter.unusedSimpArgs false
set_option linter.unusedVariables false
namespace Go.Proofs.YtkmpnkgelaaebaaDoor
open Go.ChangeShapes Go.WideShapes Go.ChangeAt Go.RowKit
open Go.ChangeMaps (open_string shut_string)

/-- a change, whatever it comes to -/
theorem change_is (e : En) (o : Od) (he : e.Wf) (ho : o.Wf) : ∃ (E : En) (r : Int), ∀ w, Calls Tryd.prog 5 #[e.v, o.v] w (Gives w (.tuple #[E.v, .int .i64 r])) :=
  ⟨_, _, fun w => change_any e o w he ho⟩
theorem change_no (e : En) (o : Od) (he : e.Wf) (ho : o.Wf) (h : e.may = false ∨ o.ok = false) : ∃ r : Int, r ≠ 0 ∧ ∀ w, Calls Tryd.prog 5 #[e.v, o.v] w (Gives w (.tuple #[En.zero.v, .int .i64 r])) :=
  ⟨_, (chg_no h).2, fun w => by have := change_any e o w he ho; rw [chgV, (chg_no h).1] at this; exact this⟩
theorem change_ok (e : En) (o : Od) (w : World) (he : e.Wf) (ho : o.Wf) (h : e.may = true) (h2 : o.ok = true) : Calls Tryd.prog 5 #[e.v, o.v] w (Gives w (.tuple #[(e.upd o).v, .int .i64 0])) := by
  have := change_any e o w he ho; rw [chgV, (chg_ok h h2).1, (chg_ok h h2).2] at this; exact this
theorem zero_wf : En.zero.Wf := by unfold En.Wf En.zero I64; decide
theorem upd_wf {e : En} {o : Od} (he : e.Wf) (ho : o.Wf) : (e.upd o).Wf := by
  obtain ⟨h1, h2, h3, h4, h5, h6, h7, h8⟩ := he
  obtain ⟨g1, g2, g3, g4⟩ := ho
  unfold En.upd
  split
  · exact ⟨g1, g2, g3, g4, h5, h6, h7, h8⟩
  split
  · exact ⟨h1, h2, h3, h4, g1, g2, h7, h8⟩
  split
  · exact ⟨h1, h2, h3, h4, h5, h6, g1, g2⟩
  split
  · exact ⟨h1, h2, h3, h4, h5, h6, h7, h8⟩
  unfold En.put
  split
  · exact ⟨h1, h2, h3, h4, h5, h6, h7, h8⟩
  split
  · exact ⟨h1, h2, h3, h4, h5, h6, h7, h8⟩
  split <;> exact ⟨h1, h2, h3, h4, h5, h6, h7, h8⟩


end Go.Proofs.YtkmpnkgelaaebaaDoor

/- LAWS of this program's struct types: an element of a slice loaded. No condition. -/
import Derived.Test.YtkmpnkgelaaebaaDoorProg
import Derived.Test.YtkmpnkgelaaebaaDoorElt
set_option linter.unusedSimpArgs false
set_option linter.unusedVariables false
namespace Go.Proofs.YtkmpnkgelaaebaaDoor
open Go.RowKit

@[go_sem] theorem loade_23 (w : World) (g off : Nat) (h : segOk off 2 (w.row g) = true) : (loadR 23 (.pointer (some ⟨g, off, none⟩))).run Tryd.prog w = .ok (segV off 2 (w.row g)) w :=
  run_loadR_seg Tryd.underlying23 rfl (by kernel_rfl) h
@[go_sem] theorem loade_25 (w : World) (g off : Nat) (h : segOk off 13 (w.row g) = true) : (loadR 25 (.pointer (some ⟨g, off, none⟩))).run Tryd.prog w = .ok (segV off 13 (w.row g)) w :=
  run_loadR_seg Tryd.underlying25 rfl (by kernel_rfl) h
@[go_sem] theorem loade_28 (w : World) (g off : Nat) (h : segOk off 6 (w.row g) = true) : (loadR 28 (.pointer (some ⟨g, off, none⟩))).run Tryd.prog w = .ok (segV off 6 (w.row g)) w :=
  run_loadR_seg Tryd.underlying28 rfl (by kernel_rfl) h
@[go_sem] theorem loade_30 (w : World) (g off : Nat) (h : segOk off 18 (w.row g) = true) : (loadR 30 (.pointer (some ⟨g, off, none⟩))).run Tryd.prog w = .ok (segV off 18 (w.row g)) w :=
  run_loadR_seg Tryd.underlying30 rfl (by kernel_rfl) h
@[go_sem] theorem loade_37 (w : World) (g off : Nat) (h : segOk off 9 (w.row g) = true) : (loadR 37 (.pointer (some ⟨g, off, none⟩))).run Tryd.prog w = .ok (segV off 9 (w.row g)) w :=
  run_loadR_seg Tryd.underlying37 rfl (by kernel_rfl) h
@[go_sem] theorem loade_49 (w : World) (g off : Nat) (h : segOk off 4 (w.row g) = true) : (loadR 49 (.pointer (some ⟨g, off, none⟩))).run Tryd.prog w = .ok (segV off 4 (w.row g)) w :=
  run_loadR_seg Tryd.underlying49 rfl (by kernel_rfl) h

end Go.Proofs.YtkmpnkgelaaebaaDoor

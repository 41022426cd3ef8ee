/- LAWS of this program's struct types: an element of a slice loaded. No condition. -/
import Derived.Test.YthcaphoejplecaaDoorProg
import Derived.Test.YthcaphoejplecaaDoorElt
set_option linter.unusedSimpArgs false
set_option linter.unusedVariables false
namespace Go.Proofs.YthcaphoejplecaaDoor
open Go.RowKit

@[go_sem] theorem loade_35 (w : World) (g off : Nat) (h : segOk off 2 (w.row g) = true) : (loadR 35 (.pointer (some ⟨g, off, none⟩))).run Tryd.prog w = .ok (segV off 2 (w.row g)) w :=
  run_loadR_seg Tryd.underlying35 rfl (by kernel_rfl) h
@[go_sem] theorem loade_51 (w : World) (g off : Nat) (h : segOk off 2 (w.row g) = true) : (loadR 51 (.pointer (some ⟨g, off, none⟩))).run Tryd.prog w = .ok (segV off 2 (w.row g)) w :=
  run_loadR_seg Tryd.underlying51 rfl (by kernel_rfl) h
@[go_sem] theorem loade_53 (w : World) (g off : Nat) (h : segOk off 6 (w.row g) = true) : (loadR 53 (.pointer (some ⟨g, off, none⟩))).run Tryd.prog w = .ok (segV off 6 (w.row g)) w :=
  run_loadR_seg Tryd.underlying53 rfl (by kernel_rfl) h
@[go_sem] theorem loade_56 (w : World) (g off : Nat) (h : segOk off 7 (w.row g) = true) : (loadR 56 (.pointer (some ⟨g, off, none⟩))).run Tryd.prog w = .ok (segV off 7 (w.row g)) w :=
  run_loadR_seg Tryd.underlying56 rfl (by kernel_rfl) h
@[go_sem] theorem loade_61 (w : World) (g off : Nat) (h : segOk off 7 (w.row g) = true) : (loadR 61 (.pointer (some ⟨g, off, none⟩))).run Tryd.prog w = .ok (segV off 7 (w.row g)) w :=
  run_loadR_seg Tryd.underlying61 rfl (by kernel_rfl) h
@[go_sem] theorem loade_100 (w : World) (g off : Nat) (h : segOk off 2 (w.row g) = true) : (loadR 100 (.pointer (some ⟨g, off, none⟩))).run Tryd.prog w = .ok (segV off 2 (w.row g)) w :=
  run_loadR_seg Tryd.underlying100 rfl (by kernel_rfl) h
@[go_sem] theorem loade_117 (w : World) (g off : Nat) (h : segOk off 9 (w.row g) = true) : (loadR 117 (.pointer (some ⟨g, off, none⟩))).run Tryd.prog w = .ok (segV off 9 (w.row g)) w :=
  run_loadR_seg Tryd.underlying117 rfl (by kernel_rfl) h

end Go.Proofs.YthcaphoejplecaaDoor

/- LAWS of this program's struct types: an element of a slice loaded. No condition. -/
import Derived.Test.YthcaphoejplecaaGreatDoorProg
import Derived.Test.YthcaphoejplecaaGreatDoorElt
set_option linter.unusedSimpArgs false
set_option linter.unusedVariables false
namespace Go.Proofs.YthcaphoejplecaaGreatDoor
open Go.RowKit

@[go_sem] theorem loade_30 (w : World) (g off : Nat) (h : segOk off 2 (w.row g) = true) : (loadR 30 (.pointer (some ⟨g, off, none⟩))).run Tryz.prog w = .ok (segV off 2 (w.row g)) w :=
  run_loadR_seg Tryz.underlying30 rfl (by kernel_rfl) h
@[go_sem] theorem loade_63 (w : World) (g off : Nat) (h : segOk off 2 (w.row g) = true) : (loadR 63 (.pointer (some ⟨g, off, none⟩))).run Tryz.prog w = .ok (segV off 2 (w.row g)) w :=
  run_loadR_seg Tryz.underlying63 rfl (by kernel_rfl) h
@[go_sem] theorem loade_65 (w : World) (g off : Nat) (h : segOk off 6 (w.row g) = true) : (loadR 65 (.pointer (some ⟨g, off, none⟩))).run Tryz.prog w = .ok (segV off 6 (w.row g)) w :=
  run_loadR_seg Tryz.underlying65 rfl (by kernel_rfl) h
@[go_sem] theorem loade_70 (w : World) (g off : Nat) (h : segOk off 7 (w.row g) = true) : (loadR 70 (.pointer (some ⟨g, off, none⟩))).run Tryz.prog w = .ok (segV off 7 (w.row g)) w :=
  run_loadR_seg Tryz.underlying70 rfl (by kernel_rfl) h
@[go_sem] theorem loade_80 (w : World) (g off : Nat) (h : segOk off 7 (w.row g) = true) : (loadR 80 (.pointer (some ⟨g, off, none⟩))).run Tryz.prog w = .ok (segV off 7 (w.row g)) w :=
  run_loadR_seg Tryz.underlying80 rfl (by kernel_rfl) h
@[go_sem] theorem loade_100 (w : World) (g off : Nat) (h : segOk off 2 (w.row g) = true) : (loadR 100 (.pointer (some ⟨g, off, none⟩))).run Tryz.prog w = .ok (segV off 2 (w.row g)) w :=
  run_loadR_seg Tryz.underlying100 rfl (by kernel_rfl) h
@[go_sem] theorem loade_117 (w : World) (g off : Nat) (h : segOk off 9 (w.row g) = true) : (loadR 117 (.pointer (some ⟨g, off, none⟩))).run Tryz.prog w = .ok (segV off 9 (w.row g)) w :=
  run_loadR_seg Tryz.underlying117 rfl (by kernel_rfl) h

end Go.Proofs.YthcaphoejplecaaGreatDoor

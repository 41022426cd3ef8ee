/- LAWS of this program's struct types: an element of a slice loaded. No condition. -/
import Derived.Test.YtdbddnkjiehaiaaGreatProg
import Derived.Test.YtdbddnkjiehaiaaGreatMf
set_option linter.unusedSimpArgs false
set_option linter.unusedVariables false
namespace Go.Proofs.YtdbddnkjiehaiaaGreat
open Go.RowKit

@[go_sem] theorem loade_36 (w : World) (g off : Nat) (h : segOk off 2 (w.row g) = true) : (loadR 36 (.pointer (some ⟨g, off, none⟩))).run Tryz.prog w = .ok (segV off 2 (w.row g)) w :=
  run_loadR_seg Tryz.underlying36 rfl (by kernel_rfl) h
@[go_sem] theorem loade_38 (w : World) (g off : Nat) (h : segOk off 6 (w.row g) = true) : (loadR 38 (.pointer (some ⟨g, off, none⟩))).run Tryz.prog w = .ok (segV off 6 (w.row g)) w :=
  run_loadR_seg Tryz.underlying38 rfl (by kernel_rfl) h
@[go_sem] theorem loade_40 (w : World) (g off : Nat) (h : segOk off 11 (w.row g) = true) : (loadR 40 (.pointer (some ⟨g, off, none⟩))).run Tryz.prog w = .ok (segV off 11 (w.row g)) w :=
  run_loadR_seg Tryz.underlying40 rfl (by kernel_rfl) h
@[go_sem] theorem loade_45 (w : World) (g off : Nat) (h : segOk off 3 (w.row g) = true) : (loadR 45 (.pointer (some ⟨g, off, none⟩))).run Tryz.prog w = .ok (segV off 3 (w.row g)) w :=
  run_loadR_seg Tryz.underlying45 rfl (by kernel_rfl) h
@[go_sem] theorem loade_49 (w : World) (g off : Nat) (h : segOk off 11 (w.row g) = true) : (loadR 49 (.pointer (some ⟨g, off, none⟩))).run Tryz.prog w = .ok (segV off 11 (w.row g)) w :=
  run_loadR_seg Tryz.underlying49 rfl (by kernel_rfl) h
@[go_sem] theorem loade_58 (w : World) (g off : Nat) (h : segOk off 2 (w.row g) = true) : (loadR 58 (.pointer (some ⟨g, off, none⟩))).run Tryz.prog w = .ok (segV off 2 (w.row g)) w :=
  run_loadR_seg Tryz.underlying58 rfl (by kernel_rfl) h
@[go_sem] theorem loade_71 (w : World) (g off : Nat) (h : segOk off 2 (w.row g) = true) : (loadR 71 (.pointer (some ⟨g, off, none⟩))).run Tryz.prog w = .ok (segV off 2 (w.row g)) w :=
  run_loadR_seg Tryz.underlying71 rfl (by kernel_rfl) h

end Go.Proofs.YtdbddnkjiehaiaaGreat

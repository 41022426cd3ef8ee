/- LAWS of this program's struct types: an element of a slice loaded. No condition. -/
import Derived.Test.YtdbddnkjiehaiaaProg
import Derived.Test.YtdbddnkjiehaiaaMf
set_option linter.unusedSimpArgs false
set_option linter.unusedVariables false
namespace Go.Proofs.Ytdbddnkjiehaiaa
open Go.RowKit

@[go_sem] theorem loade_33 (w : World) (g off : Nat) (h : segOk off 2 (w.row g) = true) : (loadR 33 (.pointer (some ⟨g, off, none⟩))).run Try.prog w = .ok (segV off 2 (w.row g)) w :=
  run_loadR_seg Try.underlying33 rfl (by kernel_rfl) h
@[go_sem] theorem loade_35 (w : World) (g off : Nat) (h : segOk off 6 (w.row g) = true) : (loadR 35 (.pointer (some ⟨g, off, none⟩))).run Try.prog w = .ok (segV off 6 (w.row g)) w :=
  run_loadR_seg Try.underlying35 rfl (by kernel_rfl) h
@[go_sem] theorem loade_37 (w : World) (g off : Nat) (h : segOk off 11 (w.row g) = true) : (loadR 37 (.pointer (some ⟨g, off, none⟩))).run Try.prog w = .ok (segV off 11 (w.row g)) w :=
  run_loadR_seg Try.underlying37 rfl (by kernel_rfl) h
@[go_sem] theorem loade_46 (w : World) (g off : Nat) (h : segOk off 11 (w.row g) = true) : (loadR 46 (.pointer (some ⟨g, off, none⟩))).run Try.prog w = .ok (segV off 11 (w.row g)) w :=
  run_loadR_seg Try.underlying46 rfl (by kernel_rfl) h
@[go_sem] theorem loade_53 (w : World) (g off : Nat) (h : segOk off 2 (w.row g) = true) : (loadR 53 (.pointer (some ⟨g, off, none⟩))).run Try.prog w = .ok (segV off 2 (w.row g)) w :=
  run_loadR_seg Try.underlying53 rfl (by kernel_rfl) h
@[go_sem] theorem loade_62 (w : World) (g off : Nat) (h : segOk off 2 (w.row g) = true) : (loadR 62 (.pointer (some ⟨g, off, none⟩))).run Try.prog w = .ok (segV off 2 (w.row g)) w :=
  run_loadR_seg Try.underlying62 rfl (by kernel_rfl) h
@[go_sem] theorem loade_81 (w : World) (g off : Nat) (h : segOk off 3 (w.row g) = true) : (loadR 81 (.pointer (some ⟨g, off, none⟩))).run Try.prog w = .ok (segV off 3 (w.row g)) w :=
  run_loadR_seg Try.underlying81 rfl (by kernel_rfl) h

end Go.Proofs.Ytdbddnkjiehaiaa

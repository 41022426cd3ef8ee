/- LAWS of this program's struct types: an element of a slice loaded. No condition. -/
import Derived.Test.YthmicnjigfcljaaProg
import Derived.Test.YthmicnjigfcljaaMa
set_option linter.unusedSimpArgs false
set_option linter.unusedVariables false
namespace Go.Proofs.Ythmicnjigfcljaa
open Go.RowKit

@[go_sem] theorem loade_23 (w : World) (g off : Nat) (h : segOk off 2 (w.row g) = true) : (loadR 23 (.pointer (some ⟨g, off, none⟩))).run Try.prog w = .ok (segV off 2 (w.row g)) w :=
  run_loadR_seg Try.underlying23 rfl (by kernel_rfl) h
@[go_sem] theorem loade_26 (w : World) (g off : Nat) (h : segOk off 5 (w.row g) = true) : (loadR 26 (.pointer (some ⟨g, off, none⟩))).run Try.prog w = .ok (segV off 5 (w.row g)) w :=
  run_loadR_seg Try.underlying26 rfl (by kernel_rfl) h
@[go_sem] theorem loade_27 (w : World) (g off : Nat) (h : segOk off 14 (w.row g) = true) : (loadR 27 (.pointer (some ⟨g, off, none⟩))).run Try.prog w = .ok (segV off 14 (w.row g)) w :=
  run_loadR_seg Try.underlying27 rfl (by kernel_rfl) h
@[go_sem] theorem loade_30 (w : World) (g off : Nat) (h : segOk off 15 (w.row g) = true) : (loadR 30 (.pointer (some ⟨g, off, none⟩))).run Try.prog w = .ok (segV off 15 (w.row g)) w :=
  run_loadR_seg Try.underlying30 rfl (by kernel_rfl) h
@[go_sem] theorem loade_76 (w : World) (g off : Nat) (h : segOk off 2 (w.row g) = true) : (loadR 76 (.pointer (some ⟨g, off, none⟩))).run Try.prog w = .ok (segV off 2 (w.row g)) w :=
  run_loadR_seg Try.underlying76 rfl (by kernel_rfl) h
end Go.Proofs.Ythmicnjigfcljaa

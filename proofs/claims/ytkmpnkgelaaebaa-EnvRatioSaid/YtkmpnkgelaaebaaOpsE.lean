/- LAWS of this program's struct types: an element of a slice loaded. No condition. -/
import Derived.Test.YtkmpnkgelaaebaaProg
import Derived.Test.YtkmpnkgelaaebaaElt
set_option linter.unusedSimpArgs false
set_option linter.unusedVariables false
namespace Go.Proofs.Ytkmpnkgelaaebaa
open Go.RowKit

@[go_sem] theorem loade_23 (w : World) (g off : Nat) (h : segOk off 2 (w.row g) = true) : (loadR 23 (.pointer (some ⟨g, off, none⟩))).run Try.prog w = .ok (segV off 2 (w.row g)) w :=
  run_loadR_seg Try.underlying23 rfl (by kernel_rfl) h
@[go_sem] theorem loade_25 (w : World) (g off : Nat) (h : segOk off 6 (w.row g) = true) : (loadR 25 (.pointer (some ⟨g, off, none⟩))).run Try.prog w = .ok (segV off 6 (w.row g)) w :=
  run_loadR_seg Try.underlying25 rfl (by kernel_rfl) h
@[go_sem] theorem loade_29 (w : World) (g off : Nat) (h : segOk off 3 (w.row g) = true) : (loadR 29 (.pointer (some ⟨g, off, none⟩))).run Try.prog w = .ok (segV off 3 (w.row g)) w :=
  run_loadR_seg Try.underlying29 rfl (by kernel_rfl) h
@[go_sem] theorem loade_30 (w : World) (g off : Nat) (h : segOk off 3 (w.row g) = true) : (loadR 30 (.pointer (some ⟨g, off, none⟩))).run Try.prog w = .ok (segV off 3 (w.row g)) w :=
  run_loadR_seg Try.underlying30 rfl (by kernel_rfl) h
@[go_sem] theorem loade_32 (w : World) (g off : Nat) (h : segOk off 8 (w.row g) = true) : (loadR 32 (.pointer (some ⟨g, off, none⟩))).run Try.prog w = .ok (segV off 8 (w.row g)) w :=
  run_loadR_seg Try.underlying32 rfl (by kernel_rfl) h
@[go_sem] theorem loade_37 (w : World) (g off : Nat) (h : segOk off 13 (w.row g) = true) : (loadR 37 (.pointer (some ⟨g, off, none⟩))).run Try.prog w = .ok (segV off 13 (w.row g)) w :=
  run_loadR_seg Try.underlying37 rfl (by kernel_rfl) h
@[go_sem] theorem loade_41 (w : World) (g off : Nat) (h : segOk off 12 (w.row g) = true) : (loadR 41 (.pointer (some ⟨g, off, none⟩))).run Try.prog w = .ok (segV off 12 (w.row g)) w :=
  run_loadR_seg Try.underlying41 rfl (by kernel_rfl) h
@[go_sem] theorem loade_47 (w : World) (g off : Nat) (h : segOk off 18 (w.row g) = true) : (loadR 47 (.pointer (some ⟨g, off, none⟩))).run Try.prog w = .ok (segV off 18 (w.row g)) w :=
  run_loadR_seg Try.underlying47 rfl (by kernel_rfl) h
@[go_sem] theorem loade_68 (w : World) (g off : Nat) (h : segOk off 6 (w.row g) = true) : (loadR 68 (.pointer (some ⟨g, off, none⟩))).run Try.prog w = .ok (segV off 6 (w.row g)) w :=
  run_loadR_seg Try.underlying68 rfl (by kernel_rfl) h
@[go_sem] theorem loade_70 (w : World) (g off : Nat) (h : segOk off 4 (w.row g) = true) : (loadR 70 (.pointer (some ⟨g, off, none⟩))).run Try.prog w = .ok (segV off 4 (w.row g)) w :=
  run_loadR_seg Try.underlying70 rfl (by kernel_rfl) h
@[go_sem] theorem loade_83 (w : World) (g off : Nat) (h : segOk off 2 (w.row g) = true) : (loadR 83 (.pointer (some ⟨g, off, none⟩))).run Try.prog w = .ok (segV off 2 (w.row g)) w :=
  run_loadR_seg Try.underlying83 rfl (by kernel_rfl) h

end Go.Proofs.Ytkmpnkgelaaebaa

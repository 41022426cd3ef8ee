/- LAWS of this program's struct types: an element of a slice loaded. No condition. -/
import Derived.Test.YtajkfmnnokkcaaaProg
import Derived.Test.YtajkfmnnokkcaaaElt
set_option linter.unusedSimpArgs false
set_option linter.unusedVariables false
namespace Go.Proofs.Ytajkfmnnokkcaaa
open Go.RowKit

@[go_sem] theorem loade_31 (w : World) (g off : Nat) (h : segOk off 3 (w.row g) = true) : (loadR 31 (.pointer (some ⟨g, off, none⟩))).run Try.prog w = .ok (segV off 3 (w.row g)) w :=
  run_loadR_seg Try.underlying31 rfl (by kernel_rfl) h
@[go_sem] theorem loade_32 (w : World) (g off : Nat) (h : segOk off 3 (w.row g) = true) : (loadR 32 (.pointer (some ⟨g, off, none⟩))).run Try.prog w = .ok (segV off 3 (w.row g)) w :=
  run_loadR_seg Try.underlying32 rfl (by kernel_rfl) h
@[go_sem] theorem loade_34 (w : World) (g off : Nat) (h : segOk off 8 (w.row g) = true) : (loadR 34 (.pointer (some ⟨g, off, none⟩))).run Try.prog w = .ok (segV off 8 (w.row g)) w :=
  run_loadR_seg Try.underlying34 rfl (by kernel_rfl) h
@[go_sem] theorem loade_52 (w : World) (g off : Nat) (h : segOk off 6 (w.row g) = true) : (loadR 52 (.pointer (some ⟨g, off, none⟩))).run Try.prog w = .ok (segV off 6 (w.row g)) w :=
  run_loadR_seg Try.underlying52 rfl (by kernel_rfl) h

end Go.Proofs.Ytajkfmnnokkcaaa

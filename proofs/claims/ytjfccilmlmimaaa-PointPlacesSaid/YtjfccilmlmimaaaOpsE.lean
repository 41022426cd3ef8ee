/- LAWS of this program's struct types: an element of a slice loaded. No condition. -/
import Derived.Test.YtjfccilmlmimaaaProg
import Derived.Test.YtjfccilmlmimaaaMa
set_option linter.unusedSimpArgs false
set_option linter.unusedVariables false
namespace Go.Proofs.Ytjfccilmlmimaaa
open Go.RowKit

@[go_sem] theorem loade_24 (w : World) (g off : Nat) (h : segOk off 2 (w.row g) = true) : (loadR 24 (.pointer (some ⟨g, off, none⟩))).run Try.prog w = .ok (segV off 2 (w.row g)) w :=
  run_loadR_seg Try.underlying24 rfl (by kernel_rfl) h
@[go_sem] theorem loade_37 (w : World) (g off : Nat) (h : segOk off 5 (w.row g) = true) : (loadR 37 (.pointer (some ⟨g, off, none⟩))).run Try.prog w = .ok (segV off 5 (w.row g)) w :=
  run_loadR_seg Try.underlying37 rfl (by kernel_rfl) h
@[go_sem] theorem loade_69 (w : World) (g off : Nat) (h : segOk off 2 (w.row g) = true) : (loadR 69 (.pointer (some ⟨g, off, none⟩))).run Try.prog w = .ok (segV off 2 (w.row g)) w :=
  run_loadR_seg Try.underlying69 rfl (by kernel_rfl) h

end Go.Proofs.Ytjfccilmlmimaaa

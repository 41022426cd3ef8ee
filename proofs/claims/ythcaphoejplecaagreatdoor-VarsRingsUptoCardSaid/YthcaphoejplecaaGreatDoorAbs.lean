/- LAWS over any program: a world taken for another one of which only some blocks are known. No condition. -/
import Derived.Test.YthcaphoejplecaaGreatDoorRow
set_option linter.unusedSimpArgs false
set_option linter.unusedVariables false
namespace Go
open Go.RowKit

theorem abs_rows {G : World → Prop} {w W : World} (g : w.grows W) (l : List (Nat × Obj)) (hl : ∀ p ∈ l, W.row p.1 = some p.2) (h : ∀ W', w.grows W' → (∀ p ∈ l, W'.row p.1 = some p.2) → G W') : G W := h W g hl
theorem row_lt {W : World} {i : Nat} {o : Obj} (h : W.row i = some o) : i < W.heap.size := by
  unfold World.row at h; exact (Array.getElem?_eq_some_iff.1 h).1
theorem row_plus_of {W : World} {i : Nat} {o : Obj} (h : W.row i = some o) (x : Ext) : (W.plus x).row i = some o := by
  rw [World.row_plus, if_pos (row_lt h), h]
theorem row_alloc_of {W : World} {i : Nat} {o : Obj} (h : W.row i = some o) (c : Obj) : (W.alloc c).row i = some o := by
  rw [World.row_alloc, if_neg (by have := row_lt h; omega), h]
theorem row_sz {W : World} {i : Nat} {o : Obj} (h : W.row i = some o) : (i < W.heap.size) ∧ (∀ b, i < W.heap.size + b) ∧ (∀ b c, i < W.heap.size + b + c) ∧ (∀ b c d, i < W.heap.size + b + c + d) ∧
    ((i = W.heap.size) = False) ∧ (∀ b, (i = W.heap.size + b) = False) ∧ (∀ b c, (i = W.heap.size + b + c) = False) ∧ (∀ b c d, (i = W.heap.size + b + c + d) = False) := by
  have := row_lt h
  refine ⟨this, fun b => by omega, fun b c => by omega, fun b c d => by omega, by apply eq_false; omega, fun b => by apply eq_false; omega, fun b c => by apply eq_false; omega, fun b c d => by apply eq_false; omega⟩
end Go

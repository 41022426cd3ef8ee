/- INTS IN A BLOCK: a block of whole numbers as a function of places: reading, writing. No condition; laws over any program. -/
import Derived.Test.YtdbddnkjiehaiaaGreatMf
import Derived.Test.YtdbddnkjiehaiaaGreatMa
import Derived.Test.YtdbddnkjiehaiaaGreatSl
import Derived.Test.YtdbddnkjiehaiaaGreatSymP
set_option linter.unusedSimpArgs false
set_option linter.unusedVariables false
namespace Go
open Go.RowKit

theorem wrapI {x : Int} (h : -9223372036854775808 ≤ x) (h2 : x ≤ 9223372036854775807) : IntKind.wrap .i64 x = x := by
  simp [IntKind.wrap, IntKind.signed, IntKind.bits]
  omega
/-- n whole numbers -/
def intsL (f : Nat → Int) (n : Nat) : List Value := (List.range n).map fun i => .int .i64 (f i)
theorem intsL_len (f : Nat → Int) (n : Nat) : (intsL f n).length = n := by simp [intsL]
theorem intsL_get (f : Nat → Int) {n i : Nat} (h : i < n) : (intsL f n)[i]? = some (.int .i64 (f i)) := by simp [intsL, h]
def upF (f : Nat → Int) (i : Nat) (x : Int) : Nat → Int := fun k => if k = i then x else f k
theorem intsL_set (f : Nat → Int) (n i : Nat) (x : Int) : (intsL f n).set i (.int .i64 x) = intsL (upF f i x) n := by
  apply List.ext_getElem?
  intro k
  rw [List.getElem?_set, intsL_len]
  by_cases hk : k < n
  · by_cases h : i = k
    · subst h; rw [if_pos rfl, if_pos hk, intsL_get _ hk]; simp [upF]
    · rw [if_neg h, intsL_get _ hk, intsL_get _ hk]; simp [upF, show ¬ k = i from fun e => h e.symm]
  · have e : (intsL (upF f i x) n)[k]? = none := List.getElem?_eq_none (by rw [intsL_len]; omega)
    by_cases h : i = k
    · subst h; rw [if_pos rfl, if_neg hk, e]
    · rw [if_neg h, e]; exact List.getElem?_eq_none (by rw [intsL_len]; omega)
theorem up_sw (f : Nat → Int) (i j : Nat) : upF (upF f i (f j)) j (f i) = swF f j i := by
  funext k
  unfold upF swF
  by_cases h : k = j <;> simp [h]
theorem sw_comm (f : Nat → Int) (i j : Nat) : swF f i j = swF f j i := by
  funext k
  unfold swF
  by_cases h : k = i
  · by_cases h2 : k = j
    · rw [if_pos h, if_pos h2, ← h, ← h2]
    · rw [if_pos h, if_neg h2, if_pos h]
  · by_cases h2 : k = j
    · rw [if_neg h, if_pos h2, if_pos h2]
    · rw [if_neg h, if_neg h2, if_neg h2, if_neg h]
@[go_sem] theorem cellR_ints (f : Nat → Int) (n i : Nat) (t : TypeId) (fr : Nat × Nat) (h : i < n) : cellR i (some (.cells (intsL f n).toArray t fr)) = some (.int .i64 (f i)) := by
  show (intsL f n).toArray[i]? = _
  simp [intsL_get f h]
@[go_sem] theorem setR_ints (f : Nat → Int) (n i : Nat) (x : Int) (t : TypeId) (fr : Nat × Nat) : setR i (.int .i64 x) (some (.cells (intsL f n).toArray t fr)) = some (.cells (intsL (upF f i x) n).toArray t fr) := by
  show some (Obj.cells ((intsL f n).toArray.setIfInBounds i (.int .i64 x)) t fr) = _
  rw [List.setIfInBounds_toArray, intsL_set]
/-- the world in which the block g alone is written, and others are made -/
structure On (g : Nat) (w w' : World) : Prop where
  gr : ∀ w0 : World, w0.heap.size ≤ g → w0.grows w → w0.grows w'
  size : w.heap.size ≤ w'.heap.size
  row : ∀ k, k ≠ g → k < w.heap.size → w'.row k = w.row k
theorem On.refl (g : Nat) (w : World) : On g w w := ⟨fun _ _ h => h, Nat.le_refl _, fun _ _ _ => rfl⟩
theorem On.trans {g : Nat} {a b c : World} (h : On g a b) (k : On g b c) : On g a c :=
  ⟨fun w0 h0 hg => k.gr w0 h0 (h.gr w0 h0 hg), Nat.le_trans h.size k.size, fun n hn hl => (k.row n hn (Nat.lt_of_lt_of_le hl h.size)).trans (h.row n hn hl)⟩
theorem On.set {g : Nat} {w w' : World} (h : On g w w') (i : Nat) (v : Value) : On g w (w'.setCell ⟨g, i, none⟩ v) :=
  ⟨fun w0 h0 hg => (h.gr w0 h0 hg).setCell' h0 i v, by simp [World.setCell]; exact h.size, fun k hk hl => by rw [World.row_setCell, if_neg hk]; exact h.row k hk hl⟩
theorem On.grow {g : Nat} {w w' W : World} (h : On g w w') (hg : w'.grows W) : On g w W :=
  ⟨fun w0 h0 h1 => (h.gr w0 h0 h1).trans hg, Nat.le_trans h.size hg.below.size, fun k hk hl => (hg.row_eq (Nat.lt_of_lt_of_le hl h.size)).trans (h.row k hk hl)⟩
theorem On.drew {g : Nat} {w w' : World} (h : On g w w') : On g w w'.drew := h.grow (World.grows.drew World.grows.refl)
end Go

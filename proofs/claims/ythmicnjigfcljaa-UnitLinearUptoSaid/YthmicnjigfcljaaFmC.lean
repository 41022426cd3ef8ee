/- PLAIN: a form in px, unit by unit; how great its numbers are. No condition; no program. -/
import Derived.Test.YthmicnjigfcljaaMq
import Derived.Test.YthmicnjigfcljaaMg
set_option linter.unusedSimpArgs false
set_option linter.unusedVariables false
namespace Go
open Go.RowKit
/-- the first i units in px -/
def usPxN (sz : Int → Int × Int) (us : List (Int × Int)) (n : Nat) : List (Int × Int) :=
  ((List.range n).filter fun i => uGet us i != (0, 1)).map fun i => foldQ (1, 1) mulQ [uGet us i, sz ((i : Int) + 1)]
theorem usPxN_all (sz : Int → Int × Int) (us : List (Int × Int)) : usPxN sz us 7 = usPx sz us := rfl
theorem usPxN_yes {sz : Int → Int × Int} {us : List (Int × Int)} {i : Nat} (h : ¬ uGet us i = (0, 1)) : usPxN sz us (i + 1) = usPxN sz us i ++ [foldQ (1, 1) mulQ [uGet us i, sz ((i : Int) + 1)]] := by
  have h' : (uGet us i != (0, 1)) = true := by simpa using h
  unfold usPxN
  rw [List.range_succ, List.filter_append, List.map_append]
  simp [h']
theorem usPxN_no {sz : Int → Int × Int} {us : List (Int × Int)} {i : Nat} (h : uGet us i = (0, 1)) : usPxN sz us (i + 1) = usPxN sz us i := by
  unfold usPxN
  rw [List.range_succ, List.filter_append, List.map_append]
  simp [h]
theorem usPxN_len (sz : Int → Int × Int) (us : List (Int × Int)) (n : Nat) : (usPxN sz us n).length ≤ n := by
  unfold usPxN
  rw [List.length_map]
  exact Nat.le_trans (List.length_filter_le _ _) (by simp)
theorem usPxN_bd {sz : Int → Int × Int} (hsz : ∀ u, I64p (sz u)) {us : List (Int × Int)} (hu : ∀ p ∈ us, I64p p) {n : Nat} : ∀ p ∈ usPxN sz us n, I64p p := by
  intro p hp
  obtain ⟨i, _, rfl⟩ := List.mem_map.1 hp
  refine foldQ_bd (fun p q => mulQ_bd p q) (by simp [I64p, I64]) fun q hq => ?_
  simp only [List.mem_cons, List.not_mem_nil, or_false] at hq
  rcases hq with rfl | rfl
  · unfold uGet
    rw [List.getD_eq_getElem?_getD]
    cases hx : us[i]? with
    | none => simp [I64p, I64]
    | some p => exact hu p (List.mem_of_getElem? hx)
  · exact hsz _
theorem SlAt.mem {α : Type} {w : World} {S : Nat → Prop} {n : Nat} {R : α → List Value → Prop} {v : Value} {l : List α} (h : SlAt w S n R v l) {x : α} (hx : x ∈ l) : ∃ cs, R x cs := by
  obtain ⟨a, cap, _, _, _, h4⟩ := h
  rcases h4 with rfl | ⟨g, off, _, _, h7⟩
  · cases hx
  · obtain ⟨i, hi, rfl⟩ := List.mem_iff_getElem.1 hx
    obtain ⟨cs, _, _, h⟩ := h7 i l[i] (by simp [hi])
    exact ⟨cs, h⟩
theorem pxF_bd {w : World} {S : Nat → Prop} {sz : Int → Int × Int} (hsz : ∀ u, I64p (sz u)) : ∀ (m : Nat) (f : Fm) (cs : List Value), FormAt w S m f cs → I64p (pxF sz f)
  | 0, _, _, h => h.elim
  | m + 1, .mk us ps, cs, h => by
    obtain ⟨_, h2, v, _, h4⟩ := h
    rw [pxF_eq]
    refine foldQ_bd addQ_bd (by simp [I64p, I64]) fun p hp => ?_
    rcases List.mem_append.1 hp with hp | hp
    · exact usPxN_bd hsz h2 p hp
    · obtain ⟨q, hq, rfl⟩ := List.mem_map.1 hp
      obtain ⟨cs', v', _, h5⟩ := h4.mem hq
      refine bestQ_bd fun r hr => ?_
      obtain ⟨f, hf, rfl⟩ := List.mem_map.1 hr
      obtain ⟨cs2, h6⟩ := h5.mem hf
      exact pxF_bd hsz m f cs2 h6
theorem pxPart_bd {w : World} {S : Nat → Prop} {sz : Int → Int × Int} (hsz : ∀ u, I64p (sz u)) {m : Nat} {p : Bool × List Fm} {cs : List Value} (h : PartR (FormAt w S m) w S p cs) : I64p (pxPart sz p) := by
  obtain ⟨v', _, h5⟩ := h
  refine bestQ_bd fun r hr => ?_
  obtain ⟨f, hf, rfl⟩ := List.mem_map.1 hr
  obtain ⟨cs2, h6⟩ := h5.mem hf
  exact pxF_bd hsz m f cs2 h6
end Go

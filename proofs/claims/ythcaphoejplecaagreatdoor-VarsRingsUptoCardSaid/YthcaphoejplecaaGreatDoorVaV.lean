/- WALK over rule: the component values of tokens. No condition but the bound on their number. -/
import Derived.Test.YthcaphoejplecaaGreatDoorVaC
set_option linter.unusedSimpArgs false
set_option linter.unusedVariables false
namespace Go.Proofs.YthcaphoejplecaaGreatDoor
open Go.RowKit
/-- behind the write: the openers have grown -/
theorem Stk.pushO {w0 w W : World} {b3 b4 : Nat} {tg : Nat → Option Nat} {vO vS vO' : Value} {ins : List Value} {p : Ps} {t : Tk}
    (h : StkD w w0.heap.size tg vO vS ins p) (t3 : tg b3 = some 2) (t4 : tg b4 = some 3) (l3 : w0.heap.size ≤ b3) (l4 : w0.heap.size ≤ b4) (hx3 : w.row b3 = some (.cells #[vS] 89)) (hx4 : b4 < w.heap.size)
    (ht : t.Wf) (hb : GrO w.heap.size vO vO') (ho : W.ownsRow w0.heap.size 65 6 vO' (p.os.length + 1) (p.os.flatMap Tk.cs ++ t.cs)) (hg : w0.grows W) (hs : w.heap.size ≤ W.heap.size)
    (hr : ∀ g, g < w.heap.size → g ≠ b4 → vO.ownBlock ≠ some g → W.row g = w.row g) (hw : W.row b4 = some (.cells #[vO'] 27)) :
    Stk w0 W b3 b4 ⟨p.os ++ [t], p.ls⟩ := by
  have z3 := (row_sz' hx3).1
  have m3 : vO.ownBlock ≠ some b3 := fun e => by have := h.tO _ e; rw [t3] at this; simp at this
  have n3 : b3 ≠ b4 := fun e => by rw [e, t4] at t3; simp at t3
  refine ⟨_, vO', vS, ins, hg, h.pushO ht ho hb hs (fun g _ a b c d => hr g a (fun hh => d (by rw [hh]; exact t4)) fun hh => b (h.tO g hh)), ?_, ?_, l3, l4, (hr b3 z3 n3 m3).trans hx3, hw⟩
  · rw [tgNew_old _ _ _ _ z3]; exact t3
  · rw [tgNew_old _ _ _ _ hx4]; exact t4
/-- behind the write: the stack has grown by an empty list -/
theorem Stk.pushS {w0 w W : World} {b3 b4 : Nat} {tg : Nat → Option Nat} {vO vS vS' : Value} {ins : List Value} {p : Ps}
    (h : StkD w w0.heap.size tg vO vS ins p) (t3 : tg b3 = some 2) (t4 : tg b4 = some 3) (l3 : w0.heap.size ≤ b3) (l4 : w0.heap.size ≤ b4) (hx3 : b3 < w.heap.size) (hx4 : w.row b4 = some (.cells #[vO] 27))
    (hb : GrO w.heap.size vS vS') (ho : W.ownsRow w0.heap.size 58 1 vS' (p.ls.length + 1) (ins ++ [.slice none 0 0])) (hg : w0.grows W) (hs : w.heap.size ≤ W.heap.size)
    (hr : ∀ g, g < w.heap.size → g ≠ b3 → vS.ownBlock ≠ some g → W.row g = w.row g) (hw : W.row b3 = some (.cells #[vS'] 89)) :
    Stk w0 W b3 b4 ⟨p.os, p.ls ++ [[]]⟩ := by
  have z4 := (row_sz' hx4).1
  have m4 : vS.ownBlock ≠ some b4 := fun e => by have := h.tS _ e; rw [t4] at this; simp at this
  have n4 : b4 ≠ b3 := fun e => by rw [e, t3] at t4; simp at t4
  refine ⟨_, vO, vS', _, hg, h.pushS ho hb hs (fun g _ a b c d => hr g a (fun hh => c (by rw [hh]; exact t3)) fun hh => b (h.tS g hh)), ?_, ?_, l3, l4, hw, (hr b4 z4 n4 m4).trans hx4⟩
  · rw [tgNew_old _ _ _ _ hx3]; exact t3
  · rw [tgNew_old _ _ _ _ z4]; exact t4
theorem Stk.grows {w0 w W : World} {b3 b4 : Nat} {p : Ps} (h : Stk w0 w b3 b4 p) (hg : w.grows W) : Stk w0 W b3 b4 p := by
  obtain ⟨tg, vO, vS, ins, h1, h2, h3, h4, h5, h6, h7, h8⟩ := h
  exact ⟨tg, vO, vS, ins, h1.trans hg, h2.keep hg.below.size (fun g _ hl _ _ => hg.row_eq hl) (fun _ _ => rfl), h3, h4, h5, h6, (hg.row_eq (row_sz' h7).1).trans h7, (hg.row_eq (row_sz' h8).1).trans h8⟩
/-- the stack at the start -/
theorem Stk.start {w0 w : World} {b0 b3 b4 : Nat} (hg : w0.grows w) (l0 : w0.heap.size ≤ b0) (l3 : w0.heap.size ≤ b3) (l4 : w0.heap.size ≤ b4) (n03 : b0 ≠ b3) (n04 : b0 ≠ b4) (n34 : b3 ≠ b4)
    (h0 : w.row b0 = some (.cells #[.slice none 0 0] 58)) (h3 : w.row b3 = some (.cells #[.slice (some ⟨b0, 0, none⟩) 1 1] 89)) (h4 : w.row b4 = some (.cells #[.slice none 0 0] 27)) :
    Stk w0 w b3 b4 (Ps.run []) := by
  refine ⟨(fun g => if g = b0 then some 1 else if g = b3 then some 2 else if g = b4 then some 3 else none), .slice none 0 0, .slice (some ⟨b0, 0, none⟩) 1 1, [.slice none 0 0], hg, ⟨World.ownsRow_nil _ _ _ _, (fun t ht => (by cases ht)), ?_, ⟨rfl, fun i v l q1 q2 => ?_, fun i v g q1 q2 => ?_⟩, (fun g hg => (by cases hg)), fun g hg => ?_⟩, ?_, ?_, l3, l4, h3, h4⟩
  · exact ⟨rfl, .inr ⟨b0, 1, #[.slice none 0 0], rfl, l0, h0, Nat.le_refl _, by simp [maxLen], rfl, rfl⟩⟩
  · cases i with
    | zero =>
      simp [Ps.run] at q1 q2
      subst q1; subst q2
      exact ⟨[], rfl, fun j x cs p1 _ => by simp at p1, by simp, .inl ⟨rfl, rfl⟩⟩
    | succ i => simp at q1
  · cases i with
    | zero => simp at q1; subst q1; cases q2
    | succ i => simp at q1
  · have : b0 = g := by injection hg
    simp [this]
  · show (if b3 = b0 then _ else _) = _
    rw [if_neg (Ne.symm n03), if_pos rfl]
  · show (if b4 = b0 then _ else _) = _
    rw [if_neg (Ne.symm n04), if_neg (Ne.symm n34), if_pos rfl]
end Go.Proofs.YthcaphoejplecaaGreatDoor

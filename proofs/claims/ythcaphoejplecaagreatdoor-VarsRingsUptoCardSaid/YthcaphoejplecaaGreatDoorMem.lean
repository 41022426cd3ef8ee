/- LAWS on worlds: every cell read through its block's row; stores by rows. No condition. -/
import Derived.Test.YthcaphoejplecaaGreatDoorExec
import Derived.Test.YthcaphoejplecaaGreatDoorAbs
set_option linter.unusedSimpArgs false
set_option linter.unusedVariables false
namespace Go
open Go.RowKit

def cellR (i : Nat) : Option Obj → Option Value
  | some (.cells cs _ _) => cs[i]?
  | _ => none
def frozenR (i : Nat) : Option Obj → Bool
  | some (.cells _ _ (lo, hi)) => lo ≤ i && i < hi
  | _ => false
def setR (i : Nat) (v : Value) : Option Obj → Option Obj
  | some (.cells cs t fr) => some (.cells (cs.setIfInBounds i v) t fr)
  | o => o
def allR (c : Array Value) : Option Obj → Option Obj
  | some (.cells _ t fr) => some (.cells c t fr)
  | o => o
@[go_sem] theorem cellR_some (i : Nat) (cs : Array Value) (t : TypeId) (fr : Nat × Nat) : cellR i (some (.cells cs t fr)) = cs[i]? := rfl
@[go_sem] theorem frozenR_some (i : Nat) (cs : Array Value) (t : TypeId) (a b : Nat) : frozenR i (some (.cells cs t (a, b))) = (decide (a ≤ i) && decide (i < b)) := rfl
@[go_sem] theorem setR_some (i : Nat) (v : Value) (cs : Array Value) (t : TypeId) (fr : Nat × Nat) : setR i v (some (.cells cs t fr)) = some (.cells (cs.setIfInBounds i v) t fr) := rfl
@[go_sem] theorem allR_some (c cs : Array Value) (t : TypeId) (fr : Nat × Nat) : allR c (some (.cells cs t fr)) = some (.cells c t fr) := rfl
@[go_sem] theorem World.cell?_row (w : World) (g i : Nat) : w.cell? ⟨g, i, none⟩ = cellR i (w.row g) := by
  unfold World.cell? World.row cellR
  simp only
  cases w.heap[g]? with
  | none => rfl
  | some o => cases o <;> simp
@[go_sem] theorem World.frozen?_row (w : World) (g i : Nat) : w.frozen? ⟨g, i, none⟩ = frozenR i (w.row g) := by
  unfold World.frozen? World.row frozenR
  simp only
  cases w.heap[g]? with
  | none => rfl
  | some o => cases o <;> rfl
@[go_sem] theorem World.row_setCell (w : World) (g i n : Nat) (v : Value) : (w.setCell ⟨g, i, none⟩ v).row n = if n = g then setR i v (w.row g) else w.row n := by
  unfold World.setCell World.row setR
  simp only [Array.getElem?_modify]
  by_cases h : n = g
  · subst h
    simp only [if_pos]
    cases w.heap[n]? with
    | none => rfl
    | some o => cases o <;> simp
  · rw [if_neg (fun e => h e.symm), if_neg h]
@[go_sem] theorem World.row_setRow (w : World) (g n : Nat) (c : Array Value) : (w.setRow g c).row n = if n = g then allR c (w.row g) else w.row n := by
  unfold World.setRow World.row allR
  simp only [Array.getElem?_modify]
  by_cases h : n = g
  · subst h
    simp only [if_pos]
    cases w.heap[n]? with
    | none => rfl
    | some o => cases o <;> simp
  · rw [if_neg (fun e => h e.symm), if_neg h]
theorem World.setRow_size' (w : World) (g : Nat) (c : Array Value) : (w.setRow g c).heap.size = w.heap.size := by simp [World.setRow]
theorem World.grows.setRow' {a b : World} (h : a.grows b) {n : Nat} (hn : a.heap.size ≤ n) (c : Array Value) : a.grows (b.setRow n c) := by
  obtain ⟨x, rfl⟩ := h
  refine World.grows.of_below ⟨rfl, rfl, rfl, ?_, fun k hk => ?_⟩
  · rw [World.setRow_size']; simp
  · rw [setRow_other _ _ _ _ (by omega)]; exact World.heap_plus_lt _ _ hk
theorem World.setCell_size' (w : World) (g : Addr) (c : Value) : (w.setCell g c).heap.size = w.heap.size := by simp [World.setCell]
theorem World.grows.setCell' {a b : World} (h : a.grows b) {n : Nat} (hn : a.heap.size ≤ n) (i : Nat) (c : Value) : a.grows (b.setCell ⟨n, i, none⟩ c) := by
  obtain ⟨x, rfl⟩ := h
  refine World.grows.of_below ⟨rfl, rfl, rfl, ?_, fun k hk => ?_⟩
  · rw [World.setCell_size']; simp
  · have : n ≠ k := by omega
    simp only [World.setCell, Array.getElem?_modify, if_neg this]; exact World.heap_plus_lt _ _ hk
theorem grE {a b : World} (h : a.grows b) {n : Nat} (hn : a.heap.size ≤ n) (c : Array Value) : a.grows (b.setRow n c) := h.setRow' hn c
theorem grF {a b : World} (h : a.grows b) {n : Nat} (hn : a.heap.size ≤ n) (i : Nat) (c : Value) : a.grows (b.setCell ⟨n, i, none⟩ c) := h.setCell' hn i c
attribute [go_sem] World.setCell_size'
theorem row_sz' {W : World} {i : Nat} {o : Obj} (h : W.row i = some o) : (i < W.heap.size) ∧ (∀ b, i < W.heap.size + b) ∧ (∀ b c, i < W.heap.size + b + c) ∧ (∀ b c d, i < W.heap.size + b + c + d) ∧ (∀ b c d e, i < W.heap.size + b + c + d + e) ∧
    ((i = W.heap.size) = False) ∧ (∀ b, (i = W.heap.size + b) = False) ∧ (∀ b c, (i = W.heap.size + b + c) = False) ∧ (∀ b c d, (i = W.heap.size + b + c + d) = False) ∧ (∀ b c d e, (i = W.heap.size + b + c + d + e) = False) := by
  have := row_lt h
  refine ⟨this, fun b => by omega, fun b c => by omega, fun b c d => by omega, fun b c d e => by omega, by apply eq_false; omega, fun b => by apply eq_false; omega, fun b c => by apply eq_false; omega, fun b c d => by apply eq_false; omega, fun b c d e => by apply eq_false; omega⟩
@[go_sem] theorem ne_up1_0 {a : Nat} : (a + 1 = a) = False := by apply eq_false; omega
@[go_sem] theorem ne_up2_0 {a : Nat} : (a + 1 + 1 = a) = False := by apply eq_false; omega
@[go_sem] theorem ne_up2_1 {a : Nat} : (a + 1 + 1 = a + 1) = False := by apply eq_false; omega
@[go_sem] theorem ne_dn2_1 {a : Nat} : (a + 1 = a + 1 + 1) = False := by apply eq_false; omega
@[go_sem] theorem ne_up3_0 {a : Nat} : (a + 1 + 1 + 1 = a) = False := by apply eq_false; omega
@[go_sem] theorem ne_up3_1 {a : Nat} : (a + 1 + 1 + 1 = a + 1) = False := by apply eq_false; omega
@[go_sem] theorem ne_dn3_1 {a : Nat} : (a + 1 = a + 1 + 1 + 1) = False := by apply eq_false; omega
@[go_sem] theorem ne_up3_2 {a : Nat} : (a + 1 + 1 + 1 = a + 1 + 1) = False := by apply eq_false; omega
@[go_sem] theorem ne_dn3_2 {a : Nat} : (a + 1 + 1 = a + 1 + 1 + 1) = False := by apply eq_false; omega
@[go_sem] theorem ne_up4_0 {a : Nat} : (a + 1 + 1 + 1 + 1 = a) = False := by apply eq_false; omega
@[go_sem] theorem ne_up4_1 {a : Nat} : (a + 1 + 1 + 1 + 1 = a + 1) = False := by apply eq_false; omega
@[go_sem] theorem ne_dn4_1 {a : Nat} : (a + 1 = a + 1 + 1 + 1 + 1) = False := by apply eq_false; omega
@[go_sem] theorem ne_up4_2 {a : Nat} : (a + 1 + 1 + 1 + 1 = a + 1 + 1) = False := by apply eq_false; omega
@[go_sem] theorem ne_dn4_2 {a : Nat} : (a + 1 + 1 = a + 1 + 1 + 1 + 1) = False := by apply eq_false; omega
@[go_sem] theorem ne_up4_3 {a : Nat} : (a + 1 + 1 + 1 + 1 = a + 1 + 1 + 1) = False := by apply eq_false; omega
@[go_sem] theorem ne_dn4_3 {a : Nat} : (a + 1 + 1 + 1 = a + 1 + 1 + 1 + 1) = False := by apply eq_false; omega
@[go_sem] theorem ne_up5_0 {a : Nat} : (a + 1 + 1 + 1 + 1 + 1 = a) = False := by apply eq_false; omega
@[go_sem] theorem ne_up5_1 {a : Nat} : (a + 1 + 1 + 1 + 1 + 1 = a + 1) = False := by apply eq_false; omega
@[go_sem] theorem ne_dn5_1 {a : Nat} : (a + 1 = a + 1 + 1 + 1 + 1 + 1) = False := by apply eq_false; omega
@[go_sem] theorem ne_up5_2 {a : Nat} : (a + 1 + 1 + 1 + 1 + 1 = a + 1 + 1) = False := by apply eq_false; omega
@[go_sem] theorem ne_dn5_2 {a : Nat} : (a + 1 + 1 = a + 1 + 1 + 1 + 1 + 1) = False := by apply eq_false; omega
@[go_sem] theorem ne_up5_3 {a : Nat} : (a + 1 + 1 + 1 + 1 + 1 = a + 1 + 1 + 1) = False := by apply eq_false; omega
@[go_sem] theorem ne_dn5_3 {a : Nat} : (a + 1 + 1 + 1 = a + 1 + 1 + 1 + 1 + 1) = False := by apply eq_false; omega
@[go_sem] theorem ne_up5_4 {a : Nat} : (a + 1 + 1 + 1 + 1 + 1 = a + 1 + 1 + 1 + 1) = False := by apply eq_false; omega
@[go_sem] theorem ne_dn5_4 {a : Nat} : (a + 1 + 1 + 1 + 1 = a + 1 + 1 + 1 + 1 + 1) = False := by apply eq_false; omega
@[go_sem] theorem ne_up6_0 {a : Nat} : (a + 1 + 1 + 1 + 1 + 1 + 1 = a) = False := by apply eq_false; omega
@[go_sem] theorem ne_up6_1 {a : Nat} : (a + 1 + 1 + 1 + 1 + 1 + 1 = a + 1) = False := by apply eq_false; omega
@[go_sem] theorem ne_dn6_1 {a : Nat} : (a + 1 = a + 1 + 1 + 1 + 1 + 1 + 1) = False := by apply eq_false; omega
@[go_sem] theorem ne_up6_2 {a : Nat} : (a + 1 + 1 + 1 + 1 + 1 + 1 = a + 1 + 1) = False := by apply eq_false; omega
@[go_sem] theorem ne_dn6_2 {a : Nat} : (a + 1 + 1 = a + 1 + 1 + 1 + 1 + 1 + 1) = False := by apply eq_false; omega
@[go_sem] theorem ne_up6_3 {a : Nat} : (a + 1 + 1 + 1 + 1 + 1 + 1 = a + 1 + 1 + 1) = False := by apply eq_false; omega
@[go_sem] theorem ne_dn6_3 {a : Nat} : (a + 1 + 1 + 1 = a + 1 + 1 + 1 + 1 + 1 + 1) = False := by apply eq_false; omega
@[go_sem] theorem ne_up6_4 {a : Nat} : (a + 1 + 1 + 1 + 1 + 1 + 1 = a + 1 + 1 + 1 + 1) = False := by apply eq_false; omega
@[go_sem] theorem ne_dn6_4 {a : Nat} : (a + 1 + 1 + 1 + 1 = a + 1 + 1 + 1 + 1 + 1 + 1) = False := by apply eq_false; omega
@[go_sem] theorem ne_up6_5 {a : Nat} : (a + 1 + 1 + 1 + 1 + 1 + 1 = a + 1 + 1 + 1 + 1 + 1) = False := by apply eq_false; omega
@[go_sem] theorem ne_dn6_5 {a : Nat} : (a + 1 + 1 + 1 + 1 + 1 = a + 1 + 1 + 1 + 1 + 1 + 1) = False := by apply eq_false; omega
@[go_sem] theorem ne_up7_0 {a : Nat} : (a + 1 + 1 + 1 + 1 + 1 + 1 + 1 = a) = False := by apply eq_false; omega
@[go_sem] theorem ne_up7_1 {a : Nat} : (a + 1 + 1 + 1 + 1 + 1 + 1 + 1 = a + 1) = False := by apply eq_false; omega
@[go_sem] theorem ne_dn7_1 {a : Nat} : (a + 1 = a + 1 + 1 + 1 + 1 + 1 + 1 + 1) = False := by apply eq_false; omega
@[go_sem] theorem ne_up7_2 {a : Nat} : (a + 1 + 1 + 1 + 1 + 1 + 1 + 1 = a + 1 + 1) = False := by apply eq_false; omega
@[go_sem] theorem ne_dn7_2 {a : Nat} : (a + 1 + 1 = a + 1 + 1 + 1 + 1 + 1 + 1 + 1) = False := by apply eq_false; omega
@[go_sem] theorem ne_up7_3 {a : Nat} : (a + 1 + 1 + 1 + 1 + 1 + 1 + 1 = a + 1 + 1 + 1) = False := by apply eq_false; omega
@[go_sem] theorem ne_dn7_3 {a : Nat} : (a + 1 + 1 + 1 = a + 1 + 1 + 1 + 1 + 1 + 1 + 1) = False := by apply eq_false; omega
@[go_sem] theorem ne_up7_4 {a : Nat} : (a + 1 + 1 + 1 + 1 + 1 + 1 + 1 = a + 1 + 1 + 1 + 1) = False := by apply eq_false; omega
@[go_sem] theorem ne_dn7_4 {a : Nat} : (a + 1 + 1 + 1 + 1 = a + 1 + 1 + 1 + 1 + 1 + 1 + 1) = False := by apply eq_false; omega
@[go_sem] theorem ne_up7_5 {a : Nat} : (a + 1 + 1 + 1 + 1 + 1 + 1 + 1 = a + 1 + 1 + 1 + 1 + 1) = False := by apply eq_false; omega
@[go_sem] theorem ne_dn7_5 {a : Nat} : (a + 1 + 1 + 1 + 1 + 1 = a + 1 + 1 + 1 + 1 + 1 + 1 + 1) = False := by apply eq_false; omega
@[go_sem] theorem ne_up7_6 {a : Nat} : (a + 1 + 1 + 1 + 1 + 1 + 1 + 1 = a + 1 + 1 + 1 + 1 + 1 + 1) = False := by apply eq_false; omega
@[go_sem] theorem ne_dn7_6 {a : Nat} : (a + 1 + 1 + 1 + 1 + 1 + 1 = a + 1 + 1 + 1 + 1 + 1 + 1 + 1) = False := by apply eq_false; omega
@[go_sem] theorem ne_up8_0 {a : Nat} : (a + 1 + 1 + 1 + 1 + 1 + 1 + 1 + 1 = a) = False := by apply eq_false; omega
@[go_sem] theorem ne_up8_1 {a : Nat} : (a + 1 + 1 + 1 + 1 + 1 + 1 + 1 + 1 = a + 1) = False := by apply eq_false; omega
@[go_sem] theorem ne_dn8_1 {a : Nat} : (a + 1 = a + 1 + 1 + 1 + 1 + 1 + 1 + 1 + 1) = False := by apply eq_false; omega
@[go_sem] theorem ne_up8_2 {a : Nat} : (a + 1 + 1 + 1 + 1 + 1 + 1 + 1 + 1 = a + 1 + 1) = False := by apply eq_false; omega
@[go_sem] theorem ne_dn8_2 {a : Nat} : (a + 1 + 1 = a + 1 + 1 + 1 + 1 + 1 + 1 + 1 + 1) = False := by apply eq_false; omega
@[go_sem] theorem ne_up8_3 {a : Nat} : (a + 1 + 1 + 1 + 1 + 1 + 1 + 1 + 1 = a + 1 + 1 + 1) = False := by apply eq_false; omega
@[go_sem] theorem ne_dn8_3 {a : Nat} : (a + 1 + 1 + 1 = a + 1 + 1 + 1 + 1 + 1 + 1 + 1 + 1) = False := by apply eq_false; omega
@[go_sem] theorem ne_up8_4 {a : Nat} : (a + 1 + 1 + 1 + 1 + 1 + 1 + 1 + 1 = a + 1 + 1 + 1 + 1) = False := by apply eq_false; omega
@[go_sem] theorem ne_dn8_4 {a : Nat} : (a + 1 + 1 + 1 + 1 = a + 1 + 1 + 1 + 1 + 1 + 1 + 1 + 1) = False := by apply eq_false; omega
@[go_sem] theorem ne_up8_5 {a : Nat} : (a + 1 + 1 + 1 + 1 + 1 + 1 + 1 + 1 = a + 1 + 1 + 1 + 1 + 1) = False := by apply eq_false; omega
@[go_sem] theorem ne_dn8_5 {a : Nat} : (a + 1 + 1 + 1 + 1 + 1 = a + 1 + 1 + 1 + 1 + 1 + 1 + 1 + 1) = False := by apply eq_false; omega
@[go_sem] theorem ne_up8_6 {a : Nat} : (a + 1 + 1 + 1 + 1 + 1 + 1 + 1 + 1 = a + 1 + 1 + 1 + 1 + 1 + 1) = False := by apply eq_false; omega
@[go_sem] theorem ne_dn8_6 {a : Nat} : (a + 1 + 1 + 1 + 1 + 1 + 1 = a + 1 + 1 + 1 + 1 + 1 + 1 + 1 + 1) = False := by apply eq_false; omega
@[go_sem] theorem ne_up8_7 {a : Nat} : (a + 1 + 1 + 1 + 1 + 1 + 1 + 1 + 1 = a + 1 + 1 + 1 + 1 + 1 + 1 + 1) = False := by apply eq_false; omega
@[go_sem] theorem ne_dn8_7 {a : Nat} : (a + 1 + 1 + 1 + 1 + 1 + 1 + 1 = a + 1 + 1 + 1 + 1 + 1 + 1 + 1 + 1) = False := by apply eq_false; omega
end Go

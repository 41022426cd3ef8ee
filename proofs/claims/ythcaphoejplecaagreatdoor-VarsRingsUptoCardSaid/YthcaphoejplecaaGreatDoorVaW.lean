/- LAWS: cells written in the midst of a row of the call's own; a value put behind a list as a zero value first. No condition. -/
import Derived.Test.YthcaphoejplecaaGreatDoorVaS
import Derived.Test.YthcaphoejplecaaGreatDoorOpsE
import Derived.Test.YthcaphoejplecaaGreatDoorExec
import Derived.Test.YthcaphoejplecaaGreatDoorMem
set_option linter.unusedSimpArgs false
set_option linter.unusedVariables false
namespace Go
open Go.RowKit
theorem layV_nil (l : List Value) (o : Nat) : layV l o [] = l := by simp [layV]
theorem layV_cons (l : List Value) (o : Nat) (v : Value) (r : List Value) (h : o < l.length) : layV (l.set o v) (o + 1) r = layV l o (v :: r) := by
  obtain ⟨a, c, b, rfl, rfl⟩ : ∃ a c b, l = a ++ c :: b ∧ o = a.length := ⟨l.take o, l[o], l.drop (o + 1), by simp, by simp; omega⟩
  unfold layV
  have e1 : (a ++ c :: b).set a.length v = (a ++ [v]) ++ b := by simp
  have e2 : (a ++ c :: b) = (a ++ [c]) ++ b := by simp
  rw [e1]
  have t1 : (a ++ [v] ++ b).take (a.length + 1) = a ++ [v] := by rw [List.take_append_of_le_length (by simp), List.take_of_length_le (by simp)]
  have t2 : (a ++ [v] ++ b).drop (a.length + 1 + r.length) = b.drop r.length := by
    rw [← List.drop_drop]; congr 1
    rw [show a.length + 1 = (a ++ [v]).length by simp, List.drop_left]
  have t3 : (a ++ c :: b).take a.length = a := List.take_left
  have t4 : (a ++ c :: b).drop (a.length + (v :: r).length) = b.drop r.length := by
    rw [e2, show a.length + (v :: r).length = (a.length + 1) + r.length by simp; omega, ← List.drop_drop]; congr 1
    rw [show a.length + 1 = (a ++ [c]).length by simp, List.drop_left]
  rw [t1, t2, t3, t4]; simp
theorem row_layV (g : Nat) : ∀ (vs : List Value) (o : Nat) (w : World) (cur : Array Value) (e : TypeId) (fr : Nat × Nat), w.row g = some (.cells cur e fr) → o + vs.length ≤ cur.size → (w.setCells g o vs).row g = some (.cells (layV cur.toList o vs).toArray e fr)
  | [], o, w, cur, e, fr, h, _ => by rw [layV_nil]; show w.row g = _; rw [h]
  | v :: r, o, w, cur, e, fr, h, hl => by
    simp only [List.length_cons] at hl
    have h1 : (w.setCell ⟨g, o, none⟩ v).row g = some (.cells (cur.setIfInBounds o v) e fr) := by rw [World.row_setCell, if_pos rfl, h]; rfl
    have h2 := row_layV g r (o + 1) _ _ e fr h1 (by simp; omega)
    rw [World.setCells, h2, Array.toList_setIfInBounds, layV_cons _ _ _ _ (by simp; omega)]
theorem row_layVO (g k : Nat) (hk : k ≠ g) : ∀ (vs : List Value) (o : Nat) (w : World), (w.setCells g o vs).row k = w.row k
  | [], _, _ => rfl
  | v :: r, o, w => by rw [World.setCells, row_layVO g k hk r, World.row_setCell, if_neg hk]
theorem size_layV (g : Nat) : ∀ (vs : List Value) (o : Nat) (w : World), (w.setCells g o vs).heap.size = w.heap.size
  | [], _, _ => rfl
  | v :: r, o, w => by rw [World.setCells, size_layV g r]; simp [World.setCell]
theorem grows_layV {w00 : World} {g : Nat} (hg : w00.heap.size ≤ g) : ∀ (vs : List Value) (o : Nat) {w : World}, w00.grows w → w00.grows (w.setCells g o vs)
  | [], _, _, h => h
  | v :: r, o, _, h => grows_layV hg r (o + 1) (h.setCell' hg o v)
theorem row_thereV {w : World} {g o n : Nat} {cur : Array Value} {e : TypeId} (h : w.row g = some (.cells cur e (0, 0))) (ho : o + n ≤ cur.size) : w.there g o n := by
  intro j hj
  rw [World.cell?_row, World.frozen?_row, h]
  refine ⟨?_, ?_⟩
  · show (cur[o + j]?).isSome = true
    rw [Array.getElem?_eq_getElem (by omega)]; rfl
  · simp [frozenR]
theorem store_midV {P : Program} (w : World) (t : TypeId) (g o n : Nat) (cs : List Value) (hn : cs.length = n) (hi : (P.info? t).map (·.size) = some n) (h1 : ∀ v ∈ cs, v.oneCell' = true) {cur : Array Value} {e : TypeId} (h : w.row g = some (.cells cur e (0, 0))) (ho : o + n ≤ cur.size) :
    (storeR t (.pointer (some ⟨g, o, none⟩)) (.agg cs.toArray)).run P w = .ok () (w.setCells g o cs) := by
  show (Instr.storeAt t (.pointer (some ⟨g, o, none⟩)) (.agg cs.toArray)).run P w = _
  have := run_storeAt_mid (P := P) w g o t cs.toArray (by simpa [hn] using row_thereV h ho) (by simpa [hn] using hi) (by
    rw [Array.all_eq_true]
    intro i hi
    exact h1 _ (by simp))
  simpa using this
end Go
namespace Go.Proofs.YthcaphoejplecaaGreatDoor
open Go.RowKit
/-- behind the append of a zero value: its cells may be written -/
theorem zero_app {w : World} {B k : Nat} {v : Value} {X zs : List Value} (h : w.ownsRow B 70 7 v (k + 1) (X ++ zs)) (hz : zs.length = 7) :
    ∃ g c, v = .slice (some ⟨g, 0, none⟩) (k + 1) c ∧ B ≤ g ∧ g < w.heap.size ∧
      (∀ (W : World) (cs : List Value), cs.length = 7 → (∀ u ∈ cs, u.oneCell' = true) → W.row g = w.row g → (storeR 70 (.pointer (some ⟨g, k * 7, none⟩)) (.agg cs.toArray)).run Tryz.prog W = .ok () (W.setCells g (k * 7) cs)) ∧
      (∀ (W W' : World) (cs : List Value), cs.length = 7 → W.row g = w.row g → W'.row g = (W.setCells g (k * 7) cs).row g → W'.ownsRow B 70 7 (.slice (some ⟨g, 0, none⟩) (k + 1) c) (k + 1) (X ++ cs)) := by
  have hX : X.length = k * 7 := by have := h.1; simp [hz] at this; omega
  obtain ⟨hl, ⟨_, h0⟩ | ⟨g, cap, cur, rfl, hb, hg, hnc, hcm, hcs, ht⟩⟩ := id h
  · omega
  have hr : w.row g = some (.cells cur 70 (0, 0)) := hg
  have hm : (k + 1) * 7 ≤ cap * 7 := Nat.mul_le_mul_right 7 hnc
  refine ⟨g, cap, rfl, hb, row_lt hr, fun W cs hc h1 hW => store_midV W _ g (k * 7) 7 cs hc (by kernel_rfl) h1 (hW.trans hr) (by omega), fun W W' cs hc hW hW' => ?_⟩
  have := own_layV (W := W') h (o := k * 7) (vs := cs) (by rw [hc]; omega) (fun cur' hcur => by
    rw [hr] at hcur
    injection hcur with hcur
    injection hcur with hcur
    subst hcur
    rw [hW', row_layV g cs (k * 7) W cur _ _ (hW.trans hr) (by rw [hc]; omega)])
  rw [← hX, layV_end _ _ _ (by rw [hz, hc])] at this
  exact this
end Go.Proofs.YthcaphoejplecaaGreatDoor

/- Texts of the walk, one after the other; what each proves stands ahead of it. -/
import Derived.Test.YthcaphoejplecaaGreatDoorExec
import Derived.Test.YthcaphoejplecaaGreatDoorOpsE
import Derived.Test.YthcaphoejplecaaGreatDoorRow
import Derived.Test.YthcaphoejplecaaGreatDoorSeg
import Derived.Test.YthcaphoejplecaaGreatDoorSl
import Derived.Test.YthcaphoejplecaaGreatDoorTail
import Derived.Test.YthcaphoejplecaaGreatDoorVt1
set_option linter.unusedSimpArgs false
set_option linter.unusedVariables false
/- WALKS over rule, vars, jalousieref5, jalousieref14: what closes a token; a blank value; a custom name. No condition. -/
namespace Go.Proofs.YthcaphoejplecaaGreatDoor
open Go.RowKit
theorem clo_split {k : Int} {P : Int → Prop} (h2 : k = 2 → P 22) (h21 : k = 21 → P 22) (h19 : k = 19 → P 20) (h23 : k = 23 → P 24) (h : k ≠ 2 → k ≠ 21 → k ≠ 19 → k ≠ 23 → P 0) : P (clo k) := by
  unfold clo
  split
  · rename_i hh
    rcases hh with hh | hh
    · exact h2 hh
    · exact h21 hh
  · rename_i hh
    split
    · rename_i h4; exact h19 h4
    · rename_i h4
      split
      · rename_i h5; exact h23 h5
      · rename_i h5; exact h (fun e => hh (.inl e)) (fun e => hh (.inr e)) h4 h5
set_option maxRecDepth 100000 in
theorem rclo_any (k : Int) (w : World) : Calls Tryz.prog 49 #[.int .i64 k] w (Gives w (.int .i64 (clo k))) := by
  refine clo_split (k := k) (P := fun c => Calls Tryz.prog 49 #[.int .i64 k] w (Gives w (.int .i64 c))) ?_ ?_ ?_ ?_ ?_
  · rintro rfl
    go_enter Tryz.func49, Tryz.ntmps49
    go_wp2_with fail
    go_ret
    exact ⟨rfl, (by repeat (with_reducible first | assumption | exact grA | apply grB | apply grC | apply grD | refine grE ?_ (by omega) _ | refine grF ?_ (by omega) _ _))⟩
  · rintro rfl
    go_enter Tryz.func49, Tryz.ntmps49
    go_wp2_with fail
    go_ret
    exact ⟨rfl, (by repeat (with_reducible first | assumption | exact grA | apply grB | apply grC | apply grD | refine grE ?_ (by omega) _ | refine grF ?_ (by omega) _ _))⟩
  · rintro rfl
    go_enter Tryz.func49, Tryz.ntmps49
    go_wp2_with fail
    go_ret
    exact ⟨rfl, (by repeat (with_reducible first | assumption | exact grA | apply grB | apply grC | apply grD | refine grE ?_ (by omega) _ | refine grF ?_ (by omega) _ _))⟩
  · rintro rfl
    go_enter Tryz.func49, Tryz.ntmps49
    go_wp2_with fail
    go_ret
    exact ⟨rfl, (by repeat (with_reducible first | assumption | exact grA | apply grB | apply grC | apply grD | refine grE ?_ (by omega) _ | refine grF ?_ (by omega) _ _))⟩
  · intro a1 a2 a3 a4
    have b1 : (k == 2) = false := by simpa using a1
    have b2 : (k == 21) = false := by simpa using a2
    have b3 : (k == 19) = false := by simpa using a3
    have b4 : (k == 23) = false := by simpa using a4
    go_enter Tryz.func49, Tryz.ntmps49
    go_wp2_with fail
    go_ret
    exact ⟨rfl, (by repeat (with_reducible first | assumption | exact grA | apply grB | apply grC | apply grD | refine grE ?_ (by omega) _ | refine grF ?_ (by omega) _ _))⟩
set_option maxRecDepth 100000 in
theorem vclo_any (k : Int) (w : World) : Calls Tryz.prog 53 #[.int .i64 k] w (Gives w (.int .i64 (clo k))) := by
  refine clo_split (k := k) (P := fun c => Calls Tryz.prog 53 #[.int .i64 k] w (Gives w (.int .i64 c))) ?_ ?_ ?_ ?_ ?_
  · rintro rfl
    go_enter Tryz.func53, Tryz.ntmps53
    go_wp2_with fail
    go_ret
    exact ⟨rfl, (by repeat (with_reducible first | assumption | exact grA | apply grB | apply grC | apply grD | refine grE ?_ (by omega) _ | refine grF ?_ (by omega) _ _))⟩
  · rintro rfl
    go_enter Tryz.func53, Tryz.ntmps53
    go_wp2_with fail
    go_ret
    exact ⟨rfl, (by repeat (with_reducible first | assumption | exact grA | apply grB | apply grC | apply grD | refine grE ?_ (by omega) _ | refine grF ?_ (by omega) _ _))⟩
  · rintro rfl
    go_enter Tryz.func53, Tryz.ntmps53
    go_wp2_with fail
    go_ret
    exact ⟨rfl, (by repeat (with_reducible first | assumption | exact grA | apply grB | apply grC | apply grD | refine grE ?_ (by omega) _ | refine grF ?_ (by omega) _ _))⟩
  · rintro rfl
    go_enter Tryz.func53, Tryz.ntmps53
    go_wp2_with fail
    go_ret
    exact ⟨rfl, (by repeat (with_reducible first | assumption | exact grA | apply grB | apply grC | apply grD | refine grE ?_ (by omega) _ | refine grF ?_ (by omega) _ _))⟩
  · intro a1 a2 a3 a4
    have b1 : (k == 2) = false := by simpa using a1
    have b2 : (k == 21) = false := by simpa using a2
    have b3 : (k == 19) = false := by simpa using a3
    have b4 : (k == 23) = false := by simpa using a4
    go_enter Tryz.func53, Tryz.ntmps53
    go_wp2_with fail
    go_ret
    exact ⟨rfl, (by repeat (with_reducible first | assumption | exact grA | apply grB | apply grC | apply grD | refine grE ?_ (by omega) _ | refine grF ?_ (by omega) _ _))⟩
set_option maxRecDepth 100000 in
theorem fclo_any (k : Int) (w : World) : Calls Tryz.prog 42 #[.int .i64 k] w (Gives w (.int .i64 (clo k))) := by
  refine clo_split (k := k) (P := fun c => Calls Tryz.prog 42 #[.int .i64 k] w (Gives w (.int .i64 c))) ?_ ?_ ?_ ?_ ?_
  · rintro rfl
    go_enter Tryz.func42, Tryz.ntmps42
    go_wp2_with fail
    go_ret
    exact ⟨rfl, (by repeat (with_reducible first | assumption | exact grA | apply grB | apply grC | apply grD | refine grE ?_ (by omega) _ | refine grF ?_ (by omega) _ _))⟩
  · rintro rfl
    go_enter Tryz.func42, Tryz.ntmps42
    go_wp2_with fail
    go_ret
    exact ⟨rfl, (by repeat (with_reducible first | assumption | exact grA | apply grB | apply grC | apply grD | refine grE ?_ (by omega) _ | refine grF ?_ (by omega) _ _))⟩
  · rintro rfl
    go_enter Tryz.func42, Tryz.ntmps42
    go_wp2_with fail
    go_ret
    exact ⟨rfl, (by repeat (with_reducible first | assumption | exact grA | apply grB | apply grC | apply grD | refine grE ?_ (by omega) _ | refine grF ?_ (by omega) _ _))⟩
  · rintro rfl
    go_enter Tryz.func42, Tryz.ntmps42
    go_wp2_with fail
    go_ret
    exact ⟨rfl, (by repeat (with_reducible first | assumption | exact grA | apply grB | apply grC | apply grD | refine grE ?_ (by omega) _ | refine grF ?_ (by omega) _ _))⟩
  · intro a1 a2 a3 a4
    have b1 : (k == 2) = false := by simpa using a1
    have b2 : (k == 21) = false := by simpa using a2
    have b3 : (k == 19) = false := by simpa using a3
    have b4 : (k == 23) = false := by simpa using a4
    go_enter Tryz.func42, Tryz.ntmps42
    go_wp2_with fail
    go_ret
    exact ⟨rfl, (by repeat (with_reducible first | assumption | exact grA | apply grB | apply grC | apply grD | refine grE ?_ (by omega) _ | refine grF ?_ (by omega) _ _))⟩
/-- a value handed over -/
abbrev vtV (t : Tk) (v : Value) : Value := .agg #[.int .i64 t.k, .string t.s, .int .i64 t.n, .int .i64 t.d, .bool t.w, .bool t.i, v]
set_option maxRecDepth 100000 in
theorem rspace_any (t : Tk) (a : Option Addr) (n c : Nat) (w : World) : Calls Tryz.prog 100 #[vtV t (.slice a n c)] w (Gives w (.bool (decide (t.k = 13)))) := by
  obtain ⟨k, s, n1, d, b1, b2⟩ := t
  by_cases h : k = 13
  · subst h
    go_enter Tryz.func100, Tryz.ntmps100
    go_wp2_with fail
    go_ret
    exact ⟨rfl, (by repeat (with_reducible first | assumption | exact grA | apply grB | apply grC | apply grD | refine grE ?_ (by omega) _ | refine grF ?_ (by omega) _ _))⟩
  · have hb : (k == 13) = false := by simpa using h
    have hd : decide (k = 13) = false := by simpa using h
    simp only [hd]
    clear h hd
    go_enter Tryz.func100, Tryz.ntmps100
    go_wp2_with fail
    go_ret
    exact ⟨rfl, (by repeat (with_reducible first | assumption | exact grA | apply grB | apply grC | apply grD | refine grE ?_ (by omega) _ | refine grF ?_ (by omega) _ _))⟩
set_option maxRecDepth 100000 in
theorem fspace_any (t : Tk) (a : Option Addr) (n c : Nat) (w : World) : Calls Tryz.prog 97 #[vtV t (.slice a n c)] w (Gives w (.bool (decide (t.k = 13)))) := by
  obtain ⟨k, s, n1, d, b1, b2⟩ := t
  by_cases h : k = 13
  · subst h
    go_enter Tryz.func97, Tryz.ntmps97
    go_wp2_with fail
    go_ret
    exact ⟨rfl, (by repeat (with_reducible first | assumption | exact grA | apply grB | apply grC | apply grD | refine grE ?_ (by omega) _ | refine grF ?_ (by omega) _ _))⟩
  · have hb : (k == 13) = false := by simpa using h
    have hd : decide (k = 13) = false := by simpa using h
    simp only [hd]
    clear h hd
    go_enter Tryz.func97, Tryz.ntmps97
    go_wp2_with fail
    go_ret
    exact ⟨rfl, (by repeat (with_reducible first | assumption | exact grA | apply grB | apply grC | apply grD | refine grE ?_ (by omega) _ | refine grF ?_ (by omega) _ _))⟩
end Go.Proofs.YthcaphoejplecaaGreatDoor

/- MEMORY: lists that are open while component values are read, and the stack that holds them. No condition. -/
namespace Go.Proofs.YthcaphoejplecaaGreatDoor
open Go.RowKit
theorem row_growV {w w' : World} {row : Option Nat} (hg : w.grownBy w' row) {k : Nat} (hk : k < w.heap.size) (hne : some k ≠ row) : w'.row k = w.row k := by
  unfold World.row
  rw [hg.block k hk hne]
theorem ownsRow_rowV {w W : World} {B : Nat} {e : TypeId} {n k : Nat} {v : Value} {xs : List Value} (h : w.ownsRow B e n v k xs) (hr : ∀ g, v.ownBlock = some g → W.row g = w.row g) : W.ownsRow B e n v k xs := by
  refine ⟨h.1, ?_⟩
  rcases h.2 with hn | ⟨g, cap, cur, rfl, hb, hgg, rest⟩
  · exact .inl hn
  · exact .inr ⟨g, cap, cur, rfl, hb, (hr g rfl).trans hgg, rest⟩
/-- an own row, shortened -/
theorem own_short {w : World} {B : Nat} {e : TypeId} {n k k' : Nat} {a : Option Addr} {c : Nat} {xs : List Value} (h : w.ownsRow B e n (.slice a k c) k xs) (hk : k' ≤ k) : w.ownsRow B e n (.slice a k' c) k' (xs.take (k' * n)) := by
  obtain ⟨hl, ⟨h0, h1⟩ | ⟨g, cap, cur, h0, hb, hg, hnc, hcm, hcs, ht⟩⟩ := h
  · injection h0 with h0 h2 h3
    subst h0; subst h3
    obtain rfl : k' = 0 := by omega
    refine ⟨by simp, .inl ⟨rfl, rfl⟩⟩
  · injection h0 with h0 _ h3
    subst h0; subst h3
    have hm : k' * n ≤ k * n := Nat.mul_le_mul_right n hk
    refine ⟨by rw [List.length_take, hl]; omega, .inr ⟨g, _, cur, rfl, hb, hg, by omega, hcm, hcs, ?_⟩⟩
    rw [← ht, List.take_take, Nat.min_eq_left hm]
/-- blocks that are read alone -/
def RoS (w : World) (B : Nat) (tg : Nat → Option Nat) (g : Nat) : Prop := B ≤ g ∧ tg g = none ∧ g < w.heap.size
/-- lists that are open, each in a row of its own; tg tells whose each block is: i + 4 the i-th list's, 0 to 3 the tables', none of those that are read alone -/
structure LsAt (w : World) (B : Nat) (tg : Nat → Option Nat) (ins : List Value) (ls : List (List Vt)) : Prop where
  len : ins.length = ls.length
  inn : ∀ (i : Nat) (v : Value) (l : List Vt), ins[i]? = some v → ls[i]? = some l → ∃ css : List (List Value), css.length = l.length ∧ (∀ (j : Nat) (x : Vt) (cs : List Value), l[j]? = some x → css[j]? = some cs → cs.length = 7 ∧ VOk w (RoS w B tg) x cs) ∧ w.ownsRow B 70 7 v l.length css.flatten
  tI : ∀ (i : Nat) (v : Value) (g : Nat), ins[i]? = some v → v.ownBlock = some g → tg g = some (i + 4)
theorem LsAt.keep {w W : World} {B : Nat} {tg tg' : Nat → Option Nat} {ins : List Value} {ls : List (List Vt)} (h : LsAt w B tg ins ls) (hs : w.heap.size ≤ W.heap.size)
    (hr : ∀ g, B ≤ g → g < w.heap.size → (tg g = none ∨ ∃ i, i < ls.length ∧ tg g = some (i + 4)) → W.row g = w.row g) (ht : ∀ g, g < w.heap.size → tg' g = tg g) : LsAt W B tg' ins ls := by
  refine ⟨h.len, fun i v l q1 q2 => ?_, fun i v g q1 q2 => ?_⟩
  · obtain ⟨css, h1, h2, h3⟩ := h.inn i v l q1 q2
    have hil := (List.getElem?_eq_some_iff.1 q2).1
    refine ⟨css, h1, fun j x cs p1 p2 => ⟨(h2 j x cs p1 p2).1, (h2 j x cs p1 p2).2.keep fun g hg _ => ⟨hr g hg.1 hg.2.2 (.inl hg.2.1), hg.1, ?_, by have := hg.2.2; omega⟩⟩, ownsRow_rowV h3 fun g hg => hr g (h3.lt g hg).1 (h3.lt g hg).2 (.inr ⟨i, hil, h.tI i v g q1 hg⟩)⟩
    rw [ht g hg.2.2]; exact hg.2.1
  · have hil : i < ls.length := by have := (List.getElem?_eq_some_iff.1 q1).1; have := h.len; omega
    obtain ⟨_, _, _, h3⟩ := h.inn i v _ q1 (List.getElem?_eq_getElem hil)
    rw [ht g (h3.lt g q2).2]; exact h.tI i v g q1 q2
theorem LsAt.push {w : World} {B : Nat} {tg : Nat → Option Nat} {ins : List Value} {ls : List (List Vt)} (h : LsAt w B tg ins ls) : LsAt w B tg (ins ++ [.slice none 0 0]) (ls ++ [[]]) := by
  have hlast : ∀ (i : Nat) (v : Value), (ins ++ [Value.slice none 0 0])[i]? = some v → (i < ins.length ∧ ins[i]? = some v) ∨ (i = ins.length ∧ v = .slice none 0 0) := fun i v q => by
    by_cases hi : i < ins.length
    · rw [List.getElem?_append_left hi] at q; exact .inl ⟨hi, q⟩
    · have := (List.getElem?_eq_some_iff.1 q).1
      simp at this
      have hi2 : i = ins.length := by omega
      subst hi2
      simp at q
      exact .inr ⟨rfl, q.symm⟩
  refine ⟨by simp [h.len], fun i v l q1 q2 => ?_, fun i v g q1 q2 => ?_⟩
  · rcases hlast i v q1 with ⟨hi, q3⟩ | ⟨hi, rfl⟩
    · rw [List.getElem?_append_left (by rw [← h.len]; exact hi)] at q2
      exact h.inn i v l q3 q2
    · rw [hi, h.len, List.getElem?_append_right (Nat.le_refl _)] at q2
      simp at q2; subst q2
      exact ⟨[], rfl, fun j x cs p1 _ => by simp at p1, by simp, .inl ⟨rfl, rfl⟩⟩
  · rcases hlast i v q1 with ⟨_, q3⟩ | ⟨_, rfl⟩
    · exact h.tI i v g q3 q2
    · cases q2
/-- the last list is read alone from now on -/
def tgPop (tg : Nat → Option Nat) (n : Nat) : Nat → Option Nat := fun g => if tg g = some (n + 4) then none else tg g
theorem tgPop_low {tg : Nat → Option Nat} {n g t : Nat} (ht : t < 4) (h : tg g = some t) : tgPop tg n g = some t := by
  unfold tgPop; rw [if_neg (by rw [h]; intro e; injection e with e; omega)]; exact h
theorem tgPop_some {tg : Nat → Option Nat} {n g t : Nat} (h : tgPop tg n g = some t) : tg g = some t := by
  unfold tgPop at h
  split at h
  · cases h
  · exact h
theorem LsAt.pop {w : World} {B : Nat} {tg : Nat → Option Nat} {ins : List Value} {v : Value} {ls : List (List Vt)} {l : List Vt} (h : LsAt w B tg (ins ++ [v]) (ls ++ [l])) :
    LsAt w B (tgPop tg ins.length) ins ls ∧ VsAt w (RoS w B (tgPop tg ins.length)) v l := by
  have hlen : ins.length = ls.length := by have := h.len; simp at this; exact this
  have hro : ∀ g, RoS w B tg g → RoS w B (tgPop tg ins.length) g := fun g hg => ⟨hg.1, by unfold tgPop; rw [if_neg (by rw [hg.2.1]; simp)]; exact hg.2.1, hg.2.2⟩
  refine ⟨⟨hlen, fun i v' l' q1 q2 => ?_, fun i v' g q1 q2 => ?_⟩, ?_⟩
  · have hi := (List.getElem?_eq_some_iff.1 q1).1
    obtain ⟨css, h1, h2, h3⟩ := h.inn i v' l' (by rw [List.getElem?_append_left hi]; exact q1) (by rw [List.getElem?_append_left (by omega)]; exact q2)
    exact ⟨css, h1, fun j x cs p1 p2 => ⟨(h2 j x cs p1 p2).1, (h2 j x cs p1 p2).2.keep fun g hg _ => ⟨rfl, hro g hg⟩⟩, h3⟩
  · have hi := (List.getElem?_eq_some_iff.1 q1).1
    have := h.tI i v' g (by rw [List.getElem?_append_left hi]; exact q1) q2
    unfold tgPop
    rw [if_neg (by rw [this]; intro e; injection e with e; omega)]; exact this
  · obtain ⟨css, h1, h2, h3⟩ := h.inn ins.length v l (by simp) (by rw [hlen]; simp)
    have ho : OwnAt w B 70 7 (VOk w (RoS w B (tgPop tg ins.length))) v l := ⟨css, h1, fun j x cs p1 p2 => ⟨(h2 j x cs p1 p2).1, (h2 j x cs p1 p2).2.keep fun g hg _ => ⟨rfl, hro g hg⟩⟩, h3⟩
    refine OwnAt.slAt ho (by omega) fun g hg => ⟨(h3.lt g hg).1, ?_, (h3.lt g hg).2⟩
    unfold tgPop
    rw [if_pos (h.tI ins.length v g (by simp) hg)]
/-- a tag for a fresh block -/
def tgNew (tg : Nat → Option Nat) (v : Value) (s : Nat) (n : Nat) : Nat → Option Nat := fun g => if s ≤ g ∧ v.ownBlock = some g then some n else tg g
theorem tgNew_old (tg : Nat → Option Nat) (v : Value) (s n : Nat) {g : Nat} (h : g < s) : tgNew tg v s n g = tg g := by unfold tgNew; rw [if_neg (by omega)]
/-- the block of what has grown -/
def GrO (s : Nat) (v v' : Value) : Prop := v'.ownBlock = v.ownBlock ∨ ∃ k, v'.ownBlock = some k ∧ s ≤ k
theorem tgNew_own {tg : Nat → Option Nat} {v v' : Value} {s n : Nat} (hb : GrO s v v') (hv : ∀ g, v.ownBlock = some g → g < s ∧ tg g = some n) {g : Nat} (hg : v'.ownBlock = some g) : tgNew tg v' s n g = some n := by
  rcases hb with hb | ⟨k, hb, hk⟩
  · rw [hb] at hg
    rw [tgNew_old _ _ _ _ (hv g hg).1]; exact (hv g hg).2
  · unfold tgNew
    rw [if_pos ⟨by rw [hb] at hg; injection hg with hg; omega, hg⟩]
/-- one list grows by a value -/
theorem LsAt.app {w W : World} {B i : Nat} {tg : Nat → Option Nat} {ins : List Value} {ls : List (List Vt)} (h : LsAt w B tg ins ls) {v v' : Value} {l : List Vt} (hv : ins[i]? = some v) (hl : ls[i]? = some l) {css : List (List Value)} {x : Vt} {cs : List Value}
    (h1 : css.length = l.length) (h2 : ∀ (j : Nat) (x : Vt) (cs : List Value), l[j]? = some x → css[j]? = some cs → cs.length = 7 ∧ VOk w (RoS w B tg) x cs) (hx : VOk w (RoS w B tg) x cs) (hb : GrO w.heap.size v v')
    (ho : W.ownsRow B 70 7 v' (l.length + 1) (css.flatten ++ cs)) (hs : w.heap.size ≤ W.heap.size)
    (hr : ∀ g, B ≤ g → g < w.heap.size → (tg g = none ∨ ∃ j, j < ls.length ∧ j ≠ i ∧ tg g = some (j + 4)) → W.row g = w.row g) :
    LsAt W B (tgNew tg v' w.heap.size (i + 4)) (ins.set i v') (ls.set i (l ++ [x])) := by
  have hil := (List.getElem?_eq_some_iff.1 hl).1
  have hlen := h.len
  have hk : ∀ x cs, VOk w (RoS w B tg) x cs → VOk W (RoS W B (tgNew tg v' w.heap.size (i + 4))) x cs := fun x cs hx => hx.keep fun g hg _ => ⟨hr g hg.1 hg.2.2 (.inl hg.2.1), hg.1, by rw [tgNew_old _ _ _ _ hg.2.2]; exact hg.2.1, by have := hg.2.2; omega⟩
  refine ⟨by simp [hlen], fun j u m q1 q2 => ?_, fun j u g q1 q2 => ?_⟩
  · rw [List.getElem?_set] at q1 q2
    by_cases hj : i = j
    · subst hj
      rw [if_pos rfl, if_pos (by omega)] at q1
      rw [if_pos rfl, if_pos hil] at q2
      cases q1; cases q2
      exact OwnAt.append (R := VOk w (RoS w B tg)) (css' := [cs]) (l' := [x]) h1 h2 rfl (fun k y c p1 p2 => by
        cases k with
        | zero => simp at p1 p2; subst p1; subst p2; exact ⟨hx.len, hx⟩
        | succ k => simp at p1) hk (by simpa using ho)
    · rw [if_neg hj] at q1 q2
      obtain ⟨css, k1, k2, k3⟩ := h.inn j u m q1 q2
      have hjl := (List.getElem?_eq_some_iff.1 q2).1
      exact ⟨css, k1, fun a x cs p1 p2 => ⟨(k2 a x cs p1 p2).1, hk x cs (k2 a x cs p1 p2).2⟩, ownsRow_rowV k3 fun g hg => hr g (k3.lt g hg).1 (k3.lt g hg).2 (.inr ⟨j, hjl, fun e => hj e.symm, h.tI j u g q1 hg⟩)⟩
  · rw [List.getElem?_set] at q1
    by_cases hj : i = j
    · subst hj
      rw [if_pos rfl, if_pos (by omega)] at q1
      cases q1
      obtain ⟨_, _, _, k3⟩ := h.inn i v l hv hl
      exact tgNew_own hb (fun g hg => ⟨(k3.lt g hg).2, h.tI i v g hv hg⟩) q2
    · rw [if_neg hj] at q1
      have hjl : j < ls.length := by have := (List.getElem?_eq_some_iff.1 q1).1; omega
      obtain ⟨_, _, _, k3⟩ := h.inn j u _ q1 (List.getElem?_eq_getElem hjl)
      rw [tgNew_old _ _ _ _ (k3.lt g q2).2]; exact h.tI j u g q1 q2
end Go.Proofs.YthcaphoejplecaaGreatDoor

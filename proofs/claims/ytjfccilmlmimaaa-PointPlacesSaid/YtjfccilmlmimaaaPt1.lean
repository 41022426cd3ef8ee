/- WALKS over point and slices: lines sorted by their places, the earlier of one place ahead. No condition but that the lines stand in a row of their own and are sure. -/
import Derived.Test.YtjfccilmlmimaaaPt0
set_option linter.unusedSimpArgs false
set_option linter.unusedVariables false
namespace Go.Proofs.Ytjfccilmlmimaaa
open Go.RowKit

set_option maxRecDepth 100000 in
set_option maxHeartbeats 2000000 in
theorem newCmp_any (x y : Ln) (w : World) (wx : x.Wf) (wy : y.Wf) : Calls Try.prog 27 #[x.v, y.v] w (Gives w (.int .i64 (if both x.p x.q y.p y.q = true then cmpI x.p x.q y.p y.q else 0))) := by
  obtain ⟨n, o, p, q, i⟩ := x
  obtain ⟨n', o', p', q', i'⟩ := y
  have c1 := fun w => before_any p q p' q' w wx.2.2.1 wx.2.2.2.1 wy.2.2.1 wy.2.2.2.1
  simp only
  generalize (if both p q p' q' = true then cmpI p q p' q' else 0) = R at *
  have C1 := Lib.hid c1
  clear c1 wx wy
  go_enter Try.func27, Try.ntmps27
  go_wp2_with (first | (go_at_call 28; (with_reducible refine (C1.out _).mono ?_); rintro e w1 ⟨rfl, x1, rfl⟩))
  go_ret
  exact ⟨rfl, (by repeat (with_reducible first | assumption | exact grA | apply grB | apply grC | apply grD | refine grE ?_ (by omega) _ | refine grF ?_ (by omega) _ _))⟩
theorem newCmp_cmp (g : Nat) (m : List Ln) (hs : ∀ x ∈ m, sureB x.p x.q = true) (hw : ∀ x ∈ m, x.Wf) : CmpFnE Try.prog 27 (cellsL m) g m.length (fun i k => cmpI (atL m i).p (atL m i).q (atL m k).p (atL m k).q) (ltP m) (fun _ => True) where
  keep := fun _ _ _ _ => trivial
  call := fun W x y _ hx hy => by
    have e1 := atL_get (List.getElem?_eq_getElem hx)
    have e2 := atL_get (List.getElem?_eq_getElem hy)
    have h := newCmp_any (atL m x) (atL m y) W (by rw [e1]; exact hw _ (List.getElem_mem hx)) (by rw [e2]; exact hw _ (List.getElem_mem hy))
    have hb : both (atL m x).p (atL m x).q (atL m y).p (atL m y).q = true := by
      rw [e1, e2]; unfold both; rw [hs _ (List.getElem_mem hx), hs _ (List.getElem_mem hy)]; rfl
    rw [if_pos hb] at h
    exact h
  less := fun x y h _ => by unfold ltP; omega
  tr := ltP_trans fun x hx => (sureB_yes (hs x hx)).1
  or := fun x y h => ltP_or (by omega)

set_option maxRecDepth 100000 in
set_option maxHeartbeats 2000000 in
theorem sortLines_any (g cap : Nat) (m : List Ln) (RR0 : List Value) (hs : ∀ x ∈ m, sureB x.p x.q = true) (hw : ∀ x ∈ m, x.Wf) (w : World) (hr : w.row g = some (.cells (elsL (cellsL m) (fun k => (k : Int)) m.length ++ RR0).toArray 37)) (hN : m.length ≤ 1048576) (hc : m.length ≤ cap) (hc2 : cap ≤ 9223372036854775807) :
    Calls Try.prog 26 #[.slice (some ⟨g, 0, none⟩) m.length cap, .func (.func 27) #[] #[]] w fun e w' => e = .returned (.tuple #[]) ∧
      ∃ f', w'.row g = some (.cells (elsL (cellsL m) f' m.length ++ RR0).toArray 37) ∧ On g w w' ∧ Run (ltP m) f' 0 m.length := by
  have s1 := stableE_any (cellsL_el m) g cap m.length (newCmp_cmp g m hs hw) (fun k => (k : Int)) w trivial hr hN hc hc2 fun _ _ => rfl
  have S1 := Lib.hid s1
  clear s1 hs hw
  generalize m.length = N at *
  go_enter Try.func26, Try.ntmps26
  go_wp2_with (go_at_call 41; (with_reducible refine (S1.out).mono ?_); rintro e w1 ⟨rfl, F1, hx1, HO1, hR1⟩)
  go_end0
  exact ⟨rfl, F1, hx1, HO1, hR1⟩
end Go.Proofs.Ytjfccilmlmimaaa

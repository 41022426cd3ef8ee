/- WALKS over point: the functions that turning hands to place. No condition but that numbers are of their kinds. -/
import Derived.Test.YtjfccilmlmimaaaPlace
set_option linter.unusedSimpArgs false
set_option linter.unusedVariables false
namespace Go
open Go.RowKit
def befI (x : Ln) (a b : Int) : Int := if both x.p x.q a b = true then cmpI x.p x.q a b else 0
def aheadA (a b : Int) (x : Ln) : Bool := decide (befI x a b < 0)
def aheadB (a b : Int) (x : Ln) : Bool := decide (befI x a b ≤ 0)
end Go
namespace Go.Proofs.Ytjfccilmlmimaaa
open Go.RowKit Go.Maps

set_option maxRecDepth 100000 in
set_option maxHeartbeats 4000000 in
theorem turn1_any (c : Nat) (x : Ln) (a b : Int) (w : World) (wx : x.Wf) (wa : I64 a) (wb : I64 b) (hx : w.row c = some (.cells #[.int .i64 a, .int .i64 b] 24)) : Calls Try.prog 44 #[x.v, .pointer (some ⟨c, 0, none⟩)] w (Gives w (.bool (aheadA a b x))) := by
  have hc := fun W => before_any x.p x.q a b W wx.2.2.1 wx.2.2.2.1 wa wb
  have zx := row_sz' hx
  unfold aheadA
  change ∀ W, Calls _ _ _ W (Gives W (.int .i64 (befI x a b))) at hc
  generalize hB : befI x a b = B at *
  obtain ⟨n, o, p, q, i⟩ := x
  simp only at hc
  have HC := Lib.hid hc
  clear hc hB wx
  by_cases hn : B < 0
  · go_enter Try.func44, Try.ntmps44
    go_wp2_with (first | (go_at_call 28; (with_reducible refine (HC.out _).mono ?_); rintro e w1 ⟨rfl, x1, rfl⟩))
    go_ret
    exact ⟨by simp [hn], (by repeat (with_reducible first | assumption | exact grA | apply grB | apply grC | apply grD | refine grE ?_ (by omega) _ | refine grF ?_ (by omega) _ _))⟩
  · go_enter Try.func44, Try.ntmps44
    go_wp2_with (first | (go_at_call 28; (with_reducible refine (HC.out _).mono ?_); rintro e w1 ⟨rfl, x1, rfl⟩))
    go_ret
    exact ⟨by simp [hn], (by repeat (with_reducible first | assumption | exact grA | apply grB | apply grC | apply grD | refine grE ?_ (by omega) _ | refine grF ?_ (by omega) _ _))⟩

set_option maxRecDepth 100000 in
set_option maxHeartbeats 4000000 in
theorem turn2_any (c : Nat) (x : Ln) (a b : Int) (w : World) (wx : x.Wf) (wa : I64 a) (wb : I64 b) (hx : w.row c = some (.cells #[.int .i64 a, .int .i64 b] 24)) : Calls Try.prog 45 #[x.v, .pointer (some ⟨c, 0, none⟩)] w (Gives w (.bool (aheadB a b x))) := by
  have hc := fun W => before_any x.p x.q a b W wx.2.2.1 wx.2.2.2.1 wa wb
  have zx := row_sz' hx
  unfold aheadB
  change ∀ W, Calls _ _ _ W (Gives W (.int .i64 (befI x a b))) at hc
  generalize hB : befI x a b = B at *
  obtain ⟨n, o, p, q, i⟩ := x
  simp only at hc
  have HC := Lib.hid hc
  clear hc hB wx
  by_cases hn : B ≤ 0
  · go_enter Try.func45, Try.ntmps45
    go_wp2_with (first | (go_at_call 28; (with_reducible refine (HC.out _).mono ?_); rintro e w1 ⟨rfl, x1, rfl⟩))
    go_ret
    exact ⟨by simp [hn], (by repeat (with_reducible first | assumption | exact grA | apply grB | apply grC | apply grD | refine grE ?_ (by omega) _ | refine grF ?_ (by omega) _ _))⟩
  · go_enter Try.func45, Try.ntmps45
    go_wp2_with (first | (go_at_call 28; (with_reducible refine (HC.out _).mono ?_); rintro e w1 ⟨rfl, x1, rfl⟩))
    go_ret
    exact ⟨by simp [hn], (by repeat (with_reducible first | assumption | exact grA | apply grB | apply grC | apply grD | refine grE ?_ (by omega) _ | refine grF ?_ (by omega) _ _))⟩
end Go.Proofs.Ytjfccilmlmimaaa

/- WALKS over the document's answer: jalousieref12.Number and Figure: any expression as a number. No condition but that the expression stands in memory. -/
import Derived.Test.YthmicnjigfcljaaReck
import Derived.Test.YthmicnjigfcljaaMp
import Derived.Test.YthmicnjigfcljaaMi
set_option linter.unusedSimpArgs false
set_option linter.unusedVariables false
namespace Go.Proofs.Ythmicnjigfcljaa
open Go.RowKit

def cx0 : Cx := ⟨(0, 0), (0, 0), (0, 0), (0, 0), (0, 0), (0, 0)⟩
theorem cx0_bd : cx0.bd := by simp [cx0, Cx.bd, I64p, I64]

set_option maxRecDepth 100000 in
set_option maxHeartbeats 4000000 in
theorem refNumber_any (m : Nat) (t : Ex) (cs : List Value) (left : Nat) (w : World) (h : ExAt w m t cs) (hm : mayE m left t = true) (hk : kindE m t = 1) (hsz : szE m t ≤ 1048576) :
    Calls Try.prog 57 #[.agg cs.toArray] w (Gives w (ratV (numE m t))) := by
  have c1 : ∀ W, w.grows W → Calls Try.prog 83 #[.agg cs.toArray, .agg #[.int .i64 0, .int .i64 0, .int .i64 0, .int .i64 0, .int .i64 0, .int .i64 0, .int .i64 0, .int .i64 0, .int .i64 0, .int .i64 0, .int .i64 0, .int .i64 0]] W (Gives W (ratV (numE m t))) := fun W hW => by
    have := reckon_any cx0 cx0_bd m t cs left W (h.grows hW) hm hsz
    rw [valE_num _ m t left hm hk] at this
    exact this
  obtain ⟨v0, v1, v2, v3, va, vl, vc, rfl⟩ := ExAt_vals h
  generalize numE m t = R at *
  obtain ⟨R1, R2⟩ := R
  have C1 := Lib.hid c1; clear c1 h hm hk hsz
  go_enter Try.func57, Try.ntmps57
  go_wp2_with (first | (go_at_call 83; (with_reducible refine (C1.out _ (by repeat (with_reducible first | assumption | exact grA | apply grB | apply grC | apply grD | refine grE ?_ (by omega) _ | refine grF ?_ (by omega) _ _))).mono ?_); rintro e w1 ⟨rfl, x1, rfl⟩) | ((with_reducible show bodyPost _ _ _ _ _ _); exact ret_23 rfl rfl (by simp [go_sem]) rfl ⟨by simp [go_sem], (by repeat (first | exact grA | apply grB | apply grC | apply grD))⟩))

end Go.Proofs.Ythmicnjigfcljaa

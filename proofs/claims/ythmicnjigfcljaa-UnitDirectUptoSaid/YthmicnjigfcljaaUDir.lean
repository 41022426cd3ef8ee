/- WALKS: unit.Direct and the document's Direct: an expression as it is written, or its error. No condition but that the expression stands in memory and has at most 2^20 nodes. -/
import Derived.Test.YthmicnjigfcljaaDirect
import Derived.Test.YthmicnjigfcljaaReck
import Derived.Test.YthmicnjigfcljaaMh
import Derived.Test.YthmicnjigfcljaaMi
set_option linter.unusedSimpArgs false
set_option linter.unusedVariables false
namespace Go.Proofs.Ythmicnjigfcljaa
open Go.RowKit

/-- the word of an expression that has no kind -/
def kindW (m : Nat) (t : Ex) : Int := if mayE m 340 t then (if kindE m t = 0 then 4 else 0) else 1
theorem kindW_zero {m : Nat} {t : Ex} (h : kindW m t = 0) : mayE m 340 t = true := by
  unfold kindW at h
  split at h
  · assumption
  · cases h

set_option maxRecDepth 100000 in
set_option maxHeartbeats 4000000 in
theorem udirect_any (c : Cx) (hcb : c.bd) (m : Nat) (t : Ex) (cs : List Value) (w : World) (h : ExAt w m t cs) (hsz : szE m t ≤ 1048576) :
    Calls Try.prog 49 #[.agg cs.toArray, .agg (cxL c).toArray] w (Gives w (.tuple #[ratV (if kindW m t = 0 then valE (sizeQ c) m t else (0, 0)), .int .i64 (kindW m t)])) := by
  have c1 : ∀ W, w.grows W → Calls Try.prog 81 #[.agg cs.toArray] W (Gives W (.tuple #[.int .i64 (if mayE m 340 t then kindE m t else 0), .int .i64 (kindW m t)])) := fun W hW => calcKind_any m t cs W (h.grows hW)
  have c2 : kindW m t = 0 → ∀ W, w.grows W → Calls Try.prog 82 #[.agg cs.toArray, .agg (cxL c).toArray] W (Gives W (ratV (valE (sizeQ c) m t))) := fun h0 W hW => direct_any c hcb m t cs 340 W (h.grows hW) (kindW_zero h0) hsz
  obtain ⟨k0, k1, k2, k3, va, vl, vc, rfl⟩ := ExAt_vals h
  generalize (if mayE m 340 t then kindE m t else 0) = K at *
  generalize kindW m t = X at *
  generalize valE (sizeQ c) m t = R at *
  obtain ⟨R1, R2⟩ := R
  obtain ⟨⟨f1, f2⟩, ⟨r1, r2⟩, ⟨v1, v2⟩, ⟨h1, h2⟩, ⟨cc1, cc2⟩, ⟨d1, d2⟩⟩ := c
  change Calls Try.prog 49 #[_, .agg #[.int .i64 f1, .int .i64 f2, .int .i64 r1, .int .i64 r2, .int .i64 v1, .int .i64 v2, .int .i64 h1, .int .i64 h2, .int .i64 cc1, .int .i64 cc2, .int .i64 d1, .int .i64 d2]] w _
  change X = 0 → ∀ W, w.grows W → Calls Try.prog 82 #[_, .agg #[.int .i64 f1, .int .i64 f2, .int .i64 r1, .int .i64 r2, .int .i64 v1, .int .i64 v2, .int .i64 h1, .int .i64 h2, .int .i64 cc1, .int .i64 cc2, .int .i64 d1, .int .i64 d2]] W _ at c2
  clear h hsz hcb
  by_cases h0 : X = 0
  · subst h0
    rw [if_pos rfl]
    have C1 := Lib.hid c1; have C2 := Lib.hid (c2 rfl); clear c1 c2
    go_enter Try.func49, Try.ntmps49
    go_wp2_with (first | (go_at_call 81; (with_reducible refine (C1.out _ (by repeat (with_reducible first | assumption | exact World.grows.refl | apply World.grows.plus | apply World.grows.alloc | apply World.grows.drew | (refine World.grows.setRow' ?_ (by omega) _) | (refine World.grows.setCell' ?_ (by omega) _ _)))).mono ?_); rintro e w1 ⟨rfl, x1, rfl⟩) | (go_at_call 82; (with_reducible refine (C2.out _ (by repeat (with_reducible first | assumption | exact World.grows.refl | apply World.grows.plus | apply World.grows.alloc | apply World.grows.drew | (refine World.grows.setRow' ?_ (by omega) _) | (refine World.grows.setCell' ?_ (by omega) _ _)))).mono ?_); rintro e w1 ⟨rfl, x2, rfl⟩) | ((with_reducible show bodyPost _ _ _ _ _ _); exact rett_23 rfl rfl (by simp [go_sem]) rfl ⟨by simp [go_sem], (by repeat (first | exact World.grows.refl | apply World.grows.plus | apply World.grows.alloc | apply World.grows.drew))⟩))
  · rw [if_neg h0]
    have hx1 : (X == 0) = false := by simpa using h0
    have hx2 : (X != 0) = true := by simpa using h0
    have C1 := Lib.hid c1; clear c1 c2 h0
    go_enter Try.func49, Try.ntmps49
    go_wp2_with (first | (go_at_call 81; (with_reducible refine (C1.out _ (by repeat (with_reducible first | assumption | exact World.grows.refl | apply World.grows.plus | apply World.grows.alloc | apply World.grows.drew | (refine World.grows.setRow' ?_ (by omega) _) | (refine World.grows.setCell' ?_ (by omega) _ _)))).mono ?_); rintro e w1 ⟨rfl, x1, rfl⟩) | ((with_reducible show bodyPost _ _ _ _ _ _); exact rett_23 rfl rfl (by simp [go_sem]) rfl ⟨by simp [go_sem], (by repeat (first | exact World.grows.refl | apply World.grows.plus | apply World.grows.alloc | apply World.grows.drew))⟩))

set_option maxRecDepth 100000 in
set_option maxHeartbeats 4000000 in
theorem rdirect_any (c : Cx) (hcb : c.bd) (m : Nat) (t : Ex) (cs : List Value) (w : World) (h : ExAt w m t cs) (hsz : szE m t ≤ 1048576) :
    Calls Try.prog 50 #[.agg cs.toArray, .agg (cxL c).toArray] w (Gives w (.tuple #[ratV (if kindW m t = 0 then valE (sizeQ c) m t else (0, 0)), .int .i64 (kindW m t)])) := by
  have c1 : ∀ W, w.grows W → Calls Try.prog 17 #[.agg cs.toArray] W (Gives W (.tuple #[.int .i64 (if mayE m 340 t then kindE m t else 0), .int .i64 (kindW m t)])) := fun W hW => ref12Kind_any m t cs W (h.grows hW)
  have c2 : kindW m t = 0 → ∀ W, w.grows W → Calls Try.prog 83 #[.agg cs.toArray, .agg (cxL c).toArray] W (Gives W (ratV (valE (sizeQ c) m t))) := fun h0 W hW => reckon_any c hcb m t cs 340 W (h.grows hW) (kindW_zero h0) hsz
  obtain ⟨k0, k1, k2, k3, va, vl, vc, rfl⟩ := ExAt_vals h
  generalize (if mayE m 340 t then kindE m t else 0) = K at *
  generalize kindW m t = X at *
  generalize valE (sizeQ c) m t = R at *
  obtain ⟨R1, R2⟩ := R
  obtain ⟨⟨f1, f2⟩, ⟨r1, r2⟩, ⟨v1, v2⟩, ⟨h1, h2⟩, ⟨cc1, cc2⟩, ⟨d1, d2⟩⟩ := c
  change Calls Try.prog 50 #[_, .agg #[.int .i64 f1, .int .i64 f2, .int .i64 r1, .int .i64 r2, .int .i64 v1, .int .i64 v2, .int .i64 h1, .int .i64 h2, .int .i64 cc1, .int .i64 cc2, .int .i64 d1, .int .i64 d2]] w _
  change X = 0 → ∀ W, w.grows W → Calls Try.prog 83 #[_, .agg #[.int .i64 f1, .int .i64 f2, .int .i64 r1, .int .i64 r2, .int .i64 v1, .int .i64 v2, .int .i64 h1, .int .i64 h2, .int .i64 cc1, .int .i64 cc2, .int .i64 d1, .int .i64 d2]] W _ at c2
  clear h hsz hcb
  by_cases h0 : X = 0
  · subst h0
    rw [if_pos rfl]
    have C1 := Lib.hid c1; have C2 := Lib.hid (c2 rfl); clear c1 c2
    go_enter Try.func50, Try.ntmps50
    go_wp2_with (first | (go_at_call 17; (with_reducible refine (C1.out _ (by repeat (with_reducible first | assumption | exact World.grows.refl | apply World.grows.plus | apply World.grows.alloc | apply World.grows.drew | (refine World.grows.setRow' ?_ (by omega) _) | (refine World.grows.setCell' ?_ (by omega) _ _)))).mono ?_); rintro e w1 ⟨rfl, x1, rfl⟩) | (go_at_call 83; (with_reducible refine (C2.out _ (by repeat (with_reducible first | assumption | exact World.grows.refl | apply World.grows.plus | apply World.grows.alloc | apply World.grows.drew | (refine World.grows.setRow' ?_ (by omega) _) | (refine World.grows.setCell' ?_ (by omega) _ _)))).mono ?_); rintro e w1 ⟨rfl, x2, rfl⟩) | ((with_reducible show bodyPost _ _ _ _ _ _); exact rett_23 rfl rfl (by simp [go_sem]) rfl ⟨by simp [go_sem], (by repeat (first | exact World.grows.refl | apply World.grows.plus | apply World.grows.alloc | apply World.grows.drew))⟩))
  · rw [if_neg h0]
    have hx1 : (X == 0) = false := by simpa using h0
    have hx2 : (X != 0) = true := by simpa using h0
    have C1 := Lib.hid c1; clear c1 c2 h0
    go_enter Try.func50, Try.ntmps50
    go_wp2_with (first | (go_at_call 17; (with_reducible refine (C1.out _ (by repeat (with_reducible first | assumption | exact World.grows.refl | apply World.grows.plus | apply World.grows.alloc | apply World.grows.drew | (refine World.grows.setRow' ?_ (by omega) _) | (refine World.grows.setCell' ?_ (by omega) _ _)))).mono ?_); rintro e w1 ⟨rfl, x1, rfl⟩) | ((with_reducible show bodyPost _ _ _ _ _ _); exact rett_23 rfl rfl (by simp [go_sem]) rfl ⟨by simp [go_sem], (by repeat (first | exact World.grows.refl | apply World.grows.plus | apply World.grows.alloc | apply World.grows.drew))⟩))

end Go.Proofs.Ythmicnjigfcljaa

/- WALKS over unit: unit.Px: a form in px; unit.Length of 2em in a context of 16px: the statements' own check. No condition but that the form stands in memory and has not too many parts. -/
import Derived.Test.YthmicnjigfcljaaPx
import Derived.Test.YthmicnjigfcljaaFmMay
import Derived.Test.YthmicnjigfcljaaMp
set_option linter.unusedSimpArgs false
set_option linter.unusedVariables false
namespace Go.Proofs.Ythmicnjigfcljaa
open Go.RowKit

set_option maxRecDepth 100000 in
set_option maxHeartbeats 4000000 in
theorem unitPx_any (c : Cx) (hcb : c.bd) (f : Fm) (cs : List Value) (w : World) (S : Nat → Prop) (h : FormOk w S f cs) (hsz : szF f ≤ 4194304) :
    Calls Try.prog 40 #[.agg cs.toArray, .agg (cxL c).toArray] w (Gives w (ratV (if mayF 340 f then pxF (sizeQ c) f else (0, 0)))) := by
  have c1 := fun W (hW : w.grows W) => normMayFMay_any f cs W S (h.grows hW)
  have c2 := fun W (hW : w.grows W) => px_any c hcb f cs W S (h.grows hW) hsz
  generalize mayF 340 f = B at *
  generalize pxF (sizeQ c) f = R at *
  obtain ⟨R1, R2⟩ := R
  obtain ⟨us, ps⟩ := f
  obtain ⟨hu7, _, v, rfl, hps⟩ := FormOk_us h
  obtain ⟨a, cp, rfl, hn1, hn2⟩ := hps.len
  obtain ⟨⟨f1, f2⟩, ⟨r1, r2⟩, ⟨v1, v2⟩, ⟨h1, h2⟩, ⟨cc1, cc2⟩, ⟨d1, d2⟩⟩ := c
  change Calls Try.prog 40 #[_, .agg #[.int .i64 f1, .int .i64 f2, .int .i64 r1, .int .i64 r2, .int .i64 v1, .int .i64 v2, .int .i64 h1, .int .i64 h2, .int .i64 cc1, .int .i64 cc2, .int .i64 d1, .int .i64 d2]] w _
  change ∀ W, w.grows W → Calls Try.prog 71 #[_, .agg #[.int .i64 f1, .int .i64 f2, .int .i64 r1, .int .i64 r2, .int .i64 v1, .int .i64 v2, .int .i64 h1, .int .i64 h2, .int .i64 cc1, .int .i64 cc2, .int .i64 d1, .int .i64 d2]] W _ at c2
  have C1 := Lib.hid c1; have C2 := Lib.hid c2; clear c1 c2 h hps hsz hcb
  cases B
  · rw [if_neg (by simp)]
    go_enter Try.func40, Try.ntmps40
    go_wp2_with (first | (go_at_call 61; (with_reducible refine (C1.out _ (by repeat (with_reducible first | assumption | exact grA | apply grB | apply grC | apply grD | refine grE ?_ (by omega) _ | refine grF ?_ (by omega) _ _))).mono ?_); rintro e w1 ⟨rfl, x1, rfl⟩) | ((with_reducible show bodyPost _ _ _ _ _ _); exact ret_23 rfl rfl (by simp [go_sem]) rfl ⟨by simp [go_sem], (by repeat (first | exact grA | apply grB | apply grC | apply grD))⟩))
  · rw [if_pos rfl]
    go_enter Try.func40, Try.ntmps40
    go_wp2_with (first | (go_at_call 61; (with_reducible refine (C1.out _ (by repeat (with_reducible first | assumption | exact grA | apply grB | apply grC | apply grD | refine grE ?_ (by omega) _ | refine grF ?_ (by omega) _ _))).mono ?_); rintro e w1 ⟨rfl, x1, rfl⟩) | (go_at_call 71; (with_reducible refine (C2.out _ (by repeat (with_reducible first | assumption | exact grA | apply grB | apply grC | apply grD | refine grE ?_ (by omega) _ | refine grF ?_ (by omega) _ _))).mono ?_); rintro e w1 ⟨rfl, x2, rfl⟩) | ((with_reducible show bodyPost _ _ _ _ _ _); exact ret_23 rfl rfl (by simp [go_sem]) rfl ⟨by simp [go_sem], (by repeat (first | exact grA | apply grB | apply grC | apply grD))⟩))

set_option maxRecDepth 100000 in
theorem whole_any (n : Int) (w : World) : Calls Try.prog 73 #[.int .i64 n] w (Gives w (.agg #[.int .i64 n, .int .i64 1])) := by
  go_enter Try.func73, Try.ntmps73
  go_wp2_with (first | ((with_reducible show bodyPost _ _ _ _ _ _); exact ret_23 rfl rfl (by simp [go_sem]) rfl ⟨by simp [go_sem], (by repeat (first | exact grA | apply grB | apply grC | apply grD))⟩))

def awk3T : Ex := .mk 1 2 1 2 []
def awk3C : Cx := ⟨(16, 1), (0, 0), (0, 0), (0, 0), (0, 0), (0, 0)⟩
def awk3F : Fm := .mk [(0, 1), (2, 1), (0, 1), (0, 1), (0, 1), (0, 1), (0, 1)] []
theorem awk3_ask : askE 1 awk3T 2 = 0 := by decide
theorem awk3_form : formE 1 awk3T = awk3F := by
  have h1 : (formE 1 awk3T).us = awk3F.us := by decide +kernel
  have h2 : (formE 1 awk3T).ps.length = 0 := by decide +kernel
  generalize formE 1 awk3T = f at *
  obtain ⟨us, ps⟩ := f
  obtain rfl : us = _ := h1
  obtain rfl : ps = [] := List.length_eq_zero_iff.1 h2
  rfl
theorem awk3_may : mayF 340 awk3F = true := by decide +kernel
theorem awk3_px : pxF (sizeQ awk3C) awk3F = (32, 1) := by
  unfold awk3F
  rw [pxF_eq]
  decide +kernel
theorem awk3_bd : awk3C.bd := by simp [awk3C, Cx.bd, I64p, I64]
theorem awk3_at (W : World) : ExAt W 1 awk3T [.int .i64 1, .int .i64 2, .int .i64 1, .int .i64 2, .slice none 0 0] :=
  ⟨by simp [I64], by simp [I64], by simp [I64], by simp [I64], none, 0, rfl, by simp, by simp, .inl rfl⟩

set_option maxRecDepth 100000 in
set_option maxHeartbeats 4000000 in
theorem awkLen_any (w : World) : Calls Try.prog 72 #[.agg #[.int .i64 1, .int .i64 2, .int .i64 1, .int .i64 2, .slice none 0 0], .agg #[.int .i64 16, .int .i64 1, .int .i64 0, .int .i64 0, .int .i64 0, .int .i64 0, .int .i64 0, .int .i64 0, .int .i64 0, .int .i64 0, .int .i64 0, .int .i64 0]] w (Gives w (.tuple #[.agg #[.int .i64 32, .int .i64 1], .int .i64 0])) := by
  have c1 : ∀ W, Calls Try.prog 16 #[.agg #[.int .i64 1, .int .i64 2, .int .i64 1, .int .i64 2, .slice none 0 0]] W fun e w' => ∃ a c, e = .returned (.tuple #[.agg #[.int .i64 0, .int .i64 1, .int .i64 2, .int .i64 1, .int .i64 0, .int .i64 1, .int .i64 0, .int .i64 1, .int .i64 0, .int .i64 1, .int .i64 0, .int .i64 1, .int .i64 0, .int .i64 1, .slice a 0 c], .int .i64 0]) ∧ W.grows w' ∧ FormOk w' (fun _ => True) awk3F [.int .i64 0, .int .i64 1, .int .i64 2, .int .i64 1, .int .i64 0, .int .i64 1, .int .i64 0, .int .i64 1, .int .i64 0, .int .i64 1, .int .i64 0, .int .i64 1, .int .i64 0, .int .i64 1, .slice a 0 c] := fun W => by
    have := normForm_ok 1 awk3T _ W (fun _ => True) (fun _ _ => trivial) (awk3_at W) awk3_ask (by decide)
    rw [awk3_form] at this
    exact this.mono fun e w' ⟨a, c, h1, h2, h3, h4, h5⟩ => ⟨a, c, h1, h2, FormOk_form h3 h4 h5⟩
  have c2 : ∀ W a c, FormOk W (fun _ => True) awk3F [.int .i64 0, .int .i64 1, .int .i64 2, .int .i64 1, .int .i64 0, .int .i64 1, .int .i64 0, .int .i64 1, .int .i64 0, .int .i64 1, .int .i64 0, .int .i64 1, .int .i64 0, .int .i64 1, .slice a 0 c] →
      Calls Try.prog 40 #[.agg #[.int .i64 0, .int .i64 1, .int .i64 2, .int .i64 1, .int .i64 0, .int .i64 1, .int .i64 0, .int .i64 1, .int .i64 0, .int .i64 1, .int .i64 0, .int .i64 1, .int .i64 0, .int .i64 1, .slice a 0 c], .agg #[.int .i64 16, .int .i64 1, .int .i64 0, .int .i64 0, .int .i64 0, .int .i64 0, .int .i64 0, .int .i64 0, .int .i64 0, .int .i64 0, .int .i64 0, .int .i64 0]] W (Gives W (.agg #[.int .i64 32, .int .i64 1])) := fun W a c h => by
    have := unitPx_any awk3C awk3_bd awk3F _ W _ h (by decide +kernel)
    rw [awk3_may, if_pos rfl, awk3_px] at this
    exact this
  have C1 := Lib.hid c1; have C2 := Lib.hid c2; clear c1 c2
  go_enter Try.func72, Try.ntmps72
  go_wp2_with (first | (go_at_call 16; (with_reducible refine (C1.out _).mono ?_); rintro e w1 ⟨a5, c5, rfl, hg5, h5⟩; have hgw1 : w.grows w1 := World.grows.trans (by repeat (with_reducible first | assumption | exact grA | apply grB | apply grC | apply grD | refine grE ?_ (by omega) _ | refine grF ?_ (by omega) _ _)) hg5; have q1 := hg5.row_eq (g := w.heap.size + 1) (by simp <;> omega); have q2 := hg5.row_eq (g := w.heap.size + 1 + 1) (by simp <;> omega); simp [go_sem] at q1 q2; have t1 := row_sz' q1; have t2 := row_sz' q2; have H5 := Lib.hid h5; clear h5 hg5) | (go_at_call 40; (with_reducible refine (C2.out _ _ _ (H5.out.grows (by repeat (with_reducible first | assumption | exact grA | apply grB | apply grC | apply grD | refine grE ?_ (by omega) _ | refine grF ?_ (by omega) _ _)))).mono ?_); rintro e w1 ⟨rfl, x2, rfl⟩) | ((with_reducible show bodyPost _ _ _ _ _ _); exact rett_23 rfl rfl (by simp [go_sem, q1, q2, t1, t2]) rfl ⟨by simp [go_sem, q1, q2, t1, t2], (by repeat (with_reducible first | assumption | exact grA | apply grB | apply grC | apply grD | refine grE ?_ (by omega) _ | refine grF ?_ (by omega) _ _))⟩))

set_option maxRecDepth 100000 in
set_option maxHeartbeats 4000000 in
theorem awake13_any (w : World) : Calls Try.prog 41 #[] w (Gives w (.bool true)) := by
  go_enter Try.func41, Try.ntmps41
  go_wp2_with (first | (go_at_call 73; (with_reducible refine (whole_any _ _).mono ?_); rintro e w1 ⟨rfl, x1, rfl⟩) | (go_at_call 72; (with_reducible refine (awkLen_any _).mono ?_); rintro e w1 ⟨rfl, x1, rfl⟩))
  refine wp_region_plus_lit (by kernel_rfl) (by kernel_rfl) ?_
  repeat (go_big_quiet_step ((go_at_call 73; (with_reducible exact Calls.plus_of (whole_any _ _)))))
  (refine wpQuiet_nil ?_; intro _ hw'; obtain ⟨xq, hw''⟩ := hw'; subst hw'')
  go_wp2_with fail
  all_goals go_ret
  all_goals exact ⟨rfl, (by repeat (with_reducible first | assumption | exact grA | apply grB | apply grC | apply grD | refine grE ?_ (by omega) _ | refine grF ?_ (by omega) _ _))⟩
end Go.Proofs.Ythmicnjigfcljaa

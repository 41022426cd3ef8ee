/- WALKS over norm: own, all, Scale, Add, Pick; the statements' own all. No condition but that the forms stand in memory and are not too many. -/
import Derived.Test.YthmicnjigfcljaaCop
import Derived.Test.YthmicnjigfcljaaFmMay
set_option linter.unusedSimpArgs false
set_option linter.unusedVariables false
namespace Go.Proofs.Ythmicnjigfcljaa
open Go.RowKit

set_option maxRecDepth 100000 in
set_option maxHeartbeats 8000000 in
theorem own_any (f : Fm) (cs : List Value) (w : World) (S : Nat → Prop) (h : FormOk w S f cs) (hsz : szF f ≤ 4194304) :
    Calls Try.prog 62 #[.agg cs.toArray] w (FormP w (fun g => w.heap.size ≤ g) f) := by
  obtain ⟨m, hm⟩ := h
  obtain ⟨us, ps⟩ := f
  obtain ⟨hu7, hub, v, rfl, hps⟩ := FormOk_us ⟨m, hm⟩
  obtain ⟨a, c, rfl, hn1, hn2⟩ := hps.len
  have c1 : ∀ W, w.grows W → Calls Try.prog 92 #[.slice a ps.length c] W (CopP W (fun g => W.heap.size ≤ g) ps) := fun W hW => cop_all m us ps _ W S (hm.grows hW) (by rw [szF] at hsz; omega)
  have C1 := Lib.hid c1; have HUB := Lib.hid hub
  clear c1 hps hm hsz hub
  go_enter Try.func62, Try.ntmps62
  go_wp2_with fail
  refine wp_region_plus_seq_tail 6 (by kernel_rfl) (by kernel_rfl) (fun x0 => ?_)
  simp only [List.take_succ_cons, List.take_zero, List.drop_succ_cons, List.drop_zero]
  repeat (any_goals (first | (refine wpSeqL_free rfl ?_; first | (go_big_quiet_skip; refine wpQuiet_nil ?_) | (go_big_quiet_step (fail); refine wpQuiet_nil ?_) | (refine wpQuiet_step (fun K hK => ?_); go_simp; split <;> (refine hK _ ?_; clear hK K; refine wpQuiet_nil ?_))) | (refine wpSeqL_link rfl (fun K hK => ?_); go_simp; first | first | (refine hK _ _ (by show World.grows _ _; repeat (first | assumption | exact grA | apply grB | apply grC | apply grD)) ?_; clear hK K) | (((first | (go_at_call 92; (with_reducible refine (C1.out _ (by repeat (with_reducible first | assumption | exact grA | apply grB | apply grC | apply grD | refine grE ?_ (by omega) _ | refine grF ?_ (by omega) _ _))).mono ?_); rintro e w1 ⟨a6, c6, rfl, hg6, h6⟩; have hgw1 : w.grows w1 := World.grows.trans (by repeat (with_reducible first | assumption | exact grA | apply grB | apply grC | apply grD | refine grE ?_ (by omega) _ | refine grF ?_ (by omega) _ _)) hg6; have q2 := hg6.row_eq (g := w.heap.size + 1) (by simp <;> omega); have hs9 := hg6.below.size; have hrx : ((w.alloc (.cells (formC us (.slice a ps.length c)).toArray 30)).alloc (.cells #[.int .i64 0, .int .i64 0, .int .i64 0, .int .i64 0, .int .i64 0, .int .i64 0, .int .i64 0, .int .i64 0, .int .i64 0, .int .i64 0, .int .i64 0, .int .i64 0, .int .i64 0, .int .i64 0, .slice none 0 0] 30)).grows w1 := World.grows.trans (by repeat (with_reducible first | assumption | exact grA | apply grB | apply grC | apply grD | refine grE ?_ (by omega) _ | refine grF ?_ (by omega) _ _)) hg6; simp [go_sem] at q2 hs9; have t2 := row_sz' q2; have H6 := Lib.hid h6; clear h6))); refine ⟨_, rfl, hK _ _ (by show World.grows _ _; repeat (first | assumption | exact grA | apply grB | apply grC | apply grD)) ?_⟩; clear hK K) | (split <;> (first | (refine hK _ _ (by show World.grows _ _; repeat (first | assumption | exact grA | apply grB | apply grC | apply grD)) ?_; clear hK K) | (((first | (go_at_call 92; (with_reducible refine (C1.out _ (by repeat (with_reducible first | assumption | exact grA | apply grB | apply grC | apply grD | refine grE ?_ (by omega) _ | refine grF ?_ (by omega) _ _))).mono ?_); rintro e w1 ⟨a6, c6, rfl, hg6, h6⟩; have hgw1 : w.grows w1 := World.grows.trans (by repeat (with_reducible first | assumption | exact grA | apply grB | apply grC | apply grD | refine grE ?_ (by omega) _ | refine grF ?_ (by omega) _ _)) hg6; have q2 := hg6.row_eq (g := w.heap.size + 1) (by simp <;> omega); have hs9 := hg6.below.size; have hrx : ((w.alloc (.cells (formC us (.slice a ps.length c)).toArray 30)).alloc (.cells #[.int .i64 0, .int .i64 0, .int .i64 0, .int .i64 0, .int .i64 0, .int .i64 0, .int .i64 0, .int .i64 0, .int .i64 0, .int .i64 0, .int .i64 0, .int .i64 0, .int .i64 0, .int .i64 0, .slice none 0 0] 30)).grows w1 := World.grows.trans (by repeat (with_reducible first | assumption | exact grA | apply grB | apply grC | apply grD | refine grE ?_ (by omega) _ | refine grF ?_ (by omega) _ _)) hg6; simp [go_sem] at q2 hs9; have t2 := row_sz' q2; have H6 := Lib.hid h6; clear h6))); refine ⟨_, rfl, hK _ _ (by show World.grows _ _; repeat (first | assumption | exact grA | apply grB | apply grC | apply grD)) ?_⟩; clear hK K))))))
  all_goals (refine wpSeqL_end ?_)
  go_wp2_with fail
  (with_reducible show bodyPost _ _ _ _ _ _); exact ret_30 rfl rfl (by simp [go_sem, q2, t2, hu7]) rfl ⟨a6, c6, (by simp [go_sem, q2, t2, hu7, Fm.us, Fm.ps]), (by repeat (with_reducible first | assumption | exact grA | apply grB | apply grC | apply grD | refine grE ?_ (by omega) _ | refine grF ?_ (by omega) _ _)), hu7, HUB.out, formS_keep H6.out (fun g h => by
    have h' : w.heap.size + 1 + 1 ≤ g := by simp at h; omega
    exact ⟨by rw [World.row_setRow, if_neg (by omega)], by omega⟩)⟩
end Go.Proofs.Ythmicnjigfcljaa

/- WALKS over jalousielaw24: a number put among rising ones, and in which block the result lies. No condition but that the numbers stand in memory and are not too many. (turned by program from XPut) -/
import Derived.Test.YtjfccilmlmimaaaPut
import Derived.Test.YtjfccilmlmimaaaAppS
set_option linter.unusedSimpArgs false
set_option linter.unusedVariables false
namespace Go.Proofs.Ytjfccilmlmimaaa
open Go.RowKit

set_option maxRecDepth 100000 in
set_option maxHeartbeats 8000000 in
theorem putS_any (S : Nat → Prop) (v : Value) (W : List Int) (x : Int) (w : World) (hS : SlAt w S 1 IntR v W) (hI : IntsAt w v W) (hN : W.length ≤ 1048576) : Calls Try.prog 22 #[v, .int .i64 x] w fun e w' => ∃ v', e = .returned v' ∧ w.grows w' ∧ SlAt w' (fun g => S g ∨ w.heap.size ≤ g) 1 IntR v' (putL W x) := by
  obtain ⟨n3, c3, rfl, hc3, hc4⟩ := hI.len
  have HI0 := Lib.hid hI
  have HS := Lib.hid hS
  clear hI hS
  go_enter Try.func22, Try.ntmps22
  go_wp2_with fail
  go_loopg [5] W.length (fun gn v5 wj => ∃ j : Nat, Hid (gn + j = W.length ∧ j ≤ W.length) ∧ v5 = .int .i64 j ∧ w.grows wj ∧ Hid (∀ (m : Nat) v, m < j → W[m]? = some v → v < x))
  case atStart => exact ⟨0, Lib.hid ⟨rfl, Nat.zero_le _⟩, by go_num, (by repeat (with_reducible first | assumption | exact grA | apply grB | apply grC | apply grD | refine grE ?_ (by omega) _ | refine grF ?_ (by omega) _ _)), Lib.hid fun m v h => by omega⟩
  case round =>
    obtain ⟨j, HJ, rfl, hg, HL⟩ := hrel
    obtain ⟨j1, j2⟩ := HJ.out
    have HI := Lib.hid (HI0.out.grow hg)
    by_cases hjl : j < W.length
    · have hgt := List.getElem?_eq_getElem hjl
      obtain ⟨a', c', e', _, _, hcell⟩ := HI.out
      injection e' with e1' e2' e3'
      subst e1'; subst e3'
      clear e2'
      rcases hcell with hnil | ⟨g3, off3, rfl, _, hcell⟩
      · rw [hnil] at hjl; cases hjl
      obtain ⟨cs3, _, el3, rfl⟩ := hcell j _ hgt
      have c0 := el3.cell (j := 0) rfl
      rw [World.cell?_row, Nat.add_zero, Nat.mul_one] at c0
      have z3 := lt_sz el3.lt
      have n5 : (j : Int) < (W.length : Int) := by omega
      have HG := Lib.hid hgt
      clear hcell el3 hgt
      generalize W[j] = y at *
      by_cases hlt2 : y < x
      · have HL2 : Hid (∀ (m : Nat) v, m < j + 1 → W[m]? = some v → v < x) := Lib.hid fun m v hm hv => by
          by_cases e : m = j
          · rw [e, HG.out] at hv; cases hv; exact hlt2
          · exact HL.out m v (by omega) hv
        go_wp2_with fail
        go_roundg (W.length - (j + 1))
        case rel => exact ⟨j + 1, Lib.hid ⟨by omega, by omega⟩, by go_num, (by repeat (with_reducible first | assumption | exact grA | apply grB | apply grC | apply grD | refine grE ?_ (by omega) _ | refine grF ?_ (by omega) _ _)), HL2⟩
        case measure => omega
      · have HL2 : Hid (∀ v, W[j]? = some v → ¬ v < x) := Lib.hid fun v hv => by
          rw [HG.out] at hv; cases hv; exact hlt2
        have hpl := putL_at W x j (by omega) HL.out HL2.out
        by_cases hyx : y = x
        · have hfin : putL W x = W := by rw [hpl, if_pos (by rw [HG.out, hyx])]
          have HFIN := Lib.hid hfin
          subst hyx
          clear hpl hfin
          go_wp2_with fail
          go_ret
          exact ⟨_, rfl, (by repeat (with_reducible first | assumption | exact grA | apply grB | apply grC | apply grD | refine grE ?_ (by omega) _ | refine grF ?_ (by omega) _ _)), by rw [HFIN.out]; exact slS_left (HS.out.grows (by repeat (with_reducible first | assumption | exact grA | apply grB | apply grC | apply grD | refine grE ?_ (by omega) _ | refine grF ?_ (by omega) _ _)) fun _ _ _ h => h)⟩
        · have hfin : putL W x = W.take j ++ ([x] ++ W.drop j) := by rw [hpl, if_neg (by rw [HG.out]; intro e; cases e; exact hyx rfl)]
          have HFIN := Lib.hid hfin
          clear hpl hfin
          have hgr : wr.grows wr := World.grows.refl
          go_upto_region 6 with fail
          refine wp_region_plus_seq (by kernel_rfl) (by kernel_rfl) (fun x0 => ?_)
          repeat (any_goals (first | (refine wpSeqL_free rfl ?_; first | (go_big_quiet_skip; refine wpQuiet_nil ?_) | (go_big_quiet_step (fail); refine wpQuiet_nil ?_) | (refine wpQuiet_step (fun K hK => ?_); go_simp; split <;> (refine hK _ ?_; clear hK K; refine wpQuiet_nil ?_))) | (refine wpSeqL_link rfl (fun K hK => ?_); go_simp; first | first | (refine hK _ _ (by show World.grows _ _; repeat (first | assumption | exact grA | apply grB | apply grC | apply grD)) ?_; clear hK K) | ((fail); refine ⟨_, rfl, hK _ _ (by show World.grows _ _; repeat (first | assumption | exact grA | apply grB | apply grC | apply grD)) ?_⟩; clear hK K) | (split <;> (first | (refine hK _ _ (by show World.grows _ _; repeat (first | assumption | exact grA | apply grB | apply grC | apply grD)) ?_; clear hK K) | ((fail); refine ⟨_, rfl, hK _ _ (by show World.grows _ _; repeat (first | assumption | exact grA | apply grB | apply grC | apply grD)) ?_⟩; clear hK K))))))
          refine wpSeqL_appFull rfl rfl (.tmp 38) (.tmp 41) 26 rfl 3 Try.underlying26 (by kernel_rfl) (l := [x]) (r := W.drop j) rfl (SlAt_one (e := 3) (fr := (0, 0)) (by simp [go_sem])) rfl (IntsAt.grow (IntsAt.post HI.out (by omega)) (by repeat (with_reducible first | assumption | exact grA | apply grB | apply grC | apply grD | refine grE ?_ (by omega) _ | refine grF ?_ (by omega) _ _))) (by simp; omega) ?_
          intro A' n' c' w' hn' hg' hI'
          refine ⟨World.grows.trans (a := wr) (by repeat (with_reducible first | assumption | exact grA | apply grB | apply grC | apply grD | refine grE ?_ (by omega) _ | refine grF ?_ (by omega) _ _)) hg', ?_⟩
          have hgr' : wr.grows w' := World.grows.trans (by repeat (with_reducible first | assumption | exact grA | apply grB | apply grC | apply grD | refine grE ?_ (by omega) _ | refine grF ?_ (by omega) _ _)) hg'
          have hgw' : w.grows w' := hg.trans hgr'
          go_simp
          refine wpSeqL_appFullS (T := S) rfl rfl (.tmp 36) (.tmp 42) 26 rfl 3 Try.underlying26 (by kernel_rfl) (l := W.take j) (r := [x] ++ W.drop j) rfl (slS_pre HS.out (by omega) (hg.trans hgr')) rfl hI'.out (by simp; omega) ?_
          intro A2 n2 c2 w2 hn2 hg2 hI2
          refine ⟨World.grows.trans (a := wr) hgr' hg2, ?_⟩
          have hgw2 : w.grows w2 := hgw'.trans hg2
          go_simp
          repeat (any_goals (first | (refine wpSeqL_free rfl ?_; first | (go_big_quiet_skip; refine wpQuiet_nil ?_) | (go_big_quiet_step (fail); refine wpQuiet_nil ?_) | (refine wpQuiet_step (fun K hK => ?_); go_simp; split <;> (refine hK _ ?_; clear hK K; refine wpQuiet_nil ?_))) | (refine wpSeqL_link rfl (fun K hK => ?_); go_simp; first | first | (refine hK _ _ (by show World.grows _ _; repeat (first | assumption | exact grA | apply grB | apply grC | apply grD)) ?_; clear hK K) | ((fail); refine ⟨_, rfl, hK _ _ (by show World.grows _ _; repeat (first | assumption | exact grA | apply grB | apply grC | apply grD)) ?_⟩; clear hK K) | (split <;> (first | (refine hK _ _ (by show World.grows _ _; repeat (first | assumption | exact grA | apply grB | apply grC | apply grD)) ?_; clear hK K) | ((fail); refine ⟨_, rfl, hK _ _ (by show World.grows _ _; repeat (first | assumption | exact grA | apply grB | apply grC | apply grD)) ?_⟩; clear hK K))))))
          refine wpSeqL_end ?_
          go_wp2_with fail
          go_ret
          exact ⟨_, rfl, hgw2, by rw [HFIN.out]; exact slS_weak (w := w) hI2.out (hgw'.below.size)⟩
    · obtain rfl : j = W.length := by omega
      have n5 : ¬ (W.length : Int) < (W.length : Int) := by omega
      have hpl := putL_at W x W.length (Nat.le_refl _) HL.out (fun v hv => by rw [List.getElem?_eq_none (Nat.le_refl _)] at hv; cases hv)
      have hfin : putL W x = W ++ [x] := by rw [hpl, if_neg (by rw [List.getElem?_eq_none (Nat.le_refl _)]; simp)]; simp
      have HFIN := Lib.hid hfin
      clear hpl hfin
      go_upto_region 6 with fail
      rcases n3 with _ | ⟨g3, off3, sp3⟩
      · refine wp_region_plus_seq (by kernel_rfl) (by kernel_rfl) (fun x0 => ?_)
        repeat (any_goals (first | (refine wpSeqL_free rfl ?_; first | (go_big_quiet_skip; refine wpQuiet_nil ?_) | (go_big_quiet_step (fail); refine wpQuiet_nil ?_) | (refine wpQuiet_step (fun K hK => ?_); go_simp; split <;> (refine hK _ ?_; clear hK K; refine wpQuiet_nil ?_))) | (refine wpSeqL_link rfl (fun K hK => ?_); go_simp; first | first | (refine hK _ _ (by show World.grows _ _; repeat (first | assumption | exact grA | apply grB | apply grC | apply grD)) ?_; clear hK K) | ((fail); refine ⟨_, rfl, hK _ _ (by show World.grows _ _; repeat (first | assumption | exact grA | apply grB | apply grC | apply grD)) ?_⟩; clear hK K) | (split <;> (first | (refine hK _ _ (by show World.grows _ _; repeat (first | assumption | exact grA | apply grB | apply grC | apply grD)) ?_; clear hK K) | ((fail); refine ⟨_, rfl, hK _ _ (by show World.grows _ _; repeat (first | assumption | exact grA | apply grB | apply grC | apply grD)) ?_⟩; clear hK K))))))
        have hI' := Lib.hid (SlAt_one (w := ((wr.plus x0).alloc (.cells #[.int .i64 x] 3))) (g := (wr.plus x0).heap.size) (e := 3) (fr := (0, 0)) (x := x) (by simp [go_sem]))
        have hgr' : wr.grows ((wr.plus x0).alloc (.cells #[.int .i64 x] 3)) := (by repeat (with_reducible first | assumption | exact grA | apply grB | apply grC | apply grD | refine grE ?_ (by omega) _ | refine grF ?_ (by omega) _ _))
        have hgw' := hg.trans hgr'
        refine wpSeqL_appFullS (T := S) rfl rfl (.tmp 36) (.tmp 42) 26 rfl 3 Try.underlying26 (by kernel_rfl) (l := W) (r := [x]) rfl (by have := slS_pre HS.out (Nat.le_refl _) (hg.trans hgr'); rw [List.take_length] at this; exact this) rfl (by simpa using hI'.out) (by simp; omega) ?_
        intro A2 n2 c2 w2 hn2 hg2 hI2
        refine ⟨World.grows.trans (a := wr) hgr' hg2, ?_⟩
        have hgw2 : w.grows w2 := hgw'.trans hg2
        go_simp
        repeat (any_goals (first | (refine wpSeqL_free rfl ?_; first | (go_big_quiet_skip; refine wpQuiet_nil ?_) | (go_big_quiet_step (fail); refine wpQuiet_nil ?_) | (refine wpQuiet_step (fun K hK => ?_); go_simp; split <;> (refine hK _ ?_; clear hK K; refine wpQuiet_nil ?_))) | (refine wpSeqL_link rfl (fun K hK => ?_); go_simp; first | first | (refine hK _ _ (by show World.grows _ _; repeat (first | assumption | exact grA | apply grB | apply grC | apply grD)) ?_; clear hK K) | ((fail); refine ⟨_, rfl, hK _ _ (by show World.grows _ _; repeat (first | assumption | exact grA | apply grB | apply grC | apply grD)) ?_⟩; clear hK K) | (split <;> (first | (refine hK _ _ (by show World.grows _ _; repeat (first | assumption | exact grA | apply grB | apply grC | apply grD)) ?_; clear hK K) | ((fail); refine ⟨_, rfl, hK _ _ (by show World.grows _ _; repeat (first | assumption | exact grA | apply grB | apply grC | apply grD)) ?_⟩; clear hK K))))))
        refine wpSeqL_end ?_
        go_wp2_with fail
        go_ret
        exact ⟨_, rfl, hgw2, by rw [HFIN.out]; exact slS_weak (w := w) hI2.out (hgw'.below.size)⟩
      · by_cases hcw : c3 = W.length
        · refine wp_region_plus_seq (by kernel_rfl) (by kernel_rfl) (fun x0 => ?_)
          repeat (any_goals (first | (refine wpSeqL_free rfl ?_; first | (go_big_quiet_skip; refine wpQuiet_nil ?_) | (go_big_quiet_step (fail); refine wpQuiet_nil ?_) | (refine wpQuiet_step (fun K hK => ?_); go_simp; split <;> (refine hK _ ?_; clear hK K; refine wpQuiet_nil ?_))) | (refine wpSeqL_link rfl (fun K hK => ?_); go_simp; first | first | (refine hK _ _ (by show World.grows _ _; repeat (first | assumption | exact grA | apply grB | apply grC | apply grD)) ?_; clear hK K) | ((fail); refine ⟨_, rfl, hK _ _ (by show World.grows _ _; repeat (first | assumption | exact grA | apply grB | apply grC | apply grD)) ?_⟩; clear hK K) | (split <;> (first | (refine hK _ _ (by show World.grows _ _; repeat (first | assumption | exact grA | apply grB | apply grC | apply grD)) ?_; clear hK K) | ((fail); refine ⟨_, rfl, hK _ _ (by show World.grows _ _; repeat (first | assumption | exact grA | apply grB | apply grC | apply grD)) ?_⟩; clear hK K))))))
          have hI' := Lib.hid (SlAt_one (w := ((wr.plus x0).alloc (.cells #[.int .i64 x] 3))) (g := (wr.plus x0).heap.size) (e := 3) (fr := (0, 0)) (x := x) (by simp [go_sem]))
          have hgr' : wr.grows ((wr.plus x0).alloc (.cells #[.int .i64 x] 3)) := (by repeat (with_reducible first | assumption | exact grA | apply grB | apply grC | apply grD | refine grE ?_ (by omega) _ | refine grF ?_ (by omega) _ _))
          have hgw' := hg.trans hgr'
          refine wpSeqL_appFullS (T := S) rfl rfl (.tmp 36) (.tmp 42) 26 rfl 3 Try.underlying26 (by kernel_rfl) (l := W) (r := [x]) rfl (by have := slS_pre HS.out (Nat.le_refl _) (hg.trans hgr'); rw [List.take_length] at this; exact this) rfl (by simpa using hI'.out) (by simp; omega) ?_
          intro A2 n2 c2 w2 hn2 hg2 hI2
          refine ⟨World.grows.trans (a := wr) hgr' hg2, ?_⟩
          have hgw2 : w.grows w2 := hgw'.trans hg2
          go_simp
          repeat (any_goals (first | (refine wpSeqL_free rfl ?_; first | (go_big_quiet_skip; refine wpQuiet_nil ?_) | (go_big_quiet_step (fail); refine wpQuiet_nil ?_) | (refine wpQuiet_step (fun K hK => ?_); go_simp; split <;> (refine hK _ ?_; clear hK K; refine wpQuiet_nil ?_))) | (refine wpSeqL_link rfl (fun K hK => ?_); go_simp; first | first | (refine hK _ _ (by show World.grows _ _; repeat (first | assumption | exact grA | apply grB | apply grC | apply grD)) ?_; clear hK K) | ((fail); refine ⟨_, rfl, hK _ _ (by show World.grows _ _; repeat (first | assumption | exact grA | apply grB | apply grC | apply grD)) ?_⟩; clear hK K) | (split <;> (first | (refine hK _ _ (by show World.grows _ _; repeat (first | assumption | exact grA | apply grB | apply grC | apply grD)) ?_; clear hK K) | ((fail); refine ⟨_, rfl, hK _ _ (by show World.grows _ _; repeat (first | assumption | exact grA | apply grB | apply grC | apply grD)) ?_⟩; clear hK K))))))
          refine wpSeqL_end ?_
          go_wp2_with fail
          go_ret
          exact ⟨_, rfl, hgw2, by rw [HFIN.out]; exact slS_weak (w := w) hI2.out (hgw'.below.size)⟩
        · refine wp_region_plus_seq (by kernel_rfl) (by kernel_rfl) (fun x0 => ?_)
          repeat (any_goals (first | (refine wpSeqL_free rfl ?_; first | (go_big_quiet_skip; refine wpQuiet_nil ?_) | (go_big_quiet_step (fail); refine wpQuiet_nil ?_) | (refine wpQuiet_step (fun K hK => ?_); go_simp; split <;> (refine hK _ ?_; clear hK K; refine wpQuiet_nil ?_))) | (refine wpSeqL_link rfl (fun K hK => ?_); go_simp; first | first | (refine hK _ _ (by show World.grows _ _; repeat (first | assumption | exact grA | apply grB | apply grC | apply grD)) ?_; clear hK K) | ((fail); refine ⟨_, rfl, hK _ _ (by show World.grows _ _; repeat (first | assumption | exact grA | apply grB | apply grC | apply grD)) ?_⟩; clear hK K) | (split <;> (first | (refine hK _ _ (by show World.grows _ _; repeat (first | assumption | exact grA | apply grB | apply grC | apply grD)) ?_; clear hK K) | ((fail); refine ⟨_, rfl, hK _ _ (by show World.grows _ _; repeat (first | assumption | exact grA | apply grB | apply grC | apply grD)) ?_⟩; clear hK K))))))
          have hI' := Lib.hid (SlAt_one (w := ((wr.plus x0).alloc (.cells #[.int .i64 x] 3))) (g := (wr.plus x0).heap.size) (e := 3) (fr := (0, 0)) (x := x) (by simp [go_sem]))
          have hgr' : wr.grows ((wr.plus x0).alloc (.cells #[.int .i64 x] 3)) := (by repeat (with_reducible first | assumption | exact grA | apply grB | apply grC | apply grD | refine grE ?_ (by omega) _ | refine grF ?_ (by omega) _ _))
          have hgw' := hg.trans hgr'
          refine wpSeqL_appFullS (T := S) rfl rfl (.tmp 36) (.tmp 42) 26 rfl 3 Try.underlying26 (by kernel_rfl) (l := W) (r := [x]) rfl (by have := slS_pre HS.out (Nat.le_refl _) (hg.trans hgr'); rw [List.take_length] at this; exact this) rfl (by simpa using hI'.out) (by simp; omega) ?_
          intro A2 n2 c2 w2 hn2 hg2 hI2
          refine ⟨World.grows.trans (a := wr) hgr' hg2, ?_⟩
          have hgw2 : w.grows w2 := hgw'.trans hg2
          go_simp
          repeat (any_goals (first | (refine wpSeqL_free rfl ?_; first | (go_big_quiet_skip; refine wpQuiet_nil ?_) | (go_big_quiet_step (fail); refine wpQuiet_nil ?_) | (refine wpQuiet_step (fun K hK => ?_); go_simp; split <;> (refine hK _ ?_; clear hK K; refine wpQuiet_nil ?_))) | (refine wpSeqL_link rfl (fun K hK => ?_); go_simp; first | first | (refine hK _ _ (by show World.grows _ _; repeat (first | assumption | exact grA | apply grB | apply grC | apply grD)) ?_; clear hK K) | ((fail); refine ⟨_, rfl, hK _ _ (by show World.grows _ _; repeat (first | assumption | exact grA | apply grB | apply grC | apply grD)) ?_⟩; clear hK K) | (split <;> (first | (refine hK _ _ (by show World.grows _ _; repeat (first | assumption | exact grA | apply grB | apply grC | apply grD)) ?_; clear hK K) | ((fail); refine ⟨_, rfl, hK _ _ (by show World.grows _ _; repeat (first | assumption | exact grA | apply grB | apply grC | apply grD)) ?_⟩; clear hK K))))))
          refine wpSeqL_end ?_
          go_wp2_with fail
          go_ret
          exact ⟨_, rfl, hgw2, by rw [HFIN.out]; exact slS_weak (w := w) hI2.out (hgw'.below.size)⟩
end Go.Proofs.Ytjfccilmlmimaaa

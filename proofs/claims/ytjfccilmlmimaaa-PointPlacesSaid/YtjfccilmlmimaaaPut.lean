/- WALKS over jalousielaw24: a number put among rising ones, once; rows of numbers compared. No condition but that the numbers stand in memory and are not too many. -/
import Derived.Test.YtjfccilmlmimaaaIntsApp
import Derived.Test.YtjfccilmlmimaaaOps
import Derived.Test.YtjfccilmlmimaaaOpsE
import Derived.Test.YtjfccilmlmimaaaMa
set_option linter.unusedSimpArgs false
set_option linter.unusedVariables false
namespace Go
open Go.RowKit
/-- a number put among rising ones, once -/
def putL : List Int → Int → List Int
  | [], x => [x]
  | y :: r, x => if y < x then y :: putL r x else if y = x then y :: r else x :: y :: r
theorem putL_at : ∀ (l : List Int) (x : Int) (k : Nat), k ≤ l.length → (∀ j v, j < k → l[j]? = some v → v < x) → (∀ v, l[k]? = some v → ¬ v < x) → putL l x = if l[k]? = some x then l else l.take k ++ ([x] ++ l.drop k)
  | [], x, k, hk, _, _ => by
    obtain rfl : k = 0 := by simpa using hk
    rfl
  | y :: r, x, 0, _, _, h2 => by
    have := h2 y rfl
    unfold putL
    rw [if_neg this]
    by_cases e : y = x
    · rw [if_pos e, if_pos (by simp [e])]
    · rw [if_neg e, if_neg (by simpa using e)]; rfl
  | y :: r, x, k + 1, hk, h1, h2 => by
    have h0 := h1 0 y (by omega) rfl
    unfold putL
    rw [if_pos h0, putL_at r x k (by simpa using hk) (fun j v hj hv => h1 (j + 1) v (by omega) (by simpa using hv)) (fun v hv => h2 v (by simpa using hv))]
    simp only [List.getElem?_cons_succ, List.take_succ_cons, List.drop_succ_cons]
    split
    · rfl
    · simp
theorem putL_mem : ∀ (l : List Int) (x z : Int), z ∈ putL l x ↔ z = x ∨ z ∈ l
  | [], x, z => by simp [putL]
  | y :: r, x, z => by
    unfold putL
    split
    · rw [List.mem_cons, putL_mem r x z, List.mem_cons]
      constructor
      · rintro (h | h | h) <;> simp [h]
      · rintro (h | h | h) <;> simp [h]
    · split
      · rename_i h; subst h; simp
      · simp
theorem putL_up : ∀ (l : List Int) (x : Int), l.Pairwise (· < ·) → (putL l x).Pairwise (· < ·)
  | [], x, _ => by simp [putL]
  | y :: r, x, h => by
    obtain ⟨h1, h2⟩ := List.pairwise_cons.1 h
    unfold putL
    split
    · rename_i hy
      refine List.pairwise_cons.2 ⟨fun z hz => ?_, putL_up r x h2⟩
      rcases (putL_mem r x z).1 hz with rfl | hz
      · exact hy
      · exact h1 z hz
    · split
      · exact h
      · refine List.pairwise_cons.2 ⟨fun z hz => ?_, h⟩
        rcases List.mem_cons.1 hz with rfl | hz
        · omega
        · have := h1 z hz; omega
theorem putL_len (l : List Int) (x : Int) : (putL l x).length ≤ l.length + 1 := by
  induction l with
  | nil => simp [putL]
  | cons y r ih =>
    unfold putL
    split
    · simpa using ih
    · split <;> simp
/-- rising lists with the same members are one -/
theorem up_uniq {a b : List Int} (ha : a.Pairwise (· < ·)) (hb : b.Pairwise (· < ·)) (h : ∀ z, z ∈ a ↔ z ∈ b) : a = b := by
  have nd : ∀ {l : List Int}, l.Pairwise (· < ·) → l.Nodup := fun h => h.imp fun hab e => by omega
  exact List.Perm.eq_of_pairwise (le := (· < ·)) (fun a b _ _ h1 h2 => by omega) ha hb ((List.perm_ext_iff_of_nodup (nd ha) (nd hb)).2 h)
end Go
namespace Go.Proofs.Ytjfccilmlmimaaa
open Go.RowKit

set_option maxRecDepth 100000 in
set_option maxHeartbeats 8000000 in
theorem put_any (v : Value) (W : List Int) (x : Int) (w : World) (hI : IntsAt w v W) (hN : W.length ≤ 1048576) : Calls Try.prog 22 #[v, .int .i64 x] w fun e w' => ∃ v', e = .returned v' ∧ w.grows w' ∧ IntsAt w' v' (putL W x) := by
  obtain ⟨n3, c3, rfl, hc3, hc4⟩ := hI.len
  have HI0 := Lib.hid hI
  clear hI
  go_enter Try.func22, Try.ntmps22
  go_wp2_with fail
  go_loopg [5] W.length (fun gn v5 wj => ∃ j : Nat, Hid (gn + j = W.length ∧ j ≤ W.length) ∧ v5 = .int .i64 j ∧ w.grows wj ∧ Hid (∀ (m : Nat) v, m < j → W[m]? = some v → v < x))
  case atStart => exact ⟨0, Lib.hid ⟨rfl, Nat.zero_le _⟩, by go_num, (by repeat (with_reducible first | assumption | exact grA | apply grB | apply grC | apply grD | refine grE ?_ (by omega) _ | refine grF ?_ (by omega) _ _)), Lib.hid fun m v h => by omega⟩
  case round =>
    obtain ⟨j, HJ, rfl, hg, HL⟩ := hrel
    obtain ⟨j1, j2⟩ := HJ.out
    have HI := Lib.hid (HI0.out.grow hg)
    by_cases hjl : j < W.length
    · have hgt := List.getElem?_eq_getElem hjl
      obtain ⟨a', c', e', _, _, hcell⟩ := HI.out
      injection e' with e1' e2' e3'
      subst e1'; subst e3'
      clear e2'
      rcases hcell with hnil | ⟨g3, off3, rfl, _, hcell⟩
      · rw [hnil] at hjl; cases hjl
      obtain ⟨cs3, _, el3, rfl⟩ := hcell j _ hgt
      have c0 := el3.cell (j := 0) rfl
      rw [World.cell?_row, Nat.add_zero, Nat.mul_one] at c0
      have z3 := lt_sz el3.lt
      have n5 : (j : Int) < (W.length : Int) := by omega
      have HG := Lib.hid hgt
      clear hcell el3 hgt
      generalize W[j] = y at *
      by_cases hlt2 : y < x
      · have HL2 : Hid (∀ (m : Nat) v, m < j + 1 → W[m]? = some v → v < x) := Lib.hid fun m v hm hv => by
          by_cases e : m = j
          · rw [e, HG.out] at hv; cases hv; exact hlt2
          · exact HL.out m v (by omega) hv
        go_wp2_with fail
        go_roundg (W.length - (j + 1))
        case rel => exact ⟨j + 1, Lib.hid ⟨by omega, by omega⟩, by go_num, (by repeat (with_reducible first | assumption | exact grA | apply grB | apply grC | apply grD | refine grE ?_ (by omega) _ | refine grF ?_ (by omega) _ _)), HL2⟩
        case measure => omega
      · have HL2 : Hid (∀ v, W[j]? = some v → ¬ v < x) := Lib.hid fun v hv => by
          rw [HG.out] at hv; cases hv; exact hlt2
        have hpl := putL_at W x j (by omega) HL.out HL2.out
        by_cases hyx : y = x
        · have hfin : putL W x = W := by rw [hpl, if_pos (by rw [HG.out, hyx])]
          have HFIN := Lib.hid hfin
          subst hyx
          clear hpl hfin
          go_wp2_with fail
          go_ret
          exact ⟨_, rfl, (by repeat (with_reducible first | assumption | exact grA | apply grB | apply grC | apply grD | refine grE ?_ (by omega) _ | refine grF ?_ (by omega) _ _)), by rw [HFIN.out]; exact HI.out.grow (by repeat (with_reducible first | assumption | exact grA | apply grB | apply grC | apply grD | refine grE ?_ (by omega) _ | refine grF ?_ (by omega) _ _))⟩
        · have hfin : putL W x = W.take j ++ ([x] ++ W.drop j) := by rw [hpl, if_neg (by rw [HG.out]; intro e; cases e; exact hyx rfl)]
          have HFIN := Lib.hid hfin
          clear hpl hfin
          have hgr : wr.grows wr := World.grows.refl
          go_upto_region 6 with fail
          refine wp_region_plus_seq (by kernel_rfl) (by kernel_rfl) (fun x0 => ?_)
          repeat (any_goals (first | (refine wpSeqL_free rfl ?_; first | (go_big_quiet_skip; refine wpQuiet_nil ?_) | (go_big_quiet_step (fail); refine wpQuiet_nil ?_) | (refine wpQuiet_step (fun K hK => ?_); go_simp; split <;> (refine hK _ ?_; clear hK K; refine wpQuiet_nil ?_))) | (refine wpSeqL_link rfl (fun K hK => ?_); go_simp; first | first | (refine hK _ _ (by show World.grows _ _; repeat (first | assumption | exact grA | apply grB | apply grC | apply grD)) ?_; clear hK K) | ((fail); refine ⟨_, rfl, hK _ _ (by show World.grows _ _; repeat (first | assumption | exact grA | apply grB | apply grC | apply grD)) ?_⟩; clear hK K) | (split <;> (first | (refine hK _ _ (by show World.grows _ _; repeat (first | assumption | exact grA | apply grB | apply grC | apply grD)) ?_; clear hK K) | ((fail); refine ⟨_, rfl, hK _ _ (by show World.grows _ _; repeat (first | assumption | exact grA | apply grB | apply grC | apply grD)) ?_⟩; clear hK K))))))
          refine wpSeqL_appFull rfl rfl (.tmp 38) (.tmp 41) 26 rfl 3 Try.underlying26 (by kernel_rfl) (l := [x]) (r := W.drop j) rfl (SlAt_one (e := 3) (fr := (0, 0)) (by simp [go_sem])) rfl (IntsAt.grow (IntsAt.post HI.out (by omega)) (by repeat (with_reducible first | assumption | exact grA | apply grB | apply grC | apply grD | refine grE ?_ (by omega) _ | refine grF ?_ (by omega) _ _))) (by simp; omega) ?_
          intro A' n' c' w' hn' hg' hI'
          refine ⟨World.grows.trans (a := wr) (by repeat (with_reducible first | assumption | exact grA | apply grB | apply grC | apply grD | refine grE ?_ (by omega) _ | refine grF ?_ (by omega) _ _)) hg', ?_⟩
          have hgr' : wr.grows w' := World.grows.trans (by repeat (with_reducible first | assumption | exact grA | apply grB | apply grC | apply grD | refine grE ?_ (by omega) _ | refine grF ?_ (by omega) _ _)) hg'
          have hgw' : w.grows w' := hg.trans hgr'
          go_simp
          refine wpSeqL_appFull rfl rfl (.tmp 36) (.tmp 42) 26 rfl 3 Try.underlying26 (by kernel_rfl) (l := W.take j) (r := [x] ++ W.drop j) rfl (IntsAt.grow (IntsAt.pre HI.out (by omega)) hgr') rfl hI'.out (by simp; omega) ?_
          intro A2 n2 c2 w2 hn2 hg2 hI2
          refine ⟨World.grows.trans (a := wr) hgr' hg2, ?_⟩
          have hgw2 : w.grows w2 := hgw'.trans hg2
          go_simp
          repeat (any_goals (first | (refine wpSeqL_free rfl ?_; first | (go_big_quiet_skip; refine wpQuiet_nil ?_) | (go_big_quiet_step (fail); refine wpQuiet_nil ?_) | (refine wpQuiet_step (fun K hK => ?_); go_simp; split <;> (refine hK _ ?_; clear hK K; refine wpQuiet_nil ?_))) | (refine wpSeqL_link rfl (fun K hK => ?_); go_simp; first | first | (refine hK _ _ (by show World.grows _ _; repeat (first | assumption | exact grA | apply grB | apply grC | apply grD)) ?_; clear hK K) | ((fail); refine ⟨_, rfl, hK _ _ (by show World.grows _ _; repeat (first | assumption | exact grA | apply grB | apply grC | apply grD)) ?_⟩; clear hK K) | (split <;> (first | (refine hK _ _ (by show World.grows _ _; repeat (first | assumption | exact grA | apply grB | apply grC | apply grD)) ?_; clear hK K) | ((fail); refine ⟨_, rfl, hK _ _ (by show World.grows _ _; repeat (first | assumption | exact grA | apply grB | apply grC | apply grD)) ?_⟩; clear hK K))))))
          refine wpSeqL_end ?_
          go_wp2_with fail
          go_ret
          exact ⟨_, rfl, hgw2, by rw [HFIN.out]; exact hI2.out⟩
    · obtain rfl : j = W.length := by omega
      have n5 : ¬ (W.length : Int) < (W.length : Int) := by omega
      have hpl := putL_at W x W.length (Nat.le_refl _) HL.out (fun v hv => by rw [List.getElem?_eq_none (Nat.le_refl _)] at hv; cases hv)
      have hfin : putL W x = W ++ [x] := by rw [hpl, if_neg (by rw [List.getElem?_eq_none (Nat.le_refl _)]; simp)]; simp
      have HFIN := Lib.hid hfin
      clear hpl hfin
      go_upto_region 6 with fail
      rcases n3 with _ | ⟨g3, off3, sp3⟩
      · refine wp_region_plus_seq (by kernel_rfl) (by kernel_rfl) (fun x0 => ?_)
        repeat (any_goals (first | (refine wpSeqL_free rfl ?_; first | (go_big_quiet_skip; refine wpQuiet_nil ?_) | (go_big_quiet_step (fail); refine wpQuiet_nil ?_) | (refine wpQuiet_step (fun K hK => ?_); go_simp; split <;> (refine hK _ ?_; clear hK K; refine wpQuiet_nil ?_))) | (refine wpSeqL_link rfl (fun K hK => ?_); go_simp; first | first | (refine hK _ _ (by show World.grows _ _; repeat (first | assumption | exact grA | apply grB | apply grC | apply grD)) ?_; clear hK K) | ((fail); refine ⟨_, rfl, hK _ _ (by show World.grows _ _; repeat (first | assumption | exact grA | apply grB | apply grC | apply grD)) ?_⟩; clear hK K) | (split <;> (first | (refine hK _ _ (by show World.grows _ _; repeat (first | assumption | exact grA | apply grB | apply grC | apply grD)) ?_; clear hK K) | ((fail); refine ⟨_, rfl, hK _ _ (by show World.grows _ _; repeat (first | assumption | exact grA | apply grB | apply grC | apply grD)) ?_⟩; clear hK K))))))
        have hI' := Lib.hid (SlAt_one (w := ((wr.plus x0).alloc (.cells #[.int .i64 x] 3))) (g := (wr.plus x0).heap.size) (e := 3) (fr := (0, 0)) (x := x) (by simp [go_sem]))
        have hgr' : wr.grows ((wr.plus x0).alloc (.cells #[.int .i64 x] 3)) := (by repeat (with_reducible first | assumption | exact grA | apply grB | apply grC | apply grD | refine grE ?_ (by omega) _ | refine grF ?_ (by omega) _ _))
        have hgw' := hg.trans hgr'
        refine wpSeqL_appFull rfl rfl (.tmp 36) (.tmp 42) 26 rfl 3 Try.underlying26 (by kernel_rfl) (l := W) (r := [x]) rfl (by have := IntsAt.grow (IntsAt.pre HI.out (Nat.le_refl _)) hgr'; rw [List.take_length] at this; exact this) rfl (by simpa using hI'.out) (by simp; omega) ?_
        intro A2 n2 c2 w2 hn2 hg2 hI2
        refine ⟨World.grows.trans (a := wr) hgr' hg2, ?_⟩
        have hgw2 : w.grows w2 := hgw'.trans hg2
        go_simp
        repeat (any_goals (first | (refine wpSeqL_free rfl ?_; first | (go_big_quiet_skip; refine wpQuiet_nil ?_) | (go_big_quiet_step (fail); refine wpQuiet_nil ?_) | (refine wpQuiet_step (fun K hK => ?_); go_simp; split <;> (refine hK _ ?_; clear hK K; refine wpQuiet_nil ?_))) | (refine wpSeqL_link rfl (fun K hK => ?_); go_simp; first | first | (refine hK _ _ (by show World.grows _ _; repeat (first | assumption | exact grA | apply grB | apply grC | apply grD)) ?_; clear hK K) | ((fail); refine ⟨_, rfl, hK _ _ (by show World.grows _ _; repeat (first | assumption | exact grA | apply grB | apply grC | apply grD)) ?_⟩; clear hK K) | (split <;> (first | (refine hK _ _ (by show World.grows _ _; repeat (first | assumption | exact grA | apply grB | apply grC | apply grD)) ?_; clear hK K) | ((fail); refine ⟨_, rfl, hK _ _ (by show World.grows _ _; repeat (first | assumption | exact grA | apply grB | apply grC | apply grD)) ?_⟩; clear hK K))))))
        refine wpSeqL_end ?_
        go_wp2_with fail
        go_ret
        exact ⟨_, rfl, hgw2, by rw [HFIN.out]; exact hI2.out⟩
      · by_cases hcw : c3 = W.length
        · refine wp_region_plus_seq (by kernel_rfl) (by kernel_rfl) (fun x0 => ?_)
          repeat (any_goals (first | (refine wpSeqL_free rfl ?_; first | (go_big_quiet_skip; refine wpQuiet_nil ?_) | (go_big_quiet_step (fail); refine wpQuiet_nil ?_) | (refine wpQuiet_step (fun K hK => ?_); go_simp; split <;> (refine hK _ ?_; clear hK K; refine wpQuiet_nil ?_))) | (refine wpSeqL_link rfl (fun K hK => ?_); go_simp; first | first | (refine hK _ _ (by show World.grows _ _; repeat (first | assumption | exact grA | apply grB | apply grC | apply grD)) ?_; clear hK K) | ((fail); refine ⟨_, rfl, hK _ _ (by show World.grows _ _; repeat (first | assumption | exact grA | apply grB | apply grC | apply grD)) ?_⟩; clear hK K) | (split <;> (first | (refine hK _ _ (by show World.grows _ _; repeat (first | assumption | exact grA | apply grB | apply grC | apply grD)) ?_; clear hK K) | ((fail); refine ⟨_, rfl, hK _ _ (by show World.grows _ _; repeat (first | assumption | exact grA | apply grB | apply grC | apply grD)) ?_⟩; clear hK K))))))
          have hI' := Lib.hid (SlAt_one (w := ((wr.plus x0).alloc (.cells #[.int .i64 x] 3))) (g := (wr.plus x0).heap.size) (e := 3) (fr := (0, 0)) (x := x) (by simp [go_sem]))
          have hgr' : wr.grows ((wr.plus x0).alloc (.cells #[.int .i64 x] 3)) := (by repeat (with_reducible first | assumption | exact grA | apply grB | apply grC | apply grD | refine grE ?_ (by omega) _ | refine grF ?_ (by omega) _ _))
          have hgw' := hg.trans hgr'
          refine wpSeqL_appFull rfl rfl (.tmp 36) (.tmp 42) 26 rfl 3 Try.underlying26 (by kernel_rfl) (l := W) (r := [x]) rfl (by have := IntsAt.grow (IntsAt.pre HI.out (Nat.le_refl _)) hgr'; rw [List.take_length] at this; exact this) rfl (by simpa using hI'.out) (by simp; omega) ?_
          intro A2 n2 c2 w2 hn2 hg2 hI2
          refine ⟨World.grows.trans (a := wr) hgr' hg2, ?_⟩
          have hgw2 : w.grows w2 := hgw'.trans hg2
          go_simp
          repeat (any_goals (first | (refine wpSeqL_free rfl ?_; first | (go_big_quiet_skip; refine wpQuiet_nil ?_) | (go_big_quiet_step (fail); refine wpQuiet_nil ?_) | (refine wpQuiet_step (fun K hK => ?_); go_simp; split <;> (refine hK _ ?_; clear hK K; refine wpQuiet_nil ?_))) | (refine wpSeqL_link rfl (fun K hK => ?_); go_simp; first | first | (refine hK _ _ (by show World.grows _ _; repeat (first | assumption | exact grA | apply grB | apply grC | apply grD)) ?_; clear hK K) | ((fail); refine ⟨_, rfl, hK _ _ (by show World.grows _ _; repeat (first | assumption | exact grA | apply grB | apply grC | apply grD)) ?_⟩; clear hK K) | (split <;> (first | (refine hK _ _ (by show World.grows _ _; repeat (first | assumption | exact grA | apply grB | apply grC | apply grD)) ?_; clear hK K) | ((fail); refine ⟨_, rfl, hK _ _ (by show World.grows _ _; repeat (first | assumption | exact grA | apply grB | apply grC | apply grD)) ?_⟩; clear hK K))))))
          refine wpSeqL_end ?_
          go_wp2_with fail
          go_ret
          exact ⟨_, rfl, hgw2, by rw [HFIN.out]; exact hI2.out⟩
        · refine wp_region_plus_seq (by kernel_rfl) (by kernel_rfl) (fun x0 => ?_)
          repeat (any_goals (first | (refine wpSeqL_free rfl ?_; first | (go_big_quiet_skip; refine wpQuiet_nil ?_) | (go_big_quiet_step (fail); refine wpQuiet_nil ?_) | (refine wpQuiet_step (fun K hK => ?_); go_simp; split <;> (refine hK _ ?_; clear hK K; refine wpQuiet_nil ?_))) | (refine wpSeqL_link rfl (fun K hK => ?_); go_simp; first | first | (refine hK _ _ (by show World.grows _ _; repeat (first | assumption | exact grA | apply grB | apply grC | apply grD)) ?_; clear hK K) | ((fail); refine ⟨_, rfl, hK _ _ (by show World.grows _ _; repeat (first | assumption | exact grA | apply grB | apply grC | apply grD)) ?_⟩; clear hK K) | (split <;> (first | (refine hK _ _ (by show World.grows _ _; repeat (first | assumption | exact grA | apply grB | apply grC | apply grD)) ?_; clear hK K) | ((fail); refine ⟨_, rfl, hK _ _ (by show World.grows _ _; repeat (first | assumption | exact grA | apply grB | apply grC | apply grD)) ?_⟩; clear hK K))))))
          have hI' := Lib.hid (SlAt_one (w := ((wr.plus x0).alloc (.cells #[.int .i64 x] 3))) (g := (wr.plus x0).heap.size) (e := 3) (fr := (0, 0)) (x := x) (by simp [go_sem]))
          have hgr' : wr.grows ((wr.plus x0).alloc (.cells #[.int .i64 x] 3)) := (by repeat (with_reducible first | assumption | exact grA | apply grB | apply grC | apply grD | refine grE ?_ (by omega) _ | refine grF ?_ (by omega) _ _))
          have hgw' := hg.trans hgr'
          refine wpSeqL_appFull rfl rfl (.tmp 36) (.tmp 42) 26 rfl 3 Try.underlying26 (by kernel_rfl) (l := W) (r := [x]) rfl (by have := IntsAt.grow (IntsAt.pre HI.out (Nat.le_refl _)) hgr'; rw [List.take_length] at this; exact this) rfl (by simpa using hI'.out) (by simp; omega) ?_
          intro A2 n2 c2 w2 hn2 hg2 hI2
          refine ⟨World.grows.trans (a := wr) hgr' hg2, ?_⟩
          have hgw2 : w.grows w2 := hgw'.trans hg2
          go_simp
          repeat (any_goals (first | (refine wpSeqL_free rfl ?_; first | (go_big_quiet_skip; refine wpQuiet_nil ?_) | (go_big_quiet_step (fail); refine wpQuiet_nil ?_) | (refine wpQuiet_step (fun K hK => ?_); go_simp; split <;> (refine hK _ ?_; clear hK K; refine wpQuiet_nil ?_))) | (refine wpSeqL_link rfl (fun K hK => ?_); go_simp; first | first | (refine hK _ _ (by show World.grows _ _; repeat (first | assumption | exact grA | apply grB | apply grC | apply grD)) ?_; clear hK K) | ((fail); refine ⟨_, rfl, hK _ _ (by show World.grows _ _; repeat (first | assumption | exact grA | apply grB | apply grC | apply grD)) ?_⟩; clear hK K) | (split <;> (first | (refine hK _ _ (by show World.grows _ _; repeat (first | assumption | exact grA | apply grB | apply grC | apply grD)) ?_; clear hK K) | ((fail); refine ⟨_, rfl, hK _ _ (by show World.grows _ _; repeat (first | assumption | exact grA | apply grB | apply grC | apply grD)) ?_⟩; clear hK K))))))
          refine wpSeqL_end ?_
          go_wp2_with fail
          go_ret
          exact ⟨_, rfl, hgw2, by rw [HFIN.out]; exact hI2.out⟩
end Go.Proofs.Ytjfccilmlmimaaa

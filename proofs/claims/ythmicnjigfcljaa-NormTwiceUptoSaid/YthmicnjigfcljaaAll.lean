/- WALKS over norm: all, Scale, Add, Pick; the statements' own all. No condition but that the forms stand in memory and are not too many. (printed by wip/mkown.py) -/
import Derived.Test.YthmicnjigfcljaaOwn
import Derived.Test.YthmicnjigfcljaaMn
set_option linter.unusedSimpArgs false
set_option linter.unusedVariables false
namespace Go.Proofs.Ythmicnjigfcljaa
open Go.RowKit

set_option maxRecDepth 100000 in
set_option maxHeartbeats 4000000 in
theorem normAll_any (l : List Fm) (v : Value) (w : World) (S : Nat → Prop) (hl : SlAt w S 15 (FormOk w S) v l) : Calls Try.prog 66 #[v] w (Gives w (.bool (l.all (mayF 340)))) := by
  obtain ⟨a, cap, rfl, hlc, hc, hE⟩ := hl
  have HE := Lib.hid hE; clear hE
  generalize hres : l.all (mayF 340) = res
  have HRES := Lib.hid hres; clear hres
  go_enter Try.func66, Try.ntmps66
  go_wp2_with fail
  go_loopg [7] l.length (fun gn v7 wj => ∃ j : Nat, Hid (gn + j = l.length) ∧ j ≤ l.length ∧ v7 = .int .i64 j ∧ w.grows wj ∧ Hid ((l.drop j).all (mayF 340) = res))
  case atStart => exact ⟨0, rfl, Nat.zero_le _, rfl, (by repeat (with_reducible first | assumption | exact grA | apply grB | apply grC | apply grD | refine grE ?_ (by omega) _ | refine grF ?_ (by omega) _ _)), HRES.out⟩
  case round =>
    obtain ⟨j, HK, hj, rfl, hg, HB⟩ := hrel
    by_cases hlt : j < l.length
    · rcases HE.out with h | ⟨g, off, rfl, hSg, hcell⟩
      · rw [h] at hlt; cases hlt
      obtain ⟨cs', hl15, hel, hok⟩ := hcell j l[j] (by simp [hlt])
      have he := hel.grows hg
      unfold eltAt at he
      rw [hl15] at he
      have zr := lt_sz (hel.grows hg).lt
      have e3 : segOk (off + j * 15) 15 (wr.row g) = true := he.1
      have e4 : segV (off + j * 15) 15 (wr.row g) = .agg cs'.toArray := he.2
      have hB := HB.out
      rw [all_drop _ hlt] at hB
      have c1 := fun W (hW : w.grows W) => normMayFMay_any l[j] cs' W S (hok.grows hW)
      generalize mayF 340 l[j] = B at *
      generalize l[j] = f at *
      obtain ⟨us, ps⟩ := f
      obtain ⟨hu7, hub, v', rfl, hps'⟩ := FormOk_us hok
      obtain ⟨a', c', rfl, hn1, hn2⟩ := hps'.len
      have C1 := Lib.hid c1; clear c1 hel he hok hcell hps' hl15 HB hub
      cases B
      · rw [Bool.false_and] at hB
        subst hB
        go_wp2_with (first | (go_at_call 61; (with_reducible refine (C1.out _ (by repeat (with_reducible first | assumption | exact grA | apply grB | apply grC | apply grD | refine grE ?_ (by omega) _ | refine grF ?_ (by omega) _ _))).mono ?_); rintro e w1 ⟨rfl, x1, rfl⟩))
        go_ret
        exact ⟨rfl, (by repeat (with_reducible first | assumption | exact grA | apply grB | apply grC | apply grD | refine grE ?_ (by omega) _ | refine grF ?_ (by omega) _ _))⟩
      · rw [Bool.true_and] at hB
        have HB' := Lib.hid hB; clear hB
        go_wp2_with (first | (go_at_call 61; (with_reducible refine (C1.out _ (by repeat (with_reducible first | assumption | exact grA | apply grB | apply grC | apply grD | refine grE ?_ (by omega) _ | refine grF ?_ (by omega) _ _))).mono ?_); rintro e w1 ⟨rfl, x1, rfl⟩))
        go_roundg (l.length - (j + 1))
        case rel => exact ⟨j + 1, Lib.hid (by omega), by omega, by go_num, (by repeat (with_reducible first | assumption | exact grA | apply grB | apply grC | apply grD | refine grE ?_ (by omega) _ | refine grF ?_ (by omega) _ _)), HB'.out⟩
        case measure => have := HK.out; omega
    · obtain rfl : j = l.length := by omega
      have hB := HB.out
      rw [List.drop_length, List.all_nil] at hB
      subst hB
      clear HB
      go_wp2_with fail
      go_ret
      exact ⟨rfl, (by repeat (with_reducible first | assumption | exact grA | apply grB | apply grC | apply grD | refine grE ?_ (by omega) _ | refine grF ?_ (by omega) _ _))⟩

set_option maxRecDepth 100000 in
set_option maxHeartbeats 4000000 in
theorem lawAll_any (l : List Fm) (v : Value) (w : World) (S : Nat → Prop) (hl : SlAt w S 15 (FormOk w S) v l) : Calls Try.prog 34 #[v] w (Gives w (.bool (l.all (mayF 340)))) := by
  obtain ⟨a, cap, rfl, hlc, hc, hE⟩ := hl
  have HE := Lib.hid hE; clear hE
  generalize hres : l.all (mayF 340) = res
  have HRES := Lib.hid hres; clear hres
  go_enter Try.func34, Try.ntmps34
  go_wp2_with fail
  go_loopg [7] l.length (fun gn v7 wj => ∃ j : Nat, Hid (gn + j = l.length) ∧ j ≤ l.length ∧ v7 = .int .i64 j ∧ w.grows wj ∧ Hid ((l.drop j).all (mayF 340) = res))
  case atStart => exact ⟨0, rfl, Nat.zero_le _, rfl, (by repeat (with_reducible first | assumption | exact grA | apply grB | apply grC | apply grD | refine grE ?_ (by omega) _ | refine grF ?_ (by omega) _ _)), HRES.out⟩
  case round =>
    obtain ⟨j, HK, hj, rfl, hg, HB⟩ := hrel
    by_cases hlt : j < l.length
    · rcases HE.out with h | ⟨g, off, rfl, hSg, hcell⟩
      · rw [h] at hlt; cases hlt
      obtain ⟨cs', hl15, hel, hok⟩ := hcell j l[j] (by simp [hlt])
      have he := hel.grows hg
      unfold eltAt at he
      rw [hl15] at he
      have zr := lt_sz (hel.grows hg).lt
      have e3 : segOk (off + j * 15) 15 (wr.row g) = true := he.1
      have e4 : segV (off + j * 15) 15 (wr.row g) = .agg cs'.toArray := he.2
      have hB := HB.out
      rw [all_drop _ hlt] at hB
      have c1 := fun W (hW : w.grows W) => refMayFMay_any l[j] cs' W S (hok.grows hW)
      generalize mayF 340 l[j] = B at *
      generalize l[j] = f at *
      obtain ⟨us, ps⟩ := f
      obtain ⟨hu7, hub, v', rfl, hps'⟩ := FormOk_us hok
      obtain ⟨a', c', rfl, hn1, hn2⟩ := hps'.len
      have C1 := Lib.hid c1; clear c1 hel he hok hcell hps' hl15 HB hub
      cases B
      · rw [Bool.false_and] at hB
        subst hB
        go_wp2_with (first | (go_at_call 28; (with_reducible refine (C1.out _ (by repeat (with_reducible first | assumption | exact grA | apply grB | apply grC | apply grD | refine grE ?_ (by omega) _ | refine grF ?_ (by omega) _ _))).mono ?_); rintro e w1 ⟨rfl, x1, rfl⟩))
        go_ret
        exact ⟨rfl, (by repeat (with_reducible first | assumption | exact grA | apply grB | apply grC | apply grD | refine grE ?_ (by omega) _ | refine grF ?_ (by omega) _ _))⟩
      · rw [Bool.true_and] at hB
        have HB' := Lib.hid hB; clear hB
        go_wp2_with (first | (go_at_call 28; (with_reducible refine (C1.out _ (by repeat (with_reducible first | assumption | exact grA | apply grB | apply grC | apply grD | refine grE ?_ (by omega) _ | refine grF ?_ (by omega) _ _))).mono ?_); rintro e w1 ⟨rfl, x1, rfl⟩))
        go_roundg (l.length - (j + 1))
        case rel => exact ⟨j + 1, Lib.hid (by omega), by omega, by go_num, (by repeat (with_reducible first | assumption | exact grA | apply grB | apply grC | apply grD | refine grE ?_ (by omega) _ | refine grF ?_ (by omega) _ _)), HB'.out⟩
        case measure => have := HK.out; omega
    · obtain rfl : j = l.length := by omega
      have hB := HB.out
      rw [List.drop_length, List.all_nil] at hB
      subst hB
      clear HB
      go_wp2_with fail
      go_ret
      exact ⟨rfl, (by repeat (with_reducible first | assumption | exact grA | apply grB | apply grC | apply grD | refine grE ?_ (by omega) _ | refine grF ?_ (by omega) _ _))⟩

set_option maxRecDepth 100000 in
set_option maxHeartbeats 8000000 in
theorem normScale_any (f : Fm) (cs : List Value) (k1 k2 : Int) (w : World) (h : FormOk w (fun _ => True) f cs) (wk1 : I64 k1) (wk2 : I64 k2) (hsz : szF f ≤ 4194304) :
    Calls Try.prog 30 #[.agg cs.toArray, .agg #[.int .i64 k1, .int .i64 k2]] w (FormP w (fun g => w.heap.size ≤ g) (if mayF 340 f then scaleF (cleanQ (k1, k2)) f else zeroF)) := by
  have c1 := fun W (hW : w.grows W) => normMayFMay_any f cs W _ (h.grows hW)
  have c2 := fun W => normSure_any k1 k2 W wk1 wk2
  have hkb : I64p (cleanQ (k1, k2)) := cleanQ_bd ⟨wk1, wk2⟩
  generalize cleanQ (k1, k2) = K at *
  obtain ⟨K1, K2⟩ := K
  have c3 : ∀ W, w.grows W → Calls Try.prog 63 #[.agg cs.toArray, .agg #[.int .i64 K1, .int .i64 K2]] W (FormP W (fun _ => True) (scaleF (K1, K2) f)) := fun W hW => scale_any f cs K1 K2 W _ (fun _ _ => trivial) (h.grows hW) hkb.1 hkb.2 hsz
  have hs2 := szF_scale (K1, K2) f
  have hs3 : szF (scaleF (K1, K2) f) ≤ 4194304 := by omega
  generalize scaleF (K1, K2) f = F at *
  generalize mayF 340 f = B at *
  obtain ⟨us, ps⟩ := f
  obtain ⟨hu7, _, v, rfl, hps⟩ := FormOk_us h
  obtain ⟨a, c, rfl, _⟩ := hps.len
  have C1 := Lib.hid c1; have C2 := Lib.hid c2; have C3 := Lib.hid c3; have HS3 := Lib.hid hs3
  clear c1 c2 c3 hps h hsz hs2 hs3 hkb wk1 wk2
  cases B
  · rw [if_neg (by simp)]
    go_enter Try.func30, Try.ntmps30
    go_wp2_with (first | (go_at_call 61; (with_reducible refine (C1.out _ (by repeat (with_reducible first | assumption | exact grA | apply grB | apply grC | apply grD | refine grE ?_ (by omega) _ | refine grF ?_ (by omega) _ _))).mono ?_); rintro e w1 ⟨rfl, x1, rfl⟩) | (go_at_call 31; (with_reducible refine (zero_any _).mono ?_); rintro e w1 ⟨rfl, x1, rfl⟩))
    (with_reducible show bodyPost _ _ _ _ _ _); exact ret_30 rfl rfl (by simp [go_sem]) rfl ⟨none, 0, (by simp [go_sem, zeroF, Fm.us, Fm.ps]), (by repeat (with_reducible first | assumption | exact grA | apply grB | apply grC | apply grD | refine grE ?_ (by omega) _ | refine grF ?_ (by omega) _ _)), zeroU_len, zeroU_bd, SlAt_nil _ _ _ _⟩
  · rw [if_pos rfl]
    go_enter Try.func30, Try.ntmps30
    go_wp2_with (first | (go_at_call 61; (with_reducible refine (C1.out _ (by repeat (with_reducible first | assumption | exact grA | apply grB | apply grC | apply grD | refine grE ?_ (by omega) _ | refine grF ?_ (by omega) _ _))).mono ?_); rintro e w1 ⟨rfl, x1, rfl⟩))
    refine wp_region_plus_seq_tail 5 (by kernel_rfl) (by kernel_rfl) (fun x0 => ?_)
    simp only [List.take_succ_cons, List.take_zero, List.drop_succ_cons, List.drop_zero]
    repeat (any_goals (first | (refine wpSeqL_free rfl ?_; first | (go_big_quiet_skip; refine wpQuiet_nil ?_) | (go_big_quiet_step (fail); refine wpQuiet_nil ?_) | (refine wpQuiet_step (fun K hK => ?_); go_simp; split <;> (refine hK _ ?_; clear hK K; refine wpQuiet_nil ?_))) | (refine wpSeqL_link rfl (fun K hK => ?_); go_simp; first | first | (refine hK _ _ (by show World.grows _ _; repeat (first | assumption | exact grA | apply grB | apply grC | apply grD)) ?_; clear hK K) | (((first | (go_at_call 64; (with_reducible refine (C2.out _).mono ?_); rintro e w1 ⟨rfl, x2, rfl⟩) | (go_at_call 63; (with_reducible refine (C3.out _ (by repeat (with_reducible first | assumption | exact grA | apply grB | apply grC | apply grD | refine grE ?_ (by omega) _ | refine grF ?_ (by omega) _ _))).mono ?_); rintro e w1 ⟨a5, c5, rfl, hg5, h57, h5b, h5s⟩; have hgw1 : w.grows w1 := World.grows.trans (by repeat (with_reducible first | assumption | exact grA | apply grB | apply grC | apply grD | refine grE ?_ (by omega) _ | refine grF ?_ (by omega) _ _)) hg5; have hrx : (((w.alloc (.cells (formC us (.slice a ps.length c)).toArray 30)).alloc (.cells #[.int .i64 k1, .int .i64 k2] 23)).alloc (.cells #[.int .i64 0, .int .i64 0, .int .i64 0, .int .i64 0, .int .i64 0, .int .i64 0, .int .i64 0, .int .i64 0, .int .i64 0, .int .i64 0, .int .i64 0, .int .i64 0, .int .i64 0, .int .i64 0, .slice none 0 0] 30)).plus x1 |>.grows w1 := World.grows.trans (by repeat (with_reducible first | assumption | exact grA | apply grB | apply grC | apply grD | refine grE ?_ (by omega) _ | refine grF ?_ (by omega) _ _)) hg5; have q2 := hg5.row_eq (g := w.heap.size + 1 + 1) (by simp <;> omega); simp [go_sem] at q2; have q2' : w1.row (w.heap.size + 1 + 1) = some (.cells (formC (zs 0) (.slice none 0 0)).toArray 30) := q2; have t2 := row_sz' q2'; have H5B := Lib.hid h5b; have H5S := Lib.hid h5s; clear h5b h5s) | (go_at_call 62; (with_reducible refine (own_any F _ _ (fun _ => True) ((FormOk_of_parts h57 H5B.out H5S.out).grows (by repeat (with_reducible first | assumption | exact grA | apply grB | apply grC | apply grD | refine grE ?_ (by omega) _ | refine grF ?_ (by omega) _ _))) HS3.out).mono ?_); rintro e w2 ⟨a6, c6, rfl, hg6, h67, h6b, h6s⟩; have hrw2 : w1.grows w2 := World.grows.trans (by repeat (with_reducible first | assumption | exact grA | apply grB | apply grC | apply grD | refine grE ?_ (by omega) _ | refine grF ?_ (by omega) _ _)) hg6; have hry : (((w.alloc (.cells (formC us (.slice a ps.length c)).toArray 30)).alloc (.cells #[.int .i64 k1, .int .i64 k2] 23)).alloc (.cells #[.int .i64 0, .int .i64 0, .int .i64 0, .int .i64 0, .int .i64 0, .int .i64 0, .int .i64 0, .int .i64 0, .int .i64 0, .int .i64 0, .int .i64 0, .int .i64 0, .int .i64 0, .int .i64 0, .slice none 0 0] 30)).plus x1 |>.grows w2 := hrx.trans hrw2; have H6B := Lib.hid h6b; have H6S := Lib.hid h6s; clear h6b h6s))); refine ⟨_, rfl, hK _ _ (by show World.grows _ _; repeat (first | assumption | exact grA | apply grB | apply grC | apply grD)) ?_⟩; clear hK K) | (split <;> (first | (refine hK _ _ (by show World.grows _ _; repeat (first | assumption | exact grA | apply grB | apply grC | apply grD)) ?_; clear hK K) | (((first | (go_at_call 64; (with_reducible refine (C2.out _).mono ?_); rintro e w1 ⟨rfl, x2, rfl⟩) | (go_at_call 63; (with_reducible refine (C3.out _ (by repeat (with_reducible first | assumption | exact grA | apply grB | apply grC | apply grD | refine grE ?_ (by omega) _ | refine grF ?_ (by omega) _ _))).mono ?_); rintro e w1 ⟨a5, c5, rfl, hg5, h57, h5b, h5s⟩; have hgw1 : w.grows w1 := World.grows.trans (by repeat (with_reducible first | assumption | exact grA | apply grB | apply grC | apply grD | refine grE ?_ (by omega) _ | refine grF ?_ (by omega) _ _)) hg5; have hrx : (((w.alloc (.cells (formC us (.slice a ps.length c)).toArray 30)).alloc (.cells #[.int .i64 k1, .int .i64 k2] 23)).alloc (.cells #[.int .i64 0, .int .i64 0, .int .i64 0, .int .i64 0, .int .i64 0, .int .i64 0, .int .i64 0, .int .i64 0, .int .i64 0, .int .i64 0, .int .i64 0, .int .i64 0, .int .i64 0, .int .i64 0, .slice none 0 0] 30)).plus x1 |>.grows w1 := World.grows.trans (by repeat (with_reducible first | assumption | exact grA | apply grB | apply grC | apply grD | refine grE ?_ (by omega) _ | refine grF ?_ (by omega) _ _)) hg5; have q2 := hg5.row_eq (g := w.heap.size + 1 + 1) (by simp <;> omega); simp [go_sem] at q2; have q2' : w1.row (w.heap.size + 1 + 1) = some (.cells (formC (zs 0) (.slice none 0 0)).toArray 30) := q2; have t2 := row_sz' q2'; have H5B := Lib.hid h5b; have H5S := Lib.hid h5s; clear h5b h5s) | (go_at_call 62; (with_reducible refine (own_any F _ _ (fun _ => True) ((FormOk_of_parts h57 H5B.out H5S.out).grows (by repeat (with_reducible first | assumption | exact grA | apply grB | apply grC | apply grD | refine grE ?_ (by omega) _ | refine grF ?_ (by omega) _ _))) HS3.out).mono ?_); rintro e w2 ⟨a6, c6, rfl, hg6, h67, h6b, h6s⟩; have hrw2 : w1.grows w2 := World.grows.trans (by repeat (with_reducible first | assumption | exact grA | apply grB | apply grC | apply grD | refine grE ?_ (by omega) _ | refine grF ?_ (by omega) _ _)) hg6; have hry : (((w.alloc (.cells (formC us (.slice a ps.length c)).toArray 30)).alloc (.cells #[.int .i64 k1, .int .i64 k2] 23)).alloc (.cells #[.int .i64 0, .int .i64 0, .int .i64 0, .int .i64 0, .int .i64 0, .int .i64 0, .int .i64 0, .int .i64 0, .int .i64 0, .int .i64 0, .int .i64 0, .int .i64 0, .int .i64 0, .int .i64 0, .slice none 0 0] 30)).plus x1 |>.grows w2 := hrx.trans hrw2; have H6B := Lib.hid h6b; have H6S := Lib.hid h6s; clear h6b h6s))); refine ⟨_, rfl, hK _ _ (by show World.grows _ _; repeat (first | assumption | exact grA | apply grB | apply grC | apply grD)) ?_⟩; clear hK K))))))
    all_goals (refine wpSeqL_end ?_)
    have hgw2 : w.grows w2 := World.grows.trans hgw1 hrw2
    have q3 := (hrw2.row_eq t2.1).trans q2'
    have t3 := row_sz' q3
    have t21 := t2.1
    go_wp2_with fail
    (with_reducible show bodyPost _ _ _ _ _ _); exact ret_30 rfl rfl (by simp [go_sem, q3, t3, h67]) rfl ⟨a6, c6, (by simp [go_sem, q3, t3, h67]), (by repeat (with_reducible first | assumption | exact grA | apply grB | apply grC | apply grD | refine grE ?_ (by omega) _ | refine grF ?_ (by omega) _ _)), h67, H6B.out, formS_keep H6S.out (fun g h => by
      have h' : w.heap.size + 1 + 1 + 1 ≤ g := by omega
      exact ⟨by rw [World.row_setRow, if_neg (by omega)], by omega⟩)⟩

set_option maxRecDepth 100000 in
set_option maxHeartbeats 8000000 in
theorem normAdd_any (l : List Fm) (v : Value) (w : World) (hl : SlAt w (fun _ => True) 15 (FormOk w fun _ => True) v l) (hlen : l.length ≤ 1048576) (hsz : szM l ≤ 4194302) :
    Calls Try.prog 36 #[v] w (FormP w (fun g => w.heap.size ≤ g) (if l.all (mayF 340) then addF l else zeroF)) := by
  have c1 := fun W (hW : w.grows W) => normAll_any l v W _ (hl.grows hW (fun x _ cs h => h.grows hW))
  have c3 : ∀ W, w.grows W → Calls Try.prog 67 #[v] W (FormP W (fun _ => True) (addF l)) := fun W hW => add_any l v W _ (fun _ _ => trivial) (hl.grows hW (fun x _ cs h => h.grows hW)) (by omega) (by have h1 := szP_flat l; have h2 := szP_len (l.flatMap Fm.ps); omega)
  have hs3 : szF (addF l) ≤ 4194304 := by have := szF_addF l; omega
  generalize addF l = F at *
  generalize l.all (mayF 340) = B at *
  obtain ⟨a, c, rfl, _⟩ := hl.len
  have C1 := Lib.hid c1; have C3 := Lib.hid c3; have HS3 := Lib.hid hs3
  clear c1 c3 hl hsz hs3
  cases B
  · rw [if_neg (by simp)]
    go_enter Try.func36, Try.ntmps36
    go_wp2_with (first | (go_at_call 66; (with_reducible refine (C1.out _ (by repeat (with_reducible first | assumption | exact grA | apply grB | apply grC | apply grD | refine grE ?_ (by omega) _ | refine grF ?_ (by omega) _ _))).mono ?_); rintro e w1 ⟨rfl, x1, rfl⟩) | (go_at_call 31; (with_reducible refine (zero_any _).mono ?_); rintro e w1 ⟨rfl, x1, rfl⟩))
    (with_reducible show bodyPost _ _ _ _ _ _); exact ret_30 rfl rfl (by simp [go_sem]) rfl ⟨none, 0, (by simp [go_sem, zeroF, Fm.us, Fm.ps]), (by repeat (with_reducible first | assumption | exact grA | apply grB | apply grC | apply grD | refine grE ?_ (by omega) _ | refine grF ?_ (by omega) _ _)), zeroU_len, zeroU_bd, SlAt_nil _ _ _ _⟩
  · rw [if_pos rfl]
    go_enter Try.func36, Try.ntmps36
    go_wp2_with (first | (go_at_call 66; (with_reducible refine (C1.out _ (by repeat (with_reducible first | assumption | exact grA | apply grB | apply grC | apply grD | refine grE ?_ (by omega) _ | refine grF ?_ (by omega) _ _))).mono ?_); rintro e w1 ⟨rfl, x1, rfl⟩) | (go_at_call 67; (with_reducible refine (C3.out _ (by repeat (with_reducible first | assumption | exact grA | apply grB | apply grC | apply grD | refine grE ?_ (by omega) _ | refine grF ?_ (by omega) _ _))).mono ?_); rintro e w1 ⟨a5, c5, rfl, hg5, h57, h5b, h5s⟩; have hgw1 : w.grows w1 := World.grows.trans (by repeat (with_reducible first | assumption | exact grA | apply grB | apply grC | apply grD | refine grE ?_ (by omega) _ | refine grF ?_ (by omega) _ _)) hg5; have q2 := hg5.row_eq (g := w.heap.size) (by simp <;> omega); simp [go_sem] at q2; have q2' : w1.row (w.heap.size) = some (.cells (formC (zs 0) (.slice none 0 0)).toArray 30) := q2; have t2 := row_sz' q2'; have H5B := Lib.hid h5b; have H5S := Lib.hid h5s; clear h5b h5s) | (go_at_call 62; (with_reducible refine (own_any F _ _ (fun _ => True) ((FormOk_of_parts h57 H5B.out H5S.out).grows (by repeat (with_reducible first | assumption | exact grA | apply grB | apply grC | apply grD | refine grE ?_ (by omega) _ | refine grF ?_ (by omega) _ _))) HS3.out).mono ?_); rintro e w2 ⟨a6, c6, rfl, hg6, h67, h6b, h6s⟩; have hrw2 : w1.grows w2 := World.grows.trans (by repeat (with_reducible first | assumption | exact grA | apply grB | apply grC | apply grD | refine grE ?_ (by omega) _ | refine grF ?_ (by omega) _ _)) hg6; have hgw2 : w.grows w2 := World.grows.trans hgw1 hrw2; have q3 := (hrw2.row_eq t2.1).trans q2'; have t3 := row_sz' q3; have t21 := t2.1; have H6B := Lib.hid h6b; have H6S := Lib.hid h6s; clear h6b h6s))
    (with_reducible show bodyPost _ _ _ _ _ _); exact ret_30 rfl rfl (by simp [go_sem, q3, t3, h67]) rfl ⟨a6, c6, (by simp [go_sem, q3, t3, h67]), (by repeat (with_reducible first | assumption | exact grA | apply grB | apply grC | apply grD | refine grE ?_ (by omega) _ | refine grF ?_ (by omega) _ _)), h67, H6B.out, formS_keep H6S.out (fun g h => by
      have h' : w.heap.size + 1 ≤ g := by omega
      exact ⟨by rw [World.row_setRow, if_neg (by omega)], by omega⟩)⟩

set_option maxRecDepth 100000 in
set_option maxHeartbeats 8000000 in
theorem normPick_any (most : Bool) (l : List Fm) (v : Value) (w : World) (hl : SlAt w (fun _ => True) 15 (FormOk w fun _ => True) v l) (hlen : l.length ≤ 1048576) (hsz : szM l ≤ 4194302) (h0 : l.length ≠ 0) :
    Calls Try.prog 38 #[.bool most, v] w (FormP w (fun g => w.heap.size ≤ g) (if l.all (mayF 340) then pickF most l else zeroF)) := by
  have c1 := fun W (hW : w.grows W) => normAll_any l v W _ (hl.grows hW (fun x _ cs h => h.grows hW))
  have c3 : ∀ W, w.grows W → Calls Try.prog 70 #[.bool most, v] W (FormP W (fun _ => True) (pickF most l)) := fun W hW => pick_any most l v W _ (fun _ _ => trivial) (hl.grows hW (fun x _ cs h => h.grows hW)) (by omega)
  have hs3 : szF (pickF most l) ≤ 4194304 := by have := szF_pick most l; omega
  generalize pickF most l = F at *
  generalize l.all (mayF 340) = B at *
  obtain ⟨a, c, rfl, _⟩ := hl.len
  have e0 : (l.length == 0) = false := by simpa using h0
  have e1 : ((l.length : Int) == 0) = false := by rw [beq_eq_false_iff_ne]; omega
  have C1 := Lib.hid c1; have C3 := Lib.hid c3; have HS3 := Lib.hid hs3
  clear c1 c3 hl hsz hs3
  cases B
  · rw [if_neg (by simp)]
    go_enter Try.func38, Try.ntmps38
    go_wp2_with (first | (go_at_call 66; (with_reducible refine (C1.out _ (by repeat (with_reducible first | assumption | exact grA | apply grB | apply grC | apply grD | refine grE ?_ (by omega) _ | refine grF ?_ (by omega) _ _))).mono ?_); rintro e w1 ⟨rfl, x1, rfl⟩) | (go_at_call 31; (with_reducible refine (zero_any _).mono ?_); rintro e w1 ⟨rfl, x1, rfl⟩))
    (with_reducible show bodyPost _ _ _ _ _ _); exact ret_30 rfl rfl (by simp [go_sem]) rfl ⟨none, 0, (by simp [go_sem, zeroF, Fm.us, Fm.ps]), (by repeat (with_reducible first | assumption | exact grA | apply grB | apply grC | apply grD | refine grE ?_ (by omega) _ | refine grF ?_ (by omega) _ _)), zeroU_len, zeroU_bd, SlAt_nil _ _ _ _⟩
  · rw [if_pos rfl]
    go_enter Try.func38, Try.ntmps38
    go_wp2_with (first | (go_at_call 66; (with_reducible refine (C1.out _ (by repeat (with_reducible first | assumption | exact grA | apply grB | apply grC | apply grD | refine grE ?_ (by omega) _ | refine grF ?_ (by omega) _ _))).mono ?_); rintro e w1 ⟨rfl, x1, rfl⟩) | (go_at_call 70; (with_reducible refine (C3.out _ (by repeat (with_reducible first | assumption | exact grA | apply grB | apply grC | apply grD | refine grE ?_ (by omega) _ | refine grF ?_ (by omega) _ _))).mono ?_); rintro e w1 ⟨a5, c5, rfl, hg5, h57, h5b, h5s⟩; have hgw1 : w.grows w1 := World.grows.trans (by repeat (with_reducible first | assumption | exact grA | apply grB | apply grC | apply grD | refine grE ?_ (by omega) _ | refine grF ?_ (by omega) _ _)) hg5; have q2 := hg5.row_eq (g := w.heap.size) (by simp <;> omega); simp [go_sem] at q2; have q2' : w1.row (w.heap.size) = some (.cells (formC (zs 0) (.slice none 0 0)).toArray 30) := q2; have t2 := row_sz' q2'; have H5B := Lib.hid h5b; have H5S := Lib.hid h5s; clear h5b h5s) | (go_at_call 62; (with_reducible refine (own_any F _ _ (fun _ => True) ((FormOk_of_parts h57 H5B.out H5S.out).grows (by repeat (with_reducible first | assumption | exact grA | apply grB | apply grC | apply grD | refine grE ?_ (by omega) _ | refine grF ?_ (by omega) _ _))) HS3.out).mono ?_); rintro e w2 ⟨a6, c6, rfl, hg6, h67, h6b, h6s⟩; have hrw2 : w1.grows w2 := World.grows.trans (by repeat (with_reducible first | assumption | exact grA | apply grB | apply grC | apply grD | refine grE ?_ (by omega) _ | refine grF ?_ (by omega) _ _)) hg6; have hgw2 : w.grows w2 := World.grows.trans hgw1 hrw2; have q3 := (hrw2.row_eq t2.1).trans q2'; have t3 := row_sz' q3; have t21 := t2.1; have H6B := Lib.hid h6b; have H6S := Lib.hid h6s; clear h6b h6s))
    (with_reducible show bodyPost _ _ _ _ _ _); exact ret_30 rfl rfl (by simp [go_sem, q3, t3, h67]) rfl ⟨a6, c6, (by simp [go_sem, q3, t3, h67]), (by repeat (with_reducible first | assumption | exact grA | apply grB | apply grC | apply grD | refine grE ?_ (by omega) _ | refine grF ?_ (by omega) _ _)), h67, H6B.out, formS_keep H6S.out (fun g h => by
      have h' : w.heap.size + 1 ≤ g := by omega
      exact ⟨by rw [World.row_setRow, if_neg (by omega)], by omega⟩)⟩

set_option maxRecDepth 100000 in
set_option maxHeartbeats 4000000 in
theorem normPick_none (most : Bool) (v : Value) (w : World) (hl : SlAt w (fun _ => True) 15 (FormOk w fun _ => True) v []) :
    Calls Try.prog 38 #[.bool most, v] w (FormP w (fun g => w.heap.size ≤ g) zeroF) := by
  obtain ⟨a, c, rfl, _⟩ := hl.len
  clear hl
  go_enter Try.func38, Try.ntmps38
  go_wp2_with (first | (go_at_call 31; (with_reducible refine (zero_any _).mono ?_); rintro e w1 ⟨rfl, x1, rfl⟩))
  (with_reducible show bodyPost _ _ _ _ _ _); exact ret_30 rfl rfl (by simp [go_sem]) rfl ⟨none, 0, (by simp [go_sem, zeroF, Fm.us, Fm.ps]), (by repeat (with_reducible first | assumption | exact grA | apply grB | apply grC | apply grD | refine grE ?_ (by omega) _ | refine grF ?_ (by omega) _ _)), zeroU_len, zeroU_bd, SlAt_nil _ _ _ _⟩
end Go.Proofs.Ythmicnjigfcljaa

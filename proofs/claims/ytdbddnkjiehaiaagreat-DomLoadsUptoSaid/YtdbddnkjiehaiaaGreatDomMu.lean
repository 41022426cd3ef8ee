/- WALK over jalousieref8: Load of any elements. -/
import Derived.Test.YtdbddnkjiehaiaaGreatMs
set_option linter.unusedSimpArgs false
set_option linter.unusedVariables false
namespace Go.Proofs.YtdbddnkjiehaiaaGreat
open Go.Maps Go.RowKit Go.Sort
theorem R2.grows {w wj W : World} {tb : Nat} {v : Value} {N : Int} {l : List El} (h : R2 w wj tb v N l) (hg : wj.grows W) : R2 w W tb v N l := by
  have hs := hg.below.size
  obtain ⟨css, l1, l2, l3⟩ := h.els
  exact ⟨h.gr.trans hg, (hg.row_eq (row_sz' h.head).1).trans h.head, ⟨css, l1, fun i x cs q1 q2 => ⟨(l2 i x cs q1 q2).1, (l2 i x cs q1 q2).2.keep fun g hg' => ⟨hg.row_eq hg'.2.1, hg'.1, by omega, hg'.2.2⟩⟩, l3.grows hg⟩, h.lo⟩
/-- what Load comes to -/
def RLP (w : World) (M : Dm) (dep : Int → Nat) (r : Ending) (w' : World) : Prop := w.grows w' ∧ ((elsErr (-1) M.els ≠ 0 ∧ r = .returned (.tuple #[.pointer none, .int .i64 (elsErr (-1) M.els)])) ∨ (elsErr (-1) M.els = 0 ∧ ((¬ Jnd M ∧ r = .returned (.tuple #[.pointer none, .int .i64 5])) ∨ (Jnd M ∧ (∃ e ∈ M.els, 32 < dep e.id) ∧ r = .returned (.tuple #[.pointer none, .int .i64 7])) ∨
  (Jnd M ∧ (∀ e ∈ M.els, dep e.id ≤ 32) ∧ ∃ (tb : Nat) (v' : Value), r = .returned (.tuple #[.pointer (some ⟨tb, 0, none⟩), .int .i64 0]) ∧ R2 w w' tb v' (lastI M.els + 1) M.els))))

set_option maxRecDepth 100000 in
set_option maxHeartbeats 40000000 in
theorem refLoadG_any (w : World) (v : Value) (M : Dm) (h : ElsAt w v M.els) (hw : ∀ e ∈ M.els, e.Wf0) (hne : M.els.length ≠ 0) (hfew : M.els.length ≤ 256) (dep : Int → Nat) (hdep : Jnd M → elsErr (-1) M.els = 0 → ∃ r, isR M r = true ∧ Dep0 M r dep) : Calls Tryz.prog 5 #[v] w (RLP w M dep) := by
  obtain ⟨a0, c0, rfl, _⟩ := h.len
  have HE := Lib.hid (els_get h).2
  have HW := Lib.hid hw; have HDP := Lib.hid hdep
  clear h hw hdep
  have i1 : ¬ (M.els.length : Int) = 0 := by omega
  have i2 : ¬ (256 : Int) < (M.els.length : Int) := by omega
  have i3 : ((M.els.length : Int) == 0) = false := by simp; exact fun hh => hne (by rw [hh]; rfl)
  go_enter Tryz.func5, Tryz.ntmps5
  go_upto_region 6 with fail
  go_loopg [20] M.els.length (fun gn v20 wj => ∃ i : Nat, Hid (gn + i = M.els.length ∧ i ≤ M.els.length) ∧ v20 = .int .i64 i ∧ w.grows wj ∧ Hid (elsErr (-1) M.els = elsErr (lastI (M.els.take i)) (M.els.drop i)))
  case atStart => exact ⟨0, Lib.hid ⟨by simp, Nat.zero_le _⟩, by go_num, (by repeat (with_reducible first | assumption | exact grA | apply grB | apply grC | apply grD | refine grE ?_ (by omega) _ | refine grF ?_ (by omega) _ _)), Lib.hid (by simp [lastI])⟩
  case round =>
    obtain ⟨i, HQ, rfl, hgj, HL⟩ := hrel
    obtain ⟨j1, j2⟩ := HQ.out
    by_cases hlt : i < M.els.length
    · have iI : (i : Int) < (M.els.length : Int) := by omega
      rcases HE.out with h0 | ⟨g, off, rfl, e1⟩
      · rw [h0] at hlt; simp at hlt
      have hgt := List.getElem?_eq_getElem hlt
      have hmem := List.getElem_mem hlt
      have hlast2 := lastI_take hgt
      have hst := elsErr_at (last := lastI (M.els.take i)) hgt
      rw [← HL.out] at hst
      obtain ⟨cs, l1, k1, ka, aa, kc, ac, rfl, hks, hats⟩ := e1 i _ hgt
      generalize M.els[i] = e at *
      have k2 := k1.grows hgj
      have z3 := lt_sz k2.lt
      obtain ⟨u1, u2⟩ := k2
      rw [l1] at u1 u2
      have hew := HW.out e hmem
      obtain ⟨w1, w2', w3, w4, w5, w6, w7, w8⟩ := id hew
      have HNM := Lib.hid (fun (W : World) => refName_any e.tag W w3)
      have HBX := Lib.hid (fun (W : World) => refBox_any e.bx.ty e.bx.nm e.bx.a e.bx.b e.bx.c e.bx.d W w6.2.1 w6.2.2.1.1 w6.2.2.1.2 w6.2.2.2.1.1 w6.2.2.2.1.2 w6.2.2.2.2.1.1 w6.2.2.2.2.1.2 w6.2.2.2.2.2.1 w6.2.2.2.2.2.2)
      have HAT := Lib.hid (fun (W : World) (hW : w.grows W) => refAttrs_any W e.at' aa ac (hats.grows hW fun _ _ _ h => h) w5 w7)
      obtain ⟨n1, hn1⟩ : ∃ n1, n1 = i + 1 := ⟨_, rfl⟩
      have HST := Lib.hid (fun hz : e.err (lastI (M.els.take i)) = 0 => (show elsErr (-1) M.els = elsErr (lastI (M.els.take n1)) (M.els.drop n1) by rw [hn1, hst, if_neg (by simp [hz]), hlast2]))
      have HSE := Lib.hid (fun hz : e.err (lastI (M.els.take i)) ≠ 0 => (show elsErr (-1) M.els = e.err (lastI (M.els.take i)) by rw [hst, if_pos hz]))
      have hprev : i = 0 ∧ lastI (M.els.take i) = -1 ∨ ∃ (j : Nat) (y : El), i = j + 1 ∧ M.els[j]? = some y ∧ lastI (M.els.take i) = y.id := by
        cases i with
        | zero => exact .inl ⟨rfl, by simp [lastI]⟩
        | succ j => exact .inr ⟨j, _, rfl, List.getElem?_eq_getElem (by omega), lastI_take (List.getElem?_eq_getElem (by omega))⟩
      have HE1 := Lib.hid e1
      generalize lastI (M.els.take i) = lc at *
      clear e1 hks hats k1 hgt hmem hst hlast2 w1 w2' w3 w4 w5 w6 w8
      -- what is behind the number's check
      by_cases hbad : e.id < 0 ∨ 1073741824 < e.id ∨ e.id ≤ lc
      · have her : e.err lc = 13 := by unfold El.err; rw [if_pos hbad]
        have HANS := Lib.hid (HSE.out (by rw [her]; decide))
        rw [her] at HANS
        clear her
        by_cases b0 : e.id < 0
        · go_upto_region 8 with fail
          refine wp_region_plus_lit (by kernel_rfl) (by kernel_rfl) ?_
          repeat (go_big_quiet_step (fail))
          (refine wpQuiet_nil ?_; intro _ hw'; obtain ⟨xq, hw''⟩ := hw'; subst hw'')
          go_wp2_with fail
          go_ret2
          exact ⟨World.grows.trans hgj (by repeat (with_reducible first | assumption | exact grA | apply grB | apply grC | apply grD | refine grE ?_ (by omega) _ | refine grF ?_ (by omega) _ _)), .inl ⟨by rw [HANS.out]; decide, by rw [HANS.out]; rfl⟩⟩
        by_cases b1 : (1073741824 : Int) < e.id
        · clear hbad
          go_upto_region 8 with fail
          refine wp_region_plus_lit (by kernel_rfl) (by kernel_rfl) ?_
          repeat (go_big_quiet_step (fail))
          (refine wpQuiet_nil ?_; intro _ hw'; obtain ⟨xq, hw''⟩ := hw'; subst hw'')
          go_wp2_with fail
          go_ret2
          exact ⟨World.grows.trans hgj (by repeat (with_reducible first | assumption | exact grA | apply grB | apply grC | apply grD | refine grE ?_ (by omega) _ | refine grF ?_ (by omega) _ _)), .inl ⟨by rw [HANS.out]; decide, by rw [HANS.out]; rfl⟩⟩
        rcases hprev with ⟨rfl, hlc⟩ | ⟨j, y, rfl, hy, hlc⟩
        · omega
        · have b2 : e.id ≤ y.id := by omega
          obtain ⟨cs', l', k', ka', aa', kc', ac', rfl, _, _⟩ := HE1.out j y hy
          have k3 := k'.grows hgj
          have z4 := lt_sz k3.lt
          have c3 := k3.cell (j := 0) rfl
          rw [World.cell?_row, Nat.add_zero] at c3
          clear hbad k' k3 hy hlc
          go_upto_region 8 with fail
          refine wp_region_plus_lit (by kernel_rfl) (by kernel_rfl) ?_
          repeat (go_big_quiet_step (fail))
          (refine wpQuiet_nil ?_; intro _ hw'; obtain ⟨xq, hw''⟩ := hw'; subst hw'')
          go_wp2_with fail
          go_ret2
          exact ⟨World.grows.trans hgj (by repeat (with_reducible first | assumption | exact grA | apply grB | apply grC | apply grD | refine grE ?_ (by omega) _ | refine grF ?_ (by omega) _ _)), .inl ⟨by rw [HANS.out]; decide, by rw [HANS.out]; rfl⟩⟩
      have b0 : ¬ e.id < 0 := by omega
      have b1 : ¬ (1073741824 : Int) < e.id := by omega
      have b2' : ¬ e.id ≤ lc := by omega
      have her : e.err lc = if nameB e.tag.data.toList = false then 10 else if 16 < e.at'.length then 6 else if atErr none e.at' ≠ 0 then atErr none e.at' else if boxE e.bx = false then 8 else 0 := by unfold El.err; rw [if_neg hbad]
      have HER := Lib.hid her
      clear hbad her
      rcases hprev with ⟨rfl, hlc⟩ | ⟨j, y, rfl, hy, hlc⟩
      case' inl =>
        clear hlc b2'
        rw [Nat.zero_mul, Nat.add_zero] at u1 u2
        go_upto_region 8 with fail
        refine wp_region_plus_lit (by kernel_rfl) (by kernel_rfl) ?_
        repeat (go_big_quiet_step (fail))
        (refine wpQuiet_nil ?_; intro _ hw'; obtain ⟨xq, hw''⟩ := hw'; subst hw'')
        go_upto_region 10 with fail
      case' inr =>
        have b2 : ¬ e.id ≤ y.id := by omega
        obtain ⟨cs', l', k', ka', aa', kc', ac', rfl, _, _⟩ := HE1.out j y hy
        have k3 := k'.grows hgj
        have z4 := lt_sz k3.lt
        have c3 := k3.cell (j := 0) rfl
        rw [World.cell?_row, Nat.add_zero] at c3
        clear k' k3 hy hlc b2'
        go_upto_region 8 with fail
        refine wp_region_plus_lit (by kernel_rfl) (by kernel_rfl) ?_
        repeat (go_big_quiet_step (fail))
        (refine wpQuiet_nil ?_; intro _ hw'; obtain ⟨xq, hw''⟩ := hw'; subst hw'')
        go_upto_region 10 with fail
        clear c3 z4 b2
      all_goals
        clear u1 u2 z3 b0 b1
        cases hnt : nameB e.tag.data.toList with
        | false =>
          have HANS := Lib.hid (show elsErr (-1) M.els = 10 by
            have h1 := HER.out
            rw [if_pos hnt] at h1
            have h2 := HSE.out (by rw [h1]; decide)
            rw [h2, h1])
          rw [hnt] at HNM
          clear hnt
          go_wp2_with (first | (go_at_call 14; (with_reducible refine (HNM.out _).mono ?_); rintro e w1 ⟨rfl, x1, rfl⟩) | (go_at_call 16; (with_reducible refine (HBX.out _).mono ?_); rintro e w1 ⟨rfl, x1, rfl⟩) | (go_at_call 15; go_loud ((with_reducible refine (HAT.out _ (by repeat (with_reducible first | assumption | exact grA | apply grB | apply grC | apply grD | refine grE ?_ (by omega) _ | refine grF ?_ (by omega) _ _))).mono ?_); rintro r wq ⟨rfl, xa, rfl⟩)))
          go_ret2
          exact ⟨World.grows.trans hgj (by repeat (with_reducible first | assumption | exact grA | apply grB | apply grC | apply grD | refine grE ?_ (by omega) _ | refine grF ?_ (by omega) _ _)), .inl ⟨by rw [HANS.out]; exact (by decide), by rw [HANS.out]; rfl⟩⟩
        | true =>
        rw [hnt] at HNM
        by_cases h17 : 16 < e.at'.length
        · have b4 : (16 : Int) < (e.at'.length : Int) := by omega
          have HANS := Lib.hid (show elsErr (-1) M.els = 6 by
            have h1 := HER.out
            rw [if_neg (by simp [hnt]), if_pos h17] at h1
            have h2 := HSE.out (by rw [h1]; decide)
            rw [h2, h1])
          clear hnt
          go_wp2_with (first | (go_at_call 14; (with_reducible refine (HNM.out _).mono ?_); rintro e w1 ⟨rfl, x1, rfl⟩) | (go_at_call 16; (with_reducible refine (HBX.out _).mono ?_); rintro e w1 ⟨rfl, x1, rfl⟩) | (go_at_call 15; go_loud ((with_reducible refine (HAT.out _ (by repeat (with_reducible first | assumption | exact grA | apply grB | apply grC | apply grD | refine grE ?_ (by omega) _ | refine grF ?_ (by omega) _ _))).mono ?_); rintro r wq ⟨rfl, xa, rfl⟩)))
          go_ret2
          exact ⟨World.grows.trans hgj (by repeat (with_reducible first | assumption | exact grA | apply grB | apply grC | apply grD | refine grE ?_ (by omega) _ | refine grF ?_ (by omega) _ _)), .inl ⟨by rw [HANS.out]; exact (by decide), by rw [HANS.out]; rfl⟩⟩
        have b4 : ¬ (16 : Int) < (e.at'.length : Int) := by omega
        by_cases h18 : atErr none e.at' = 0
        case neg =>
          have HANS := Lib.hid (show elsErr (-1) M.els = atErr none e.at' by
            have h1 := HER.out
            rw [if_neg (by simp [hnt]), if_neg h17, if_pos h18] at h1
            have h2 := HSE.out (by rw [h1]; exact h18)
            rw [h2, h1])
          have H18 := Lib.hid h18
          have hb5 : (atErr none e.at' == 0) = false := by simpa using h18
          have hb6 : (atErr none e.at' != 0) = true := by simpa using h18
          clear hnt
          generalize atErr none e.at' = ae at *
          go_wp2_with (first | (go_at_call 14; (with_reducible refine (HNM.out _).mono ?_); rintro e w1 ⟨rfl, x1, rfl⟩) | (go_at_call 16; (with_reducible refine (HBX.out _).mono ?_); rintro e w1 ⟨rfl, x1, rfl⟩) | (go_at_call 15; go_loud ((with_reducible refine (HAT.out _ (by repeat (with_reducible first | assumption | exact grA | apply grB | apply grC | apply grD | refine grE ?_ (by omega) _ | refine grF ?_ (by omega) _ _))).mono ?_); rintro r wq ⟨rfl, xa, rfl⟩)))
          go_ret2
          exact ⟨World.grows.trans hgj (by repeat (with_reducible first | assumption | exact grA | apply grB | apply grC | apply grD | refine grE ?_ (by omega) _ | refine grF ?_ (by omega) _ _)), .inl ⟨by rw [HANS.out]; exact H18.out, by rw [HANS.out]; rfl⟩⟩
        rw [h18] at HAT
        cases hbx : boxB e.bx.ty e.bx.nm.data.toList e.bx.a e.bx.b e.bx.c e.bx.d with
        | false =>
          have HANS := Lib.hid (show elsErr (-1) M.els = 8 by
            have h1 := HER.out
            rw [if_neg (by simp [hnt]), if_neg h17, if_neg (by simp [h18]), if_pos (show boxE e.bx = false from hbx)] at h1
            have h2 := HSE.out (by rw [h1]; decide)
            rw [h2, h1])
          rw [hbx] at HBX
          clear hnt h18 hbx
          go_wp2_with (first | (go_at_call 14; (with_reducible refine (HNM.out _).mono ?_); rintro e w1 ⟨rfl, x1, rfl⟩) | (go_at_call 16; (with_reducible refine (HBX.out _).mono ?_); rintro e w1 ⟨rfl, x1, rfl⟩) | (go_at_call 15; go_loud ((with_reducible refine (HAT.out _ (by repeat (with_reducible first | assumption | exact grA | apply grB | apply grC | apply grD | refine grE ?_ (by omega) _ | refine grF ?_ (by omega) _ _))).mono ?_); rintro r wq ⟨rfl, xa, rfl⟩)))
          go_ret2
          exact ⟨World.grows.trans hgj (by repeat (with_reducible first | assumption | exact grA | apply grB | apply grC | apply grD | refine grE ?_ (by omega) _ | refine grF ?_ (by omega) _ _)), .inl ⟨by rw [HANS.out]; exact (by decide), by rw [HANS.out]; rfl⟩⟩
        | true =>
        have HS2 := Lib.hid (HST.out (by
          have h1 := HER.out
          rwa [if_neg (by simp [hnt]), if_neg h17, if_neg (by simp [h18]), if_neg (by rw [show boxE e.bx = true from hbx]; simp)] at h1))
        rw [hbx] at HBX
        clear hnt h18 hbx
        go_wp2_with (first | (go_at_call 14; (with_reducible refine (HNM.out _).mono ?_); rintro e w1 ⟨rfl, x1, rfl⟩) | (go_at_call 16; (with_reducible refine (HBX.out _).mono ?_); rintro e w1 ⟨rfl, x1, rfl⟩) | (go_at_call 15; go_loud ((with_reducible refine (HAT.out _ (by repeat (with_reducible first | assumption | exact grA | apply grB | apply grC | apply grD | refine grE ?_ (by omega) _ | refine grF ?_ (by omega) _ _))).mono ?_); rintro r wq ⟨rfl, xa, rfl⟩)))
        go_roundg (M.els.length - n1)
        case measure => omega
        case rel => exact ⟨n1, Lib.hid ⟨by omega, by omega⟩, by rw [hn1]; go_num, World.grows.trans hgj (by repeat (with_reducible first | assumption | exact grA | apply grB | apply grC | apply grD | refine grE ?_ (by omega) _ | refine grF ?_ (by omega) _ _)), HS2⟩
    · have iI : ¬ (i : Int) < (M.els.length : Int) := by omega
      have herr : elsErr (-1) M.els = 0 := by rw [HL.out, List.drop_eq_nil_of_le (by omega)]; rfl
      have HFI := Lib.hid (elsErr_ok herr)
      have HER := Lib.hid herr
      obtain ⟨m, hm⟩ : ∃ m, M.els.length = m + 1 := ⟨M.els.length - 1, by omega⟩
      rcases HE.out with h0 | ⟨g, off, rfl, e1⟩
      · rw [h0] at hne; simp at hne
      have hgt : M.els[m]? = some (M.els[m]'(by omega)) := List.getElem?_eq_getElem _
      have hlast : lastI M.els = (M.els[m]'(by omega)).id := by
        have := lastI_take hgt
        rwa [← hm, List.take_length] at this
      have hlm := List.getElem_mem (show m < M.els.length by omega)
      obtain ⟨cs, l1, k1, ka, aa, kc, ac, rfl, _, _⟩ := e1 m _ hgt
      have HLL := Lib.hid hlast
      have hlt0 := (HFI.out.1 _ hlm).1.low
      have hlt1 := (HFI.out.1 _ hlm).1.top
      generalize M.els[m]'(by omega) = el at *
      have k2 := k1.grows hgj
      have z3 := lt_sz k2.lt
      have c3 := k2.cell (j := 0) rfl
      rw [World.cell?_row, Nat.add_zero] at c3
      have HE1 := Lib.hid e1
      clear e1 k1 k2 hgt hlm hlast HL herr iI j1 j2 HQ
      simp only [hm]
      go_upto_region 22 with fail
      have hgB : w.grows (wr.alloc (.cells #[.slice none 0 0, .int .i64 (el.id + 1)] 58)) := World.grows.alloc hgj _
      have HR0 := Lib.hid (show R2 w (wr.alloc (.cells #[.slice none 0 0, .int .i64 (el.id + 1)] 58)) wr.heap.size (.slice none 0 0) (el.id + 1) [] from ⟨hgB, by simp [go_sem], ⟨[], rfl, fun i x cs q1 => by simp at q1, World.ownsRow_nil _ _ _ _⟩, hgj.below.size⟩)
      generalize (wr.alloc (.cells #[.slice none 0 0, .int .i64 (el.id + 1)] 58)) = wB at *
      generalize wr.heap.size = tb at *
      clear c3 z3 hgB
      go_loopg [82] (m + 1) (fun gn v82 wj => ∃ (i : Nat) (v : Value), Hid (gn + i = m + 1 ∧ i ≤ m + 1) ∧ v82 = .int .i64 i ∧ Hid (R2 w wj tb v (el.id + 1) (M.els.take i)))
      case atStart => exact ⟨0, _, Lib.hid ⟨by simp, Nat.zero_le _⟩, by go_num, Lib.hid (by simpa using HR0.out)⟩
      case round =>
        obtain ⟨i, v, HQ, rfl, HR⟩ := hrel
        obtain ⟨j1, j2⟩ := HQ.out
        have hgr := HR.out.gr
        by_cases hlt : i < m + 1
        · have iI : (i : Int) < ((m : Int) + 1) := by omega
          have hgt : M.els[i]? = some (M.els[i]'(by omega)) := List.getElem?_eq_getElem _
          have HTK := Lib.hid (show M.els.take (i + 1) = M.els.take i ++ [M.els[i]'(by omega)] by rw [List.take_add_one, hgt]; rfl)
          have hmem := List.getElem_mem (show i < M.els.length by omega)
          obtain ⟨cs, l1, k1, ka, aa, kc, ac, rfl, hks, hats⟩ := HE1.out i _ hgt
          generalize M.els[i]'(by omega) = e at *
          have k2 := k1.grows hgr
          have z3 := lt_sz k2.lt
          obtain ⟨u1, u2⟩ := k2
          rw [l1] at u1 u2
          have hew := HW.out e hmem
          have HCP := Lib.hid (fun (W : World) (hg : w.grows W) => refCloneG_any W e ka aa kc ac (hks.grows hg fun _ _ _ h => h) (hats.grows hg fun _ _ _ h => h) hew.2.2.2.2.2.2.2 hew.2.2.2.2.2.2.1)
          clear hks hats k1 hgt hmem hew
          go_upto_region 24 with fail
          have hgA : wr.grows (wr.alloc (.cells #[.int .i64 e.id, .int .i64 e.p, .string e.tag, .slice ka e.ks.length kc, .slice aa e.at'.length ac, .int .i64 e.bx.ty, .string e.bx.nm, .int .i64 e.bx.a, .int .i64 e.bx.b, .int .i64 e.bx.c, .int .i64 e.bx.d] 49)) := (by repeat (with_reducible first | assumption | exact grA | apply grB | apply grC | apply grD | refine grE ?_ (by omega) _ | refine grF ?_ (by omega) _ _))
          have hqA : (wr.alloc (.cells #[.int .i64 e.id, .int .i64 e.p, .string e.tag, .slice ka e.ks.length kc, .slice aa e.at'.length ac, .int .i64 e.bx.ty, .string e.bx.nm, .int .i64 e.bx.a, .int .i64 e.bx.b, .int .i64 e.bx.c, .int .i64 e.bx.d] 49)).row wr.heap.size = some (.cells #[.int .i64 e.id, .int .i64 e.p, .string e.tag, .slice ka e.ks.length kc, .slice aa e.at'.length ac, .int .i64 e.bx.ty, .string e.bx.nm, .int .i64 e.bx.a, .int .i64 e.bx.b, .int .i64 e.bx.c, .int .i64 e.bx.d] 49) := by simp [go_sem]
          have hszA : wr.heap.size < (wr.alloc (.cells #[.int .i64 e.id, .int .i64 e.p, .string e.tag, .slice ka e.ks.length kc, .slice aa e.at'.length ac, .int .i64 e.bx.ty, .string e.bx.nm, .int .i64 e.bx.a, .int .i64 e.bx.b, .int .i64 e.bx.c, .int .i64 e.bx.d] 49)).heap.size := by simp
          generalize wr.alloc (.cells #[.int .i64 e.id, .int .i64 e.p, .string e.tag, .slice ka e.ks.length kc, .slice aa e.at'.length ac, .int .i64 e.bx.ty, .string e.bx.nm, .int .i64 e.bx.a, .int .i64 e.bx.b, .int .i64 e.bx.c, .int .i64 e.bx.d] 49) = wA at *
          have hxr := HR.out.head
          have hxA : wA.row tb = _ := (hgA.row_eq (row_sz' hxr).1).trans hxr
          have htl := (row_sz' hxr).1
          obtain ⟨css, l1', l2', l3'⟩ := HR.out.els
          have hlen : (M.els.take i).length = i := by simp; omega
          obtain ⟨av, cv, rfl⟩ := own_slice l3'
          rw [hlen] at hxA hxr l2' l3'
          have HL2 := Lib.hid l2'
          have HL3 := Lib.hid l3'
          have hvb : ∀ g, (Value.slice av i cv).ownBlock = some g → g < wr.heap.size := fun g hg => (l3'.lt g hg).2
          have HVB := Lib.hid hvb
          have hgn : (Value.slice av i cv).ownBlock ≠ some wA.heap.size := fun hh => by have := hvb _ hh; omega
          clear u1 u2 z3 l2' l3' hxr hvb
          generalize hbx : wr.heap.size = bx at hqA
          refine wp_region_seq_tail (S := fun W => W.row tb = some (.cells #[.slice av i cv, .int .i64 (el.id + 1)] 58) ∧ W.row bx = some (.cells #[.int .i64 e.id, .int .i64 e.p, .string e.tag, .slice ka e.ks.length kc, .slice aa e.at'.length ac, .int .i64 e.bx.ty, .string e.bx.nm, .int .i64 e.bx.a, .int .i64 e.bx.b, .int .i64 e.bx.c, .int .i64 e.bx.d] 49) ∧ Hid True) 11 (by kernel_rfl) (by kernel_rfl) ⟨hxA, hqA, Lib.hid trivial⟩ ?_
          simp only [List.take_succ_cons, List.take_zero, List.drop_succ_cons, List.drop_zero]
          show wpSeqL _ _ _ _ _ _ (World.drew wA)
          have hdd : wA.grows (World.drew wA) := World.grows.drew World.grows.refl
          have hs0 : (World.drew wA).heap.size = wA.heap.size := rfl
          have hxE : (World.drew wA).row tb = _ := hxA
          have hqE : (World.drew wA).row bx = _ := hqA
          generalize World.drew wA = wE at *
          (refine wpSeqL_free rfl ?_; refine wpQuiet_step (fun K hK => ?_); rw [if_pos (by simp [Region.wanted])]; refine ⟨.pointer (some ⟨tb, 0, none⟩), fun w' hw' => ?_, ?_⟩; (focus (obtain ⟨r1, r2, r3⟩ := hw'; have s1 := row_sz' r1; have s2 := row_sz' r2; simp [Oper.quietAt, Oper.quietUpon, go_sem, r1, r2, r3, s1, s2])); go_simp; refine hK _ ?_; clear hK K; refine wpQuiet_nil ?_)
          (refine wpSeqL_free rfl ?_; refine wpQuiet_step (fun K hK => ?_); rw [if_pos (by simp [Region.wanted])]; refine ⟨.pointer (some ⟨tb, 0, none⟩), fun w' hw' => ?_, ?_⟩; (focus (obtain ⟨r1, r2, r3⟩ := hw'; have s1 := row_sz' r1; have s2 := row_sz' r2; simp [Oper.quietAt, Oper.quietUpon, go_sem, r1, r2, r3, s1, s2])); go_simp; refine hK _ ?_; clear hK K; refine wpQuiet_nil ?_)
          (refine wpSeqL_free rfl ?_; refine wpQuiet_step (fun K hK => ?_); rw [if_pos (by simp [Region.wanted])]; refine ⟨.pointer (some ⟨tb, 0, none⟩), fun w' hw' => ?_, ?_⟩; (focus (obtain ⟨r1, r2, r3⟩ := hw'; have s1 := row_sz' r1; have s2 := row_sz' r2; simp [Oper.quietAt, Oper.quietUpon, go_sem, r1, r2, r3, s1, s2])); go_simp; refine hK _ ?_; clear hK K; refine wpQuiet_nil ?_)
          (refine wpSeqL_free rfl ?_; refine wpQuiet_step (fun K hK => ?_); rw [if_pos (by simp [Region.wanted])]; refine ⟨.pointer (some ⟨tb, 0, none⟩), fun w' hw' => ?_, ?_⟩; (focus (obtain ⟨r1, r2, r3⟩ := hw'; have s1 := row_sz' r1; have s2 := row_sz' r2; simp [Oper.quietAt, Oper.quietUpon, go_sem, r1, r2, r3, s1, s2])); go_simp; refine hK _ ?_; clear hK K; refine wpQuiet_nil ?_)
          (refine wpSeqL_free rfl ?_; refine wpQuiet_step (fun K hK => ?_); rw [if_pos (by simp [Region.wanted])]; refine ⟨.slice av i cv, fun w' hw' => ?_, ?_⟩; (focus (obtain ⟨r1, r2, r3⟩ := hw'; have s1 := row_sz' r1; have s2 := row_sz' r2; simp [Oper.quietAt, Oper.quietUpon, go_sem, r1, r2, r3, s1, s2])); go_simp; refine hK _ ?_; clear hK K; refine wpQuiet_nil ?_)
          (refine wpSeqL_free rfl ?_; refine wpQuiet_step (fun K hK => ?_); rw [if_pos (by simp [Region.wanted])]; refine ⟨.agg #[.int .i64 e.id, .int .i64 e.p, .string e.tag, .slice ka e.ks.length kc, .slice aa e.at'.length ac, .int .i64 e.bx.ty, .string e.bx.nm, .int .i64 e.bx.a, .int .i64 e.bx.b, .int .i64 e.bx.c, .int .i64 e.bx.d], fun w' hw' => ?_, ?_⟩; (focus (obtain ⟨r1, r2, r3⟩ := hw'; have s1 := row_sz' r1; have s2 := row_sz' r2; simp [Oper.quietAt, Oper.quietUpon, go_sem, r1, r2, r3, s1, s2])); go_simp; refine hK _ ?_; clear hK K; refine wpQuiet_nil ?_)
          refine wpSeqL_link rfl (fun K hK => ?_)
          go_simp
          have hgE : wr.grows wE := hgA.trans hdd
          (go_at_call 17; go_loud ((with_reducible refine (HCP.out _ (hgr.trans hgE)).mono ?_); rintro r wC ⟨ka', aa', kc', ac', rfl, hgC, hkC, haC⟩))
          have hxC : wC.row tb = _ := (hgC.row_eq (row_sz' hxE).1).trans hxE
          have hqC : wC.row bx = _ := (hgC.row_eq (row_sz' hqE).1).trans hqE
          refine ⟨_, rfl, hK _ _ ⟨hxC, hqC, Lib.hid trivial⟩ ?_⟩
          clear hK K
          refine wpSeqL_link rfl (fun K hK => ?_)
          go_simp
          have hgL : wC.grows (wC.alloc (.cells #[.int .i64 e.id, .int .i64 e.p, .string e.tag, .slice ka' e.ks.length kc', .slice aa' e.at'.length ac', .int .i64 e.bx.ty, .string e.bx.nm, .int .i64 e.bx.a, .int .i64 e.bx.b, .int .i64 e.bx.c, .int .i64 e.bx.d] 49)) := World.grows.alloc World.grows.refl _
          have hnL : (wC.alloc (.cells #[.int .i64 e.id, .int .i64 e.p, .string e.tag, .slice ka' e.ks.length kc', .slice aa' e.at'.length ac', .int .i64 e.bx.ty, .string e.bx.nm, .int .i64 e.bx.a, .int .i64 e.bx.b, .int .i64 e.bx.c, .int .i64 e.bx.d] 49)).row wC.heap.size = some (.cells #[.int .i64 e.id, .int .i64 e.p, .string e.tag, .slice ka' e.ks.length kc', .slice aa' e.at'.length ac', .int .i64 e.bx.ty, .string e.bx.nm, .int .i64 e.bx.a, .int .i64 e.bx.b, .int .i64 e.bx.c, .int .i64 e.bx.d] 49) := by simp [go_sem]
          have hsL : (wC.alloc (.cells #[.int .i64 e.id, .int .i64 e.p, .string e.tag, .slice ka' e.ks.length kc', .slice aa' e.at'.length ac', .int .i64 e.bx.ty, .string e.bx.nm, .int .i64 e.bx.a, .int .i64 e.bx.b, .int .i64 e.bx.c, .int .i64 e.bx.d] 49)).heap.size = wC.heap.size + 1 := by simp
          have hxL := (hgL.row_eq (row_sz' hxC).1).trans hxC
          have hqL := (hgL.row_eq (row_sz' hqC).1).trans hqC
          refine hK _ _ ⟨hxL, hqL, Lib.hid trivial⟩ ?_
          clear hK K
          generalize wC.alloc (.cells #[.int .i64 e.id, .int .i64 e.p, .string e.tag, .slice ka' e.ks.length kc', .slice aa' e.at'.length ac', .int .i64 e.bx.ty, .string e.bx.nm, .int .i64 e.bx.a, .int .i64 e.bx.b, .int .i64 e.bx.c, .int .i64 e.bx.d] 49) = wL at *
          have hgrC : wr.grows wC := hgE.trans hgC
          have hgrL : wr.grows wL := hgrC.trans hgL
          have sE := hgE.below.size
          have sC := hgC.below.size
          have hl3 : wL.ownsRow (tb + 1) 49 11 (.slice av i cv) i css.flatten := HL3.out.grows hgrL
          refine wpSeqL_appO (tb + 1) rfl rfl (.tmp 90) (.tmp 93) 22 rfl 49 (.agg #[.int .i64 0, .int .i64 0, .string ByteArray.empty, .slice none 0 0, .slice none 0 0, .int .i64 0, .string ByteArray.empty, .int .i64 0, .int .i64 0, .int .i64 0, .int .i64 0]) 11 136 Tryz.underlying22 (by kernel_rfl) rfl (by omega) (by omega) _ i _ rfl hl3 (some ⟨wC.heap.size, 0, none⟩) 1 1 [.int .i64 e.id, .int .i64 e.p, .string e.tag, .slice ka' e.ks.length kc', .slice aa' e.at'.length ac', .int .i64 e.bx.ty, .string e.bx.nm, .int .i64 e.bx.a, .int .i64 e.bx.b, .int .i64 e.bx.c, .int .i64 e.bx.d] rfl rfl (.inr ⟨_, rfl, fun j u hu => ?_⟩) (by simp [Value.oneCell']) (by omega) (by omega) ?_
          · exact cells_of_row (e := 49) (fr := (0, 0)) (by rw [hnL]) j u hu
          intro v14 wM p1 p2 p3
          obtain ⟨a14, c14, rfl⟩ := own_slice p1
          have hxM : wM.row tb = _ := World.row_grown p2 hxL (fun hh => by have := (hl3.lt tb hh.symm).1; omega)
          have hqM : wM.row bx = _ := World.row_grown p2 hqL (fun hh => by have := HVB.out bx hh.symm; omega)
          have zxM := row_sz' hxM
          refine ⟨⟨hxM, hqM, Lib.hid trivial⟩, ?_⟩
          go_simp
          (refine wpSeqL_free rfl ?_; refine wpQuiet_step (fun K hK => ?_); rw [if_pos (by simp [Region.wanted])]; refine ⟨.pointer (some ⟨tb, 0, none⟩), fun w' hw' => ?_, ?_⟩; (focus (obtain ⟨r1, r2, r3⟩ := hw'; have s1 := row_sz' r1; have s2 := row_sz' r2; simp [Oper.quietAt, Oper.quietUpon, go_sem, r1, r2, r3, s1, s2])); go_simp; refine hK _ ?_; clear hK K; refine wpQuiet_nil ?_)
          (refine wpSeqL_free rfl ?_; refine wpQuiet_step (fun K hK => ?_); rw [if_pos (by simp [Region.wanted])]; refine ⟨.pointer (some ⟨tb, 0, none⟩), fun w' hw' => ?_, ?_⟩; (focus (obtain ⟨r1, r2, r3⟩ := hw'; have s1 := row_sz' r1; have s2 := row_sz' r2; simp [Oper.quietAt, Oper.quietUpon, go_sem, r1, r2, r3, s1, s2])); go_simp; refine hK _ ?_; clear hK K; refine wpQuiet_nil ?_)
          refine wpSeqL_end ?_
          go_wp2_with fail
          have p2' : wL.grownBy wM (Value.slice av i cv).ownBlock := p2
          have p3' : (Value.slice a14 (i + 1) c14).ownBlock = (Value.slice av i cv).ownBlock ∨ (Value.slice a14 (i + 1) c14).ownBlock = some wL.heap.size := p3
          have hlo := HR.out.lo
          have sM := p2'.size
          have hsW : (wM.setCell ⟨tb, 0, none⟩ (.slice a14 (i + 1) c14)).heap.size = wM.heap.size := World.setCell_size' _ _ _
          have hgW : w.grows (wM.setCell ⟨tb, 0, none⟩ (.slice a14 (i + 1) c14)) := grF (World.grows.grown (hgr.trans hgrL) p2' (fun k hk => by have := (hl3.lt k hk).1; omega)) hlo _ _
          have hR' := HR.out
          rw [hlen] at hR'
          have HN := Lib.hid (R2.step (wE := wE) (wC := wC) (wL := wL) (W := (wM.setCell ⟨tb, 0, none⟩ (.slice a14 (i + 1) c14))) hR' l1' HL2.out hgW (by omega) sC (by omega) (by omega) hkC haC (fun g hg => hgrC.row_eq hg) (fun g h1 h2 h3 => by
            rw [World.row_setCell, if_neg h2, World.row_grow p2' (by omega) (fun hh => h3 hh.symm)]
            exact hgL.row_eq h1) (by rw [World.row_setCell, if_pos rfl, hxM]; rfl) HVB.out (by
            rw [hlen]
            refine ownsRow_row p1 fun g hg => ?_
            rw [World.row_setCell, if_neg (by have := (p1.lt g hg).1; omega)]) p3')
          rw [← HTK.out] at HN
          clear p1 p2 p3 p2' p3' hgW hR' hxM hqM zxM hl3 hkC haC hgL hgrC hgrL hxL hqL hxC hqC hgC hxE hqE hdd hgE hnL
          go_roundg (m + 1 - (i + 1))
          case measure => omega
          case rel => exact ⟨i + 1, _, Lib.hid ⟨by omega, by omega⟩, by go_num, HN⟩
        · have iI : ¬ (i : Int) < ((m : Int) + 1) := by omega
          have HRR := Lib.hid (show R2 w wr tb v (el.id + 1) M.els by have := HR.out; rwa [List.take_of_length_le (by omega)] at this)
          have HWH := Lib.hid (refWhole_any wr tb v ⟨0, el.id + 1, M.els⟩ (HRR.out.refR 0) HFI.out.2 (fun e he => (HFI.out.1 e he).1.low) hfew HW.out)
          have HBJ := Lib.hid (show ∀ b, (b = true ↔ Jnd ⟨0, el.id + 1, M.els⟩) → (b = true ↔ Jnd M) from fun b hb => hb.trans ⟨Jnd_els rfl, Jnd_els rfl⟩)
          have hgr := HRR.out.gr
          clear HR HQ j1 j2
          by_cases hJM : Jnd M
          case neg =>
            go_wp2_with (go_at_call 18; go_loud ((with_reducible refine (HWH.out).mono ?_); rintro r w9 ⟨b, rfl, hg9, hbj⟩; (obtain rfl : b = false := (by cases b; rfl; exact absurd ((HBJ.out _ hbj).1 rfl) hJM))))
            go_ret2
            exact ⟨hgr.trans hg9, .inr ⟨HER.out, .inl ⟨hJM, rfl⟩⟩⟩
          obtain ⟨rr, hrr, hD⟩ := HDP.out hJM HER.out
          have HD := Lib.hid (show Dep0 ⟨0, el.id + 1, M.els⟩ rr dep from ⟨hD.root, hD.kid, hD.pos, hD.top, hD.par⟩)
          have HS := Lib.hid (show Shp0 ⟨0, el.id + 1, M.els⟩ rr from by
            have h1 := Jnd_els (M := M) (N := ⟨0, el.id + 1, M.els⟩) rfl hJM
            exact shp_of HFI.out.2 (fun e he => (HFI.out.1 e he).1.low) hfew h1.1 (isR_el (M := M) hrr))
          have HJM := Lib.hid hJM
          clear hJM hrr hD
          go_upto_region 28 with (go_at_call 18; go_loud ((with_reducible refine (HWH.out).mono ?_); rintro r w9 ⟨b, rfl, hg9, hbj⟩; (obtain rfl : b = true := (HBJ.out _ hbj).2 HJM.out)))
          have HR9 := Lib.hid (HRR.out.grows hg9)
          have hgw9 := hgr.trans hg9
          clear hbj
          go_upto_region 29 with fail
          go_loopg [103] (m + 1) (fun gn v103 wj => ∃ i : Nat, Hid (gn + i = m + 1 ∧ i ≤ m + 1) ∧ v103 = .int .i64 i ∧ w9.grows wj ∧ Hid (∀ e ∈ M.els.take i, dep e.id ≤ 32))
          case atStart => exact ⟨0, Lib.hid ⟨by simp, Nat.zero_le _⟩, by go_num, World.grows.refl, Lib.hid fun e he => by simp at he⟩
          case round =>
            obtain ⟨i, HQ, rfl, hgj9, HDE⟩ := hrel
            obtain ⟨j1, j2⟩ := HQ.out
            have hgwj := hgw9.trans hgj9
            by_cases hlt : i < m + 1
            · have iI : (i : Int) < ((m : Int) + 1) := by omega
              have hgt : M.els[i]? = some (M.els[i]'(by omega)) := List.getElem?_eq_getElem _
              have HTK := Lib.hid (show M.els.take (i + 1) = M.els.take i ++ [M.els[i]'(by omega)] by rw [List.take_add_one, hgt]; rfl)
              have hmem := List.getElem_mem (show i < M.els.length by omega)
              obtain ⟨cs, l1, k1, ka, aa, kc, ac, rfl, _, _⟩ := HE1.out i _ hgt
              generalize M.els[i]'(by omega) = e at *
              have k2 := k1.grows hgwj
              have z3 := lt_sz k2.lt
              obtain ⟨u1, u2⟩ := k2
              rw [l1] at u1 u2
              have HDPT := Lib.hid (fun (W : World) (hW : w9.grows W) => refDepthG_any W tb v ⟨0, el.id + 1, M.els⟩ ((HR9.out.refR 0).grows hW) HS.out HD.out e hmem)
              have hdl := HD.out.top e hmem
              have HE := Lib.hid hmem
              obtain ⟨dp, hdp⟩ : ∃ dp, dp = dep e.id := ⟨_, rfl⟩
              rw [← hdp] at HDPT hdl
              have HDQ := Lib.hid hdp
              clear k1 hgt hmem hdp
              by_cases h32 : 32 < dp
              · have hdI : (32 : Int) < (dp : Int) := by omega
                have HBAD := Lib.hid (show ∃ e ∈ M.els, 32 < dep e.id from ⟨e, HE.out, by rw [← HDQ.out]; exact h32⟩)
                go_wp2_with (go_at_call 19; go_loud ((with_reducible refine (HDPT.out _ (by repeat (with_reducible first | assumption | exact grA | apply grB | apply grC | apply grD | refine grE ?_ (by omega) _ | refine grF ?_ (by omega) _ _))).mono ?_); rintro r w4 ⟨rfl, xd, rfl⟩))
                go_ret2
                exact ⟨World.grows.trans hgwj (by repeat (with_reducible first | assumption | exact grA | apply grB | apply grC | apply grD | refine grE ?_ (by omega) _ | refine grF ?_ (by omega) _ _)), .inr ⟨HER.out, .inr (.inl ⟨HJM.out, HBAD.out, rfl⟩)⟩⟩
              · have hdI : ¬ (32 : Int) < (dp : Int) := by omega
                have HDE5 := Lib.hid (show ∀ y ∈ M.els.take (i + 1), dep y.id ≤ 32 from fun y hy => by
                  rw [HTK.out] at hy
                  rcases List.mem_append.1 hy with hy | hy
                  · exact HDE.out y hy
                  · simp at hy; subst hy; rw [← HDQ.out]; omega)
                go_wp2_with (go_at_call 19; go_loud ((with_reducible refine (HDPT.out _ (by repeat (with_reducible first | assumption | exact grA | apply grB | apply grC | apply grD | refine grE ?_ (by omega) _ | refine grF ?_ (by omega) _ _))).mono ?_); rintro r w4 ⟨rfl, xd, rfl⟩))
                go_roundg (m + 1 - (i + 1))
                case measure => omega
                case rel => exact ⟨i + 1, Lib.hid ⟨by omega, by omega⟩, by go_num, (by repeat (with_reducible first | assumption | exact grA | apply grB | apply grC | apply grD | refine grE ?_ (by omega) _ | refine grF ?_ (by omega) _ _)), HDE5⟩
            · have iI : ¬ (i : Int) < ((m : Int) + 1) := by omega
              have HALL := Lib.hid (show ∀ e ∈ M.els, dep e.id ≤ 32 from fun e he => HDE.out e (by rw [List.take_of_length_le (by omega)]; exact he))
              have HFIN := Lib.hid (show R2 w wr tb v (lastI M.els + 1) M.els by rw [HLL.out]; exact HR9.out.grows hgj9)
              go_wp2_with fail
              go_ret2
              exact ⟨hgwj, .inr ⟨HER.out, .inr (.inr ⟨HJM.out, HALL.out, tb, v, rfl, HFIN.out⟩)⟩⟩
end Go.Proofs.YtdbddnkjiehaiaaGreat

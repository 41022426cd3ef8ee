/- WALK over the document's answer: jalousieref12.Pick: the least and the greatest of forms. No condition but that the forms stand in memory and are not too many. -/
import Derived.Test.YthmicnjigfcljaaRForm0
import Derived.Test.YthmicnjigfcljaaFmU
import Derived.Test.YthmicnjigfcljaaMo
import Derived.Test.YthmicnjigfcljaaMn
import Derived.Test.YthmicnjigfcljaaMa
set_option linter.unusedSimpArgs false
set_option linter.unusedVariables false
namespace Go.Proofs.Ythmicnjigfcljaa
open Go.RowKit

set_option maxRecDepth 100000 in
set_option maxHeartbeats 4000000 in
theorem refPick_none (most : Bool) (v : Value) (w : World) (S : Nat → Prop) (hl : SlAt w S 15 (FormOk w S) v []) :
    Calls Try.prog 37 #[.bool most, v] w (FormP w S zeroF) := by
  obtain ⟨a, cap, rfl, _⟩ := hl.len
  clear hl
  go_enter Try.func37, Try.ntmps37
  go_wp2_with (first | (go_at_call 27; (with_reducible refine (refZero_any _).mono ?_); rintro e w1 ⟨rfl, x1, rfl⟩))
  (with_reducible show bodyPost _ _ _ _ _ _); exact ret_30 rfl rfl (by simp [go_sem]) rfl ⟨none, 0, (by simp [go_sem, zeroF, Fm.us, Fm.ps]), (by repeat (with_reducible first | assumption | exact grA | apply grB | apply grC | apply grD | refine grE ?_ (by omega) _ | refine grF ?_ (by omega) _ _)), zeroU_len, zeroU_bd, SlAt_nil _ _ _ _⟩

set_option maxRecDepth 100000 in
set_option maxHeartbeats 4000000 in
theorem refPick_one (most : Bool) (f : Fm) (v : Value) (w : World) (S : Nat → Prop) (hl : SlAt w S 15 (FormOk w S) v [f]) :
    Calls Try.prog 37 #[.bool most, v] w (FormP w S f) := by
  obtain ⟨g, off, cap, us, a, n, c, ps, rfl, hc1, hc2, rfl, hn, hu7, hub, hg, e3, e4, hsl⟩ := slAt_one hl
  have zg := lt_sz hg
  have HN := Lib.hid hn; have HU := Lib.hid hub; have HSL := Lib.hid hsl
  clear hl hn hub hsl hg
  go_enter Try.func37, Try.ntmps37
  go_wp2_with fail
  (with_reducible show bodyPost _ _ _ _ _ _); exact ret_30 rfl rfl (by simp [go_sem, hu7]) rfl ⟨a, c, (by simp [go_sem, hu7]; rw [HN.out]; rfl), (by repeat (with_reducible first | assumption | exact grA | apply grB | apply grC | apply grD | refine grE ?_ (by omega) _ | refine grF ?_ (by omega) _ _)), hu7, HU.out, HN.out ▸ HSL.out.grows (by repeat (with_reducible first | assumption | exact grA | apply grB | apply grC | apply grD | refine grE ?_ (by omega) _ | refine grF ?_ (by omega) _ _)) (fun x _ cs ⟨v', e, h⟩ => ⟨v', e, h.grows (by repeat (with_reducible first | assumption | exact grA | apply grB | apply grC | apply grD | refine grE ?_ (by omega) _ | refine grF ?_ (by omega) _ _)) (fun f _ cs hf => hf.grows (by repeat (with_reducible first | assumption | exact grA | apply grB | apply grC | apply grD | refine grE ?_ (by omega) _ | refine grF ?_ (by omega) _ _)))⟩)⟩

set_option maxRecDepth 100000 in
set_option maxHeartbeats 8000000 in
theorem refPick_many (most : Bool) (l : List Fm) (v : Value) (w : World) (S : Nat → Prop) (hS : ∀ g, w.heap.size ≤ g → S g) (hl : SlAt w S 15 (FormOk w S) v l) (hlen : l.length ≤ 4194304) (h0 : l.length ≠ 0) (h1 : l.length ≠ 1) :
    Calls Try.prog 37 #[.bool most, v] w (FormP w S (pickF most l)) := by
  have HF := Lib.hid (forms_bd hl)
  have HL0 := Lib.hid hl
  obtain ⟨a, cap, rfl, hlc, hc, hE⟩ := hl
  have HE := Lib.hid hE; have HS := Lib.hid hS; clear hE hS
  have hn1 : (l.length == 1) = false := by simpa using h1
  have hn2 : ((l.length : Int) == 1) = false := by rw [beq_eq_false_iff_ne]; omega
  have hn3 : (l.length == 0) = false := by simpa using h0
  have hn4 : ((l.length : Int) == 0) = false := by rw [beq_eq_false_iff_ne]; omega
  have HN1 := Lib.hid h1
  clear h1 h0
  go_enter Try.func37, Try.ntmps37
  go_wp2_with fail
  go_loopg [5, 6, 28] l.length (fun gn v5 v6 v28 wj => ∃ (k : Nat) (un : Int) (pl : Bool), Hid (gn + k = l.length) ∧ k ≤ l.length ∧ v28 = .int .i64 k ∧ v5 = .int .i64 un ∧ v6 = .bool pl ∧ Hid (PInv un pl (usedI (l.take k)) (plainB (l.take k))) ∧ w.grows wj ∧ wj.row w.heap.size = some (.cells (formC (zs 0) (.slice none 0 0)).toArray 30))
  case atStart => exact ⟨0, -1, true, rfl, Nat.zero_le _, rfl, rfl, rfl, .inl ⟨rfl, fun _ _ => rfl, rfl⟩, (by repeat (with_reducible first | assumption | exact grA | apply grB | apply grC | apply grD | refine grE ?_ (by omega) _ | refine grF ?_ (by omega) _ _)), by simp [go_sem]; rfl⟩
  case round =>
    obtain ⟨k, un, pl, HK, hk, rfl, rfl, rfl, HPI, hg, hx⟩ := hrel
    have z1 := row_sz' hx
    by_cases hlt : k < l.length
    · rcases HE.out with h | ⟨g, off, rfl, hSg, hcell⟩
      · rw [h] at hlt; cases hlt
      obtain ⟨cs', hl15, hel, hok⟩ := hcell k l[k] (by simp [hlt])
      have he := hel.grows hg
      unfold eltAt at he
      rw [hl15] at he
      have zr := lt_sz (hel.grows hg).lt
      have e3 : segOk (off + k * 15) 15 (wr.row g) = true := he.1
      have e4 : segV (off + k * 15) 15 (wr.row g) = .agg cs'.toArray := he.2
      have hsn1 := fun i => usedI_snoc (l.take k) l[k] i
      have hsn2 := plainB_snoc (l.take k) l[k]
      rw [← List.take_succ_eq_append_getElem hlt] at hsn1 hsn2
      generalize l[k] = f at *
      obtain ⟨us, ps⟩ := f
      obtain ⟨hu7, hub, v', rfl, hps'⟩ := FormOk_us hok
      obtain ⟨a', c', rfl, hnn1, hnn2⟩ := hps'.len
      have hpi := HPI.out.parts (ps.length == 0)
      have hnp : (plainB (l.take k) && (ps.length == 0)) = plainB (l.take (k + 1)) := hsn2.symm
      rw [hnp] at hpi
      have hnu : ∀ i, usedI (l.take (k + 1)) i = (usedI (l.take k) i || (uGet us i != (0, 1))) := hsn1
      have HNU := Lib.hid hnu; have HPI2 := Lib.hid hpi
      clear hel he hok hcell hps' hl15 hsn1 hsn2 hnu hnp hpi HPI
      go_upto_region 9 with fail
      go_cut [6] (fun v6 wx => v6 = .bool (pl && (ps.length == 0)) ∧ w.grows wx ∧ wx.row w.heap.size = some (.cells (formC (zs 0) (.slice none 0 0)).toArray 30) ∧ wx.row wr.heap.size = some (.cells (formC us (.slice a' ps.length c')).toArray 30))
      case first =>
        cases pl
        · go_wp2_with fail
          go_meet
          exact ⟨rfl, (by repeat (with_reducible first | assumption | exact grA | apply grB | apply grC | apply grD | refine grE ?_ (by omega) _ | refine grF ?_ (by omega) _ _)), by simp [go_sem, hx, z1], by simp [go_sem, hx, z1]⟩
        · by_cases hp0 : ps.length = 0
          · have hp1 : (ps.length == 0) = true := by simpa using hp0
            have hp2 : ((ps.length : Int) == 0) = true := by rw [beq_iff_eq]; omega
            clear hp0
            go_wp2_with fail
            go_meet
            exact ⟨by simp [hp1], (by repeat (with_reducible first | assumption | exact grA | apply grB | apply grC | apply grD | refine grE ?_ (by omega) _ | refine grF ?_ (by omega) _ _)), by simp [go_sem, hx, z1], by simp [go_sem, hx, z1]⟩
          · have hp1 : (ps.length == 0) = false := by simpa using hp0
            have hp2 : ((ps.length : Int) == 0) = false := by rw [beq_eq_false_iff_ne]; omega
            clear hp0
            go_wp2_with fail
            go_meet
            exact ⟨by simp [hp1], (by repeat (with_reducible first | assumption | exact grA | apply grB | apply grC | apply grD | refine grE ?_ (by omega) _ | refine grF ?_ (by omega) _ _)), by simp [go_sem, hx, z1], by simp [go_sem, hx, z1]⟩
      case rest =>
        obtain ⟨rfl, hg2, hx2, hb⟩ := hcut
        have z2 := row_sz' hx2; have z3 := row_sz' hb
        generalize wr.heap.size = b at *
        clear hg hx z1 zr e3 e4
        generalize (pl && (ps.length == 0)) = pl' at *
        go_wp2_with fail
        go_loopg [5, 6, 41] 7 (fun gn v5 v6 v41 wj => ∃ (i : Nat) (un : Int) (pl : Bool), Hid (gn + i = 7) ∧ i ≤ 7 ∧ v41 = .int .i64 i ∧ v5 = .int .i64 un ∧ v6 = .bool pl ∧ Hid (PInv un pl (fun j => usedI (l.take k) j || (decide (j < i) && (uGet us j != (0, 1)))) (plainB (l.take (k + 1)))) ∧ w.grows wj ∧ wj.row w.heap.size = some (.cells (formC (zs 0) (.slice none 0 0)).toArray 30))
        case atStart => exact ⟨0, un, pl', rfl, by omega, rfl, rfl, rfl, Lib.hid (HPI2.out.congr (fun j _ => by simp)), (by repeat (with_reducible first | assumption | exact grA | apply grB | apply grC | apply grD | refine grE ?_ (by omega) _ | refine grF ?_ (by omega) _ _)), by simp [go_sem, hx2]⟩
        case round =>
          clear hg2 hx2 hb z2 z3 HPI2
          obtain ⟨i, un, pl, HK2, hi, rfl, rfl, rfl, HPI, hg2, hx2⟩ := hrel
          have z2 := row_sz' hx2
          by_cases hi7 : i < 7
          · by_cases hz : uGet us i = (0, 1)
            · have hpi : PInv un pl (fun j => usedI (l.take k) j || (decide (j < i + 1) && (uGet us j != (0, 1)))) (plainB (l.take (k + 1))) := HPI.out.congr (fun j _ => by
                by_cases hj : j = i
                · subst hj; simp [hz]
                · have : (j < i + 1) = (j < i) := by apply propext; omega
                  simp only [this])
              have hq1 : (uGet us i).1 = 0 := by rw [hz]
              have hq2 : (uGet us i).2 = 1 := by rw [hz]
              have HPI2 := Lib.hid hpi
              clear hpi hz HPI
              go_wp2_with fail
              refine wp_region_plus_lit (by kernel_rfl) (by kernel_rfl) ?_
              repeat (go_big_quiet_step ((go_at_call 56; (with_reducible exact Calls.plus_of (refIntL_any _ _)))))
              (refine wpQuiet_nil ?_; intro _ hw'; obtain ⟨xq, hw''⟩ := hw'; subst hw'')
              go_wp2_with fail
              go_roundg (7 - (i + 1))
              case rel => exact ⟨i + 1, un, pl, Lib.hid (by omega), by omega, by go_num, rfl, rfl, HPI2, (by repeat (with_reducible first | assumption | exact grA | apply grB | apply grC | apply grD | refine grE ?_ (by omega) _ | refine grF ?_ (by omega) _ _)), by simp [go_sem, hx2, z2]⟩
              case measure => have := HK2.out; omega
            · have he : ∀ j, j < 7 → (usedI (l.take k) j || (decide (j < i + 1) && (uGet us j != (0, 1)))) = ((usedI (l.take k) j || (decide (j < i) && (uGet us j != (0, 1)))) || (j == i)) := fun j _ => by
                by_cases hj : j = i
                · subst hj
                  have : (uGet us j != (0, 1)) = true := by simpa using hz
                  simp [this]
                · have h1 : (j < i + 1) = (j < i) := by apply propext; omega
                  have h2 : (j == i) = false := by simpa using hj
                  simp only [h1, h2, Bool.or_false]
              have hne : ((uGet us i).1 == 0) = false ∨ (((uGet us i).1 == 0) = true ∧ ((uGet us i).2 == 1) = false) := by
                generalize uGet us i = q at hz
                obtain ⟨q1, q2⟩ := q
                by_cases h1 : q1 = 0
                · subst h1
                  refine .inr ⟨rfl, ?_⟩
                  rw [beq_eq_false_iff_ne]; intro h; exact hz (by rw [show q2 = 1 from h])
                · exact .inl (by rw [beq_eq_false_iff_ne]; exact h1)
              have HE2 := Lib.hid he
              clear he hz
              have hcase : un = -1 ∨ ∃ q : Nat, q < 7 ∧ un = (q : Int) := by
                rcases HPI.out with ⟨h, _⟩ | ⟨q, h1, h2, _⟩
                · exact .inl h
                · exact .inr ⟨q, h1, h2⟩
              rcases hcase with rfl | ⟨q, hq7, rfl⟩
              · have hpi := HPI.out.first hi7 HE2.out
                have HPI2 := Lib.hid hpi
                clear hpi HPI HE2
                rcases hne with hb1 | ⟨hb1, hb2⟩
                · go_wp2_with fail
                  refine wp_region_plus_lit (by kernel_rfl) (by kernel_rfl) ?_
                  repeat (go_big_quiet_step ((go_at_call 56; (with_reducible exact Calls.plus_of (refIntL_any _ _)))))
                  (refine wpQuiet_nil ?_; intro _ hw'; obtain ⟨xq, hw''⟩ := hw'; subst hw'')
                  go_wp2_with fail
                  go_roundg (7 - (i + 1))
                  case rel => exact ⟨i + 1, i, pl, Lib.hid (by omega), by omega, by go_num, rfl, rfl, HPI2, (by repeat (with_reducible first | assumption | exact grA | apply grB | apply grC | apply grD | refine grE ?_ (by omega) _ | refine grF ?_ (by omega) _ _)), by simp [go_sem, hx2, z2]⟩
                  case measure => have := HK2.out; omega
                · go_wp2_with fail
                  refine wp_region_plus_lit (by kernel_rfl) (by kernel_rfl) ?_
                  repeat (go_big_quiet_step ((go_at_call 56; (with_reducible exact Calls.plus_of (refIntL_any _ _)))))
                  (refine wpQuiet_nil ?_; intro _ hw'; obtain ⟨xq, hw''⟩ := hw'; subst hw'')
                  go_wp2_with fail
                  go_roundg (7 - (i + 1))
                  case rel => exact ⟨i + 1, i, pl, Lib.hid (by omega), by omega, by go_num, rfl, rfl, HPI2, (by repeat (with_reducible first | assumption | exact grA | apply grB | apply grC | apply grD | refine grE ?_ (by omega) _ | refine grF ?_ (by omega) _ _)), by simp [go_sem, hx2, z2]⟩
                  case measure => have := HK2.out; omega
              · have hd0 : decide ((0 : Int) ≤ (q : Int)) = true := by rw [decide_eq_true_eq]; omega
                by_cases hqi : q = i
                · subst hqi
                  have hpi := HPI.out.same HE2.out
                  have HPI2 := Lib.hid hpi
                  clear hpi HPI HE2
                  rcases hne with hb1 | ⟨hb1, hb2⟩
                  · go_wp2_with fail
                    refine wp_region_plus_lit (by kernel_rfl) (by kernel_rfl) ?_
                    repeat (go_big_quiet_step ((go_at_call 56; (with_reducible exact Calls.plus_of (refIntL_any _ _)))))
                    (refine wpQuiet_nil ?_; intro _ hw'; obtain ⟨xq, hw''⟩ := hw'; subst hw'')
                    go_wp2_with fail
                    go_roundg (7 - (q + 1))
                    case rel => exact ⟨q + 1, q, pl, Lib.hid (by omega), by omega, by go_num, rfl, rfl, HPI2, (by repeat (with_reducible first | assumption | exact grA | apply grB | apply grC | apply grD | refine grE ?_ (by omega) _ | refine grF ?_ (by omega) _ _)), by simp [go_sem, hx2, z2]⟩
                    case measure => have := HK2.out; omega
                  · go_wp2_with fail
                    refine wp_region_plus_lit (by kernel_rfl) (by kernel_rfl) ?_
                    repeat (go_big_quiet_step ((go_at_call 56; (with_reducible exact Calls.plus_of (refIntL_any _ _)))))
                    (refine wpQuiet_nil ?_; intro _ hw'; obtain ⟨xq, hw''⟩ := hw'; subst hw'')
                    go_wp2_with fail
                    go_roundg (7 - (q + 1))
                    case rel => exact ⟨q + 1, q, pl, Lib.hid (by omega), by omega, by go_num, rfl, rfl, HPI2, (by repeat (with_reducible first | assumption | exact grA | apply grB | apply grC | apply grD | refine grE ?_ (by omega) _ | refine grF ?_ (by omega) _ _)), by simp [go_sem, hx2, z2]⟩
                    case measure => have := HK2.out; omega
                · have hpi := HPI.out.other hi7 hqi HE2.out
                  have HPI2 := Lib.hid hpi
                  have hq1 : ((q : Int) == (i : Int)) = false := by rw [beq_eq_false_iff_ne]; omega
                  have hq2 : ((q : Int) != (i : Int)) = true := by simp only [bne, hq1, Bool.not_false]
                  have hq3 : (q == i) = false := by simpa using hqi
                  clear hpi HPI HE2 hqi
                  rcases hne with hb1 | ⟨hb1, hb2⟩
                  · go_wp2_with fail
                    refine wp_region_plus_lit (by kernel_rfl) (by kernel_rfl) ?_
                    repeat (go_big_quiet_step ((go_at_call 56; (with_reducible exact Calls.plus_of (refIntL_any _ _)))))
                    (refine wpQuiet_nil ?_; intro _ hw'; obtain ⟨xq, hw''⟩ := hw'; subst hw'')
                    go_wp2_with fail
                    go_roundg (7 - (i + 1))
                    case rel => exact ⟨i + 1, i, false, Lib.hid (by omega), by omega, by go_num, rfl, rfl, HPI2, (by repeat (with_reducible first | assumption | exact grA | apply grB | apply grC | apply grD | refine grE ?_ (by omega) _ | refine grF ?_ (by omega) _ _)), by simp [go_sem, hx2, z2]⟩
                    case measure => have := HK2.out; omega
                  · go_wp2_with fail
                    refine wp_region_plus_lit (by kernel_rfl) (by kernel_rfl) ?_
                    repeat (go_big_quiet_step ((go_at_call 56; (with_reducible exact Calls.plus_of (refIntL_any _ _)))))
                    (refine wpQuiet_nil ?_; intro _ hw'; obtain ⟨xq, hw''⟩ := hw'; subst hw'')
                    go_wp2_with fail
                    go_roundg (7 - (i + 1))
                    case rel => exact ⟨i + 1, i, false, Lib.hid (by omega), by omega, by go_num, rfl, rfl, HPI2, (by repeat (with_reducible first | assumption | exact grA | apply grB | apply grC | apply grD | refine grE ?_ (by omega) _ | refine grF ?_ (by omega) _ _)), by simp [go_sem, hx2, z2]⟩
                    case measure => have := HK2.out; omega
          · obtain rfl : i = 7 := by omega
            go_wp2_with fail
            go_roundg (l.length - (k + 1))
            case rel => exact ⟨k + 1, un, pl, Lib.hid (by omega), by omega, by go_num, rfl, rfl, Lib.hid (HPI.out.congr (fun j hj => by rw [HNU.out j]; simp [hj])), (by repeat (with_reducible first | assumption | exact grA | apply grB | apply grC | apply grD | refine grE ?_ (by omega) _ | refine grF ?_ (by omega) _ _)), by simp [go_sem, hx2, z2]⟩
            case measure => have := HK.out; omega
    · obtain rfl : k = l.length := by omega
      have hPI := HPI.out
      rw [List.take_length] at hPI
      have HPI2 := Lib.hid hPI
      clear hPI HPI HK hk hlt
      cases pl
      · have hpf := HPI2.out.part most HN1.out
        have HPF := Lib.hid hpf
        clear hpf HPI2
        go_wp2_with fail
        refine (refZero_any _).mono ?_
        rintro e w1 ⟨rfl, x1, rfl⟩
        generalize hob : wr.heap.size + x1.bs.size = ob
        have hob1 : wr.heap.size ≤ ob := by omega
        have ne1 : (w.heap.size = ob) = False := by apply eq_false; have := z1.1; omega
        have ne2 : (ob = w.heap.size) = False := by apply eq_false; have := z1.1; omega
        have ne3 : w.heap.size < ob := by have := z1.1; omega
        have ne4 : (w.heap.size = ob + 1) = False := by apply eq_false; have := z1.1; omega
        have ne5 : (ob + 1 = w.heap.size) = False := by apply eq_false; have := z1.1; omega
        go_wp2_with fail
        (with_reducible show bodyPost _ _ _ _ _ _); rw [HPF.out]; exact ret_30 rfl rfl (by simp [go_sem, hx, z1, hob, ne1, ne2, ne4, ne5]) rfl ⟨some ⟨ob + 1, 0, none⟩, 1, (by simp [go_sem, hx, z1, hob, ne1, ne2, ne4, ne5, Fm.us, Fm.ps]), (by repeat (with_reducible first | assumption | exact grA | apply grB | apply grC | apply grD | refine grE ?_ (by omega) _ | refine grF ?_ (by omega) _ _)), zeroU_len, zeroU_bd, parts_of_row (t := 76) (by simp [go_sem, hx, z1, hob, ne1, ne2, ne4, ne5]; done) (HS.out _ (by omega)) (HL0.out.grows (by repeat (with_reducible first | assumption | exact grA | apply grB | apply grC | apply grD | refine grE ?_ (by omega) _ | refine grF ?_ (by omega) _ _)) (fun x _ cs h => h.grows (by repeat (with_reducible first | assumption | exact grA | apply grB | apply grC | apply grD | refine grE ?_ (by omega) _ | refine grF ?_ (by omega) _ _))))⟩
      · have hcase : un = -1 ∨ ∃ q : Nat, q < 7 ∧ un = (q : Int) := by
          rcases HPI2.out with ⟨h, _⟩ | ⟨q, h1, h2, _⟩
          · exact .inl h
          · exact .inr ⟨q, h1, h2⟩
        rcases hcase with rfl | ⟨q, hq7, rfl⟩
        · have hpf := HPI2.out.none most HN1.out
          have HPF := Lib.hid hpf
          clear hpf HPI2
          go_wp2_with (first | (go_at_call 27; (with_reducible refine (refZero_any _).mono ?_); rintro e w1 ⟨rfl, x1, rfl⟩))
          (with_reducible show bodyPost _ _ _ _ _ _); rw [HPF.out]; exact ret_30 rfl rfl (by simp [go_sem, hx, z1]) rfl ⟨none, 0, (by simp [go_sem, hx, z1, zeroF, Fm.us, Fm.ps]), (by repeat (with_reducible first | assumption | exact grA | apply grB | apply grC | apply grD | refine grE ?_ (by omega) _ | refine grF ?_ (by omega) _ _)), zeroU_len, zeroU_bd, SlAt_nil _ _ _ _⟩
        · obtain ⟨_, hpf⟩ := HPI2.out.some most HN1.out
          have hd0 : decide ((q : Int) < 0) = false := by rw [decide_eq_false_iff_not]; omega
          have hd1 : ¬ (q : Int) < 0 := by omega
          have HPF := Lib.hid hpf
          clear hpf HPI2
          go_wp2_with fail
          refine (refZero_any _).mono ?_
          rintro e w1 ⟨rfl, x1, rfl⟩
          generalize hob : wr.heap.size + x1.bs.size = ob
          have hob1 : wr.heap.size ≤ ob := by omega
          have ne1 : (w.heap.size = ob) = False := by apply eq_false; have := z1.1; omega
          have ne2 : (ob = w.heap.size) = False := by apply eq_false; have := z1.1; omega
          have ne3 : w.heap.size < ob := by have := z1.1; omega
          go_wp2_with fail
          go_loopg [13, 73] l.length (fun gn v13 v73 wj => ∃ j : Nat, Hid (gn + j = l.length) ∧ j ≤ l.length ∧ v73 = .int .i64 j ∧ Hid (wj.ownsRow (ob + 1) 23 2 v13 j (((l.take j).map (·.u q)).flatMap ratL)) ∧ w.grows wj ∧ wj.row w.heap.size = some (.cells (formC (zs 0) (.slice none 0 0)).toArray 30) ∧ wj.row ob = some (.cells (formC zeroU (.slice none 0 0)).toArray 30))
          case atStart => exact ⟨0, rfl, Nat.zero_le _, rfl, World.ownsRow_nil _ _ _ _, (by repeat (with_reducible first | assumption | exact grA | apply grB | apply grC | apply grD | refine grE ?_ (by omega) _ | refine grF ?_ (by omega) _ _)), by simp [go_sem, hx, z1, hob, ne1, ne2], by simp [go_sem, hob, ne1, ne2]⟩
          case round =>
            obtain ⟨j, HK3, hj, rfl, HO, hg2, hx2, hy2⟩ := hrel
            clear hx z1 hg hob hob1 x1
            have z2 := row_sz' hx2; have z3 := row_sz' hy2
            by_cases hlt : j < l.length
            · rcases HE.out with h | ⟨g, off, rfl, hSg, hcell⟩
              · rw [h] at hlt; cases hlt
              obtain ⟨cs', hl15, hel, hok⟩ := hcell j l[j] (by simp [hlt])
              have he := hel.grows hg2
              unfold eltAt at he
              rw [hl15] at he
              have zr := lt_sz (hel.grows hg2).lt
              have e3 : segOk (off + j * 15) 15 (wr.row g) = true := he.1
              have e4 : segV (off + j * 15) 15 (wr.row g) = .agg cs'.toArray := he.2
              have hnx : ((l.take (j + 1)).map (·.u q)).flatMap ratL = ((l.take j).map (·.u q)).flatMap ratL ++ ratL (l[j].u q) := by
                rw [List.take_succ_eq_append_getElem hlt, List.map_append, List.flatMap_append]; simp
              generalize l[j] = f at *
              obtain ⟨us, ps⟩ := f
              obtain ⟨hu7, hub, v', rfl, hps'⟩ := FormOk_us hok
              obtain ⟨a', c', rfl, hnn1, hnn2⟩ := hps'.len
              have hui : Fm.u (.mk us ps) q = us[q]'(by omega) := by
                show us.getD q (0, 1) = _
                rw [List.getD_eq_getElem?_getD, List.getElem?_eq_getElem (by omega)]; rfl
              have hget : segV (q * 2) 2 (some (.cells (formC us (.slice a' ps.length c')).toArray 30)) = ratV (us[q]'(by omega)) := formC_get (by omega)
              rw [hui] at hnx
              generalize us[q]'(by omega) = p at *
              obtain ⟨p1, p2⟩ := p
              have hi2 : q * 2 + 2 ≤ 15 := by omega
              have HNX := Lib.hid hnx
              clear hnx hui hel he hok hcell hps' hl15
              go_wp2_with (first | (at_builtin; refine wpList_app w (ob + 1) rfl (.tmp 77) (.tmp 82) _ rfl 23 (.agg #[.int .i64 0, .int .i64 0]) 2 16 Try.underlying85 (by kernel_rfl) rfl (by omega) (by omega) _ j _ rfl (HO.out.grows (by repeat (with_reducible first | assumption | exact grA | apply grB | apply grC | apply grD | refine grE ?_ (by omega) _ | refine grF ?_ (by omega) _ _))) _ 1 _ [.int .i64 p1, .int .i64 p2] rfl rfl (cells_of_row (e := 23) (fr := (0, 0)) (by simp [go_sem])) (by simp [Value.oneCell']) (by omega) (by repeat (with_reducible first | assumption | exact grA | apply grB | apply grC | apply grD | refine grE ?_ (by omega) _ | refine grF ?_ (by omega) _ _)) (by omega) (by simp; omega) ?_; intro v' w' hg' HO' HR' HG' HA'))
              go_wp2_with fail
              go_roundg (l.length - (j + 1))
              case rel => exact ⟨j + 1, Lib.hid (by omega), by omega, by go_num, (by rw [HNX.out]; exact HO'), hg', (HR'.out _ (by omega)).trans (by simp [go_sem, hx2, z2]), (HR'.out _ (by omega)).trans (by simp [go_sem, hy2, z3])⟩
              case measure => have := HK3.out; omega
            · obtain rfl : j = l.length := by omega
              have hO := HO.out
              rw [List.take_length] at hO
              have hO' : wr.ownsRow (ob + 1) 23 2 u13 (l.map (·.u q)).length ((l.map (·.u q)).flatMap ratL) := by rw [List.length_map]; exact hO
              have hIR : ∀ p ∈ l.map (·.u q), I64p p := fun p hp => by
                obtain ⟨f, hf, rfl⟩ := List.mem_map.1 hp
                exact Fm.u_bd (HF.out f hf).2 q
              have hR := RatsAt_of_owns hO' hIR
              have c0 := fun W (hW : wr.grows W) => refLeast_any u13 _ W (hR.grows hW)
              have m0 := bestQ_may (way := -1) (l.map (·.u q))
              have m1 := bestQ_may (way := 1) (l.map (·.u q))
              have b0 : I64p (bestQ (-1) (l.map (·.u q))) := bestQ_bd hIR
              have b1 : I64p (bestQ 1 (l.map (·.u q))) := bestQ_bd hIR
              have hone : ∀ R : Int × Int, cleanQ R = R → (oneF ((q : Int) + 1) R).us = zeroU.set q R := fun R h => by
                show oneU _ _ = _
                unfold oneU
                rw [if_pos (by omega), h]
                congr 1; omega
              have hset : ∀ R : Int × Int, setL (formC zeroU (.slice none 0 0)).toArray (q * 2) [.int .i64 R.1, .int .i64 R.2] = (formC (zeroU.set q R) (.slice none 0 0)).toArray := fun R => formC_set (us := zeroU) (v := .slice none 0 0) (i := q) (by rw [zeroU_len]; exact hq7) R
              have hset2 : ∀ R R' : Int × Int, setL (formC (zeroU.set q R) (.slice none 0 0)).toArray (q * 2) [.int .i64 R'.1, .int .i64 R'.2] = (formC (zeroU.set q R') (.slice none 0 0)).toArray := fun R R' => by
                have := formC_set (us := zeroU.set q R) (v := .slice none 0 0) (i := q) (by rw [List.length_set, zeroU_len]; exact hq7) R'
                rw [List.set_set] at this; exact this
              have hln : ∀ R : Int × Int, (zeroU.set q R).length = 7 := fun R => by rw [List.length_set, zeroU_len]
              have hsb : ∀ R : Int × Int, I64p R → ∀ p ∈ zeroU.set q R, I64p p := fun R hR p hp => by
                rcases List.mem_or_eq_of_mem_set hp with h | rfl
                · exact zeroU_bd p h
                · exact hR
              have hi2 : q * 2 + 2 ≤ 15 := by omega
              cases most
              · have hpf := HPF.out
                rw [if_neg (by simp)] at hpf
                have hus := hone _ m0
                rw [← hpf] at hus
                have hps0 : (pickF false l).ps = [] := by rw [hpf]; rfl
                have hs0 := hset (bestQ (-1) (l.map (·.u q)))
                have hl0 := hln (bestQ (-1) (l.map (·.u q)))
                have hb0 := hsb _ b0
                generalize bestQ (-1) (l.map (·.u q)) = R at *
                obtain ⟨R1, R2⟩ := R
                generalize zeroU.set q (R1, R2) = U at *
                have C1 := Lib.hid c0; have HUS := Lib.hid hus; have HPS := Lib.hid hps0; have HB0 := Lib.hid hb0; have HS0 := Lib.hid hs0
                clear c0 m0 m1 b0 b1 hone hset hset2 hln hsb hpf hus hps0 hb0 hs0 hR hO hO' HO hIR HPF
                have s0 := HS0.out
                go_wp2_with (first | (go_at_call 68; (with_reducible refine (C1.out _ (by repeat (with_reducible first | assumption | exact grA | apply grB | apply grC | apply grD | refine grE ?_ (by omega) _ | refine grF ?_ (by omega) _ _))).mono ?_); rintro e w1 ⟨rfl, x1, rfl⟩))
                (with_reducible show bodyPost _ _ _ _ _ _); exact ret_30 rfl rfl (by simp [go_sem, hx2, hy2, z2, z3, ne1, ne2, HS0.out, hl0]) rfl ⟨none, 0, (by simp [go_sem, hx2, hy2, z2, z3, ne1, ne2, HS0.out, hl0, HUS.out, HPS.out]), (by repeat (with_reducible first | assumption | exact grA | apply grB | apply grC | apply grD | refine grE ?_ (by omega) _ | refine grF ?_ (by omega) _ _)), (by rw [HUS.out]; exact hl0), (by rw [HUS.out]; exact HB0.out), (by rw [HPS.out]; exact SlAt_nil _ _ _ _)⟩
              · have hpf := HPF.out
                rw [if_pos rfl] at hpf
                have hus := hone _ m1
                rw [← hpf] at hus
                have hps0 : (pickF true l).ps = [] := by rw [hpf]; rfl
                have hs0 := hset (bestQ (-1) (l.map (·.u q)))
                have hR2 : RatsAt (wr.setRow ob (formC (zeroU.set q (bestQ (-1) (l.map (·.u q)))) (.slice none 0 0)).toArray) u13 (l.map (·.u q)) := RatsAt_of_owns (hO'.row_kept (fun g h _ => by rw [World.row_setRow, if_neg (by omega)])) hIR
                have c1 := fun W (hW : (wr.setRow ob (formC (zeroU.set q (bestQ (-1) (l.map (·.u q)))) (.slice none 0 0)).toArray).grows W) => refMost_any u13 _ W (hR2.grows hW)
                have hs1 := hset2 (bestQ (-1) (l.map (·.u q))) (bestQ 1 (l.map (·.u q)))
                have hl0 := hln (bestQ (-1) (l.map (·.u q)))
                have hl1 := hln (bestQ 1 (l.map (·.u q)))
                have hb1 := hsb _ b1
                generalize bestQ (-1) (l.map (·.u q)) = R at *
                generalize bestQ 1 (l.map (·.u q)) = T at *
                obtain ⟨R1, R2⟩ := R
                obtain ⟨T1, T2⟩ := T
                generalize zeroU.set q (R1, R2) = U at *
                generalize zeroU.set q (T1, T2) = V at *
                have C1 := Lib.hid c0; have C2 := Lib.hid c1; have HUS := Lib.hid hus; have HPS := Lib.hid hps0; have HB1 := Lib.hid hb1; have HS0 := Lib.hid hs0; have HS1 := Lib.hid hs1
                clear c0 c1 m0 m1 b0 b1 hone hset hset2 hln hsb hpf hus hps0 hb1 hs0 hs1 hR hR2 hO hO' HO hIR HPF
                have s0 := HS0.out
                have s1 := HS1.out
                go_wp2_with (first | (go_at_call 68; (with_reducible refine (C1.out _ (by repeat (with_reducible first | assumption | exact grA | apply grB | apply grC | apply grD | refine grE ?_ (by omega) _ | refine grF ?_ (by omega) _ _))).mono ?_); rintro e w1 ⟨rfl, x1, rfl⟩) | (go_at_call 69; (with_reducible refine (C2.out _ (by repeat (with_reducible first | assumption | exact grA | apply grB | apply grC | apply grD | refine grE ?_ (by omega) _ | refine grF ?_ (by omega) _ _))).mono ?_); rintro e w1 ⟨rfl, x2, rfl⟩))
                (with_reducible show bodyPost _ _ _ _ _ _); exact ret_30 rfl rfl (by simp [go_sem, hx2, hy2, z2, z3, ne1, ne2, HS0.out, HS1.out, hl0, hl1]) rfl ⟨none, 0, (by simp [go_sem, hx2, hy2, z2, z3, ne1, ne2, HS0.out, HS1.out, hl0, hl1, HUS.out, HPS.out]), (by repeat (with_reducible first | assumption | exact grA | apply grB | apply grC | apply grD | refine grE ?_ (by omega) _ | refine grF ?_ (by omega) _ _)), (by rw [HUS.out]; exact hl1), (by rw [HUS.out]; exact HB1.out), (by rw [HPS.out]; exact SlAt_nil _ _ _ _)⟩

theorem refPick_any (most : Bool) (l : List Fm) (v : Value) (w : World) (S : Nat → Prop) (hS : ∀ g, w.heap.size ≤ g → S g) (hl : SlAt w S 15 (FormOk w S) v l) (hlen : l.length ≤ 4194304) :
    Calls Try.prog 37 #[.bool most, v] w (FormP w S (pickF most l)) := by
  by_cases h : l.length = 1
  · obtain ⟨f, rfl⟩ := len_one h
    have e : pickF most [f] = f := rfl
    rw [e]; exact refPick_one most f v w S hl
  · by_cases h0 : l.length = 0
    · obtain rfl := List.length_eq_zero_iff.1 h0
      have e : pickF most [] = zeroF := by cases most <;> rfl
      rw [e]; exact refPick_none most v w S hl
    · exact refPick_many most l v w S hS hl hlen h0 h
end Go.Proofs.Ythmicnjigfcljaa

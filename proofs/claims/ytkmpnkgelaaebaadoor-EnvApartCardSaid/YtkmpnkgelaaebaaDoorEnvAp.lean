/- EnvApart: a change changes its own features alone. No condition but that numbers are of their kinds, and that the nine names stand in memory. -/
import Derived.Test.YtkmpnkgelaaebaaDoorEnvApP
import Derived.Test.YtkmpnkgelaaebaaDoorEnvOrdP
import Derived.Test.YtkmpnkgelaaebaaDoorEnvA
set_option linter.unusedSimpArgs false
set_option linter.unusedVariables false
namespace Go.Proofs.YtkmpnkgelaaebaaDoor
open Go.RowKit

theorem idx_all (k : Nat) (h : k < 9) (w : World) : (Instr.index 37 (.agg #[.string ⟨#[119, 105, 100, 116, 104]⟩, .string ⟨#[104, 101, 105, 103, 104, 116]⟩, .string ⟨#[97, 115, 112, 101, 99, 116, 45, 114, 97, 116, 105, 111]⟩, .string ⟨#[99, 111, 108, 111, 114]⟩, .string ⟨#[104, 111, 118, 101, 114]⟩, .string ⟨#[111, 114, 105, 101, 110, 116, 97, 116, 105, 111, 110]⟩, .string ⟨#[112, 111, 105, 110, 116, 101, 114]⟩, .string ⟨#[112, 114, 101, 102, 101, 114, 115, 45, 99, 111, 108, 111, 114, 45, 115, 99, 104, 101, 109, 101]⟩, .string ⟨#[112, 114, 101, 102, 101, 114, 115, 45, 114, 101, 100, 117, 99, 101, 100, 45, 109, 111, 116, 105, 111, 110]⟩]) (.int .i64 k)).run Tryd.prog w = .ok (.string (allN.getD k ByteArray.empty)) w := by
  match k, h with
  | 0, _ | 1, _ | 2, _ | 3, _ | 4, _ | 5, _ | 6, _ | 7, _ | 8, _ => (show _ = _; kernel_rfl)

set_option maxRecDepth 100000 in
set_option maxHeartbeats 8000000 in
theorem envApart2_any (e : En) (o : Od) (w : World) (ty : TypeId) (fr : Nat × Nat) (he : e.Wf) (ho : o.Wf) (hall : w.row 0 = some (.cells #[.string ⟨#[119, 105, 100, 116, 104]⟩, .string ⟨#[104, 101, 105, 103, 104, 116]⟩, .string ⟨#[97, 115, 112, 101, 99, 116, 45, 114, 97, 116, 105, 111]⟩, .string ⟨#[99, 111, 108, 111, 114]⟩, .string ⟨#[104, 111, 118, 101, 114]⟩, .string ⟨#[111, 114, 105, 101, 110, 116, 97, 116, 105, 111, 110]⟩, .string ⟨#[112, 111, 105, 110, 116, 101, 114]⟩, .string ⟨#[112, 114, 101, 102, 101, 114, 115, 45, 99, 111, 108, 111, 114, 45, 115, 99, 104, 101, 109, 101]⟩, .string ⟨#[112, 114, 101, 102, 101, 114, 115, 45, 114, 101, 100, 117, 99, 101, 100, 45, 109, 111, 116, 105, 111, 110]⟩] ty fr)) (hm : e.may = true) (hk : o.five.ok = true) (hkd : o.five.k0 = 2) : Calls Tryd.prog 3 #[e.v, o.v] w (Gives w (.bool true)) := by
  have fv := fun w => five_any o w
  have cv := fun w => change_any e o.five w he (Od.five_wf ho)
  have m1 := fun w => envMay_any e w he
  have z0 := row_sz' hall
  · skip
    have hc := chg_ok hm hk
    have hfm := upd_may hm hk
    have hwf := upd_wf he (Od.five_wf ho)
    simp only [chgV, hc.1, hc.2] at cv
    rw [hm] at m1
    have hfl1 := flags hm
    have hfl2 := flags hfm
    have hap := apart_all hm hfm hk (five_kind o)
    have hwg := fun h4 => word_given hfm h4 hk
    have m2 := fun w => envMay_any (e.upd o.five) w hwf
    rw [hfm] at m2
    have va := fun n w => envVal_any e n w he
    have vb := fun n w => envVal_any (e.upd o.five) n w hwf
    have wa := fun n w => word_any e n w he
    have wb := fun n w => word_any (e.upd o.five) n w hwf
    have hwd : o.five.k0 = 2 → (e.upd o.five).val nmW = ((o.five.a, o.five.b), true) ∧ (e.upd o.five).val nmH = ((o.five.c, o.five.d), true) := fun h2 => by
      rw [val_nmW hfm, val_nmH hfm]; unfold En.upd; rw [if_pos h2]; exact ⟨rfl, rfl⟩
    generalize e.val = V at *
    generalize (e.upd o.five).val = V' at *
    generalize e.word = D at *
    generalize (e.upd o.five).word = D' at *
    generalize e.upd o.five = F at *
    generalize o.five = O at *
    obtain ⟨k0, k1, k2, k3, n, wd, tp, tl, tc, a, b, c, d, bt, bs, b1, b2, b3, b4, on⟩ := O
    obtain ⟨p, w1, w2, h1, h2, f1, f2, c1, c2, s, h, q, m⟩ := e
    obtain ⟨p', w1', w2', h1', h2', f1', f2', c1', c2', s', h', q', m'⟩ := F
    obtain ⟨o0, o1, o2, o3, on', owd, otp, otl, otc, oa, ob, oc, od, obt, obs, ob1, ob2, ob3, ob4, oon⟩ := o
    simp only at hwd hkd hwg
    have FV := Lib.hid fv; have CV := Lib.hid cv; have M1 := Lib.hid m1; have M2 := Lib.hid m2; have VA := Lib.hid va; have VB := Lib.hid vb; have WA := Lib.hid wa; have WB := Lib.hid wb
    have HF1 := Lib.hid hfl1; have HF2 := Lib.hid hfl2; have HAP := Lib.hid hap; have HWG := Lib.hid hwg; have HWD := Lib.hid hwd; have HKD := Lib.hid hkd
    clear fv cv m1 m2 va vb wa wb hfl1 hfl2 hap hwg hwd hkd hm hk hc hfm hwf he ho
    go_enter Tryd.func3, Tryd.ntmps3
    go_upto_region 7 with (first | (go_at_call 4; (with_reducible refine (FV.out _).mono ?_); rintro e w1 ⟨rfl, x1, rfl⟩) | (go_at_call 5; (with_reducible refine (CV.out _).mono ?_); rintro e w1 ⟨rfl, x1, rfl⟩) | (go_at_call 6; (with_reducible refine (awake_any _).mono ?_); rintro e w1 ⟨rfl, x1, rfl⟩) | (go_at_call 7; (with_reducible refine (M1.out _).mono ?_); rintro e w1 ⟨rfl, x1, rfl⟩) | (go_at_call 7; (with_reducible refine (M2.out _).mono ?_); rintro e w1 ⟨rfl, x1, rfl⟩))
    go_cut [5, 63, 64] (fun s5 s63 s64 wx => ∃ g : Nat, s5 = .pointer (some ⟨g, 0, none⟩) ∧ s63 = .agg #[.string ⟨#[119, 105, 100, 116, 104]⟩, .string ⟨#[104, 101, 105, 103, 104, 116]⟩, .string ⟨#[97, 115, 112, 101, 99, 116, 45, 114, 97, 116, 105, 111]⟩, .string ⟨#[99, 111, 108, 111, 114]⟩, .string ⟨#[104, 111, 118, 101, 114]⟩, .string ⟨#[111, 114, 105, 101, 110, 116, 97, 116, 105, 111, 110]⟩, .string ⟨#[112, 111, 105, 110, 116, 101, 114]⟩, .string ⟨#[112, 114, 101, 102, 101, 114, 115, 45, 99, 111, 108, 111, 114, 45, 115, 99, 104, 101, 109, 101]⟩, .string ⟨#[112, 114, 101, 102, 101, 114, 115, 45, 114, 101, 100, 117, 99, 101, 100, 45, 109, 111, 116, 105, 111, 110]⟩] ∧ s64 = .int .i64 0 ∧ w.grows wx ∧ wx.row 0 = some (.cells #[.string ⟨#[119, 105, 100, 116, 104]⟩, .string ⟨#[104, 101, 105, 103, 104, 116]⟩, .string ⟨#[97, 115, 112, 101, 99, 116, 45, 114, 97, 116, 105, 111]⟩, .string ⟨#[99, 111, 108, 111, 114]⟩, .string ⟨#[104, 111, 118, 101, 114]⟩, .string ⟨#[111, 114, 105, 101, 110, 116, 97, 116, 105, 111, 110]⟩, .string ⟨#[112, 111, 105, 110, 116, 101, 114]⟩, .string ⟨#[112, 114, 101, 102, 101, 114, 115, 45, 99, 111, 108, 111, 114, 45, 115, 99, 104, 101, 109, 101]⟩, .string ⟨#[112, 114, 101, 102, 101, 114, 115, 45, 114, 101, 100, 117, 99, 101, 100, 45, 109, 111, 116, 105, 111, 110]⟩] ty fr) ∧ wx.row w.heap.size = some (.cells #[.bool p, .int .i64 w1, .int .i64 w2, .int .i64 h1, .int .i64 h2, .int .i64 f1, .int .i64 f2, .int .i64 c1, .int .i64 c2, .string s, .string h, .string q, .string m] 25) ∧ wx.row (w.heap.size + 1) = some (.cells #[.int .i64 k0, .int .i64 k1, .int .i64 k2, .int .i64 k3, .string n, .string wd, .slice tp tl tc, .int .i64 a, .int .i64 b, .int .i64 c, .int .i64 d, .int .i64 bt, .string bs, .int .i64 b1, .int .i64 b2, .int .i64 b3, .int .i64 b4, .bool on] 30) ∧ wx.row g = some (.cells #[.bool p', .int .i64 w1', .int .i64 w2', .int .i64 h1', .int .i64 h2', .int .i64 f1', .int .i64 f2', .int .i64 c1', .int .i64 c2', .string s', .string h', .string q', .string m'] 25))
    case first =>
      go_wp2_with (first | (go_at_call 4; (with_reducible refine (FV.out _).mono ?_); rintro e w1 ⟨rfl, x1, rfl⟩) | (go_at_call 5; (with_reducible refine (CV.out _).mono ?_); rintro e w1 ⟨rfl, x1, rfl⟩) | (go_at_call 6; (with_reducible refine (awake_any _).mono ?_); rintro e w1 ⟨rfl, x1, rfl⟩) | (go_at_call 7; (with_reducible refine (M1.out _).mono ?_); rintro e w1 ⟨rfl, x1, rfl⟩) | (go_at_call 7; (with_reducible refine (M2.out _).mono ?_); rintro e w1 ⟨rfl, x1, rfl⟩))
      go_meet
      refine ⟨_, rfl, rfl, rfl, (by repeat (with_reducible first | assumption | exact World.grows.refl | apply World.grows.plus | apply World.grows.alloc | apply World.grows.drew | (refine World.grows.setRow' ?_ (by omega) _) | (refine World.grows.setCell' ?_ (by omega) _ _))), (by simp [go_sem, *]), (by simp [go_sem, *]), (by simp [go_sem, *]), (by simp [go_sem, *])⟩
    case rest =>
      obtain ⟨g, rfl, rfl, rfl, hg, h00, hA, hB, hF⟩ := hcut
      have y0 := row_sz' h00; have y1 := row_sz' hA; have y2 := row_sz' hB; have y3 := row_sz' hF
      go_wp2_with fail
      clear h00 y0
      go_loopw [64] (fun i wr => ∃ k : Nat, k ≤ 9 ∧ i = .int .i64 k ∧ w.grows wr ∧ wr.row w.heap.size = some (.cells #[.bool p, .int .i64 w1, .int .i64 w2, .int .i64 h1, .int .i64 h2, .int .i64 f1, .int .i64 f2, .int .i64 c1, .int .i64 c2, .string s, .string h, .string q, .string m] 25) ∧ wr.row (w.heap.size + 1) = some (.cells #[.int .i64 k0, .int .i64 k1, .int .i64 k2, .int .i64 k3, .string n, .string wd, .slice tp tl tc, .int .i64 a, .int .i64 b, .int .i64 c, .int .i64 d, .int .i64 bt, .string bs, .int .i64 b1, .int .i64 b2, .int .i64 b3, .int .i64 b4, .bool on] 30) ∧ wr.row g = some (.cells #[.bool p', .int .i64 w1', .int .i64 w2', .int .i64 h1', .int .i64 h2', .int .i64 f1', .int .i64 f2', .int .i64 c1', .int .i64 c2', .string s', .string h', .string q', .string m'] 25)) (fun i _ => 9 - (intOf i).toNat)
      case atStart => exact ⟨0, by omega, rfl, (by repeat (with_reducible first | assumption | exact World.grows.refl | apply World.grows.plus | apply World.grows.alloc | apply World.grows.drew | (refine World.grows.setRow' ?_ (by omega) _) | (refine World.grows.setCell' ?_ (by omega) _ _))), (by simp [go_sem, *]), (by simp [go_sem, *]), (by simp [go_sem, *])⟩
      case round =>
        clear hA hB hF y1 y2 y3 hg
        obtain ⟨k, hk, rfl, hg, hA, hB, hF⟩ := hrel
        have y1 := row_sz' hA; have y2 := row_sz' hB; have y3 := row_sz' hF
        by_cases hlt : k < 9
        · have hidx := idx_all k hlt
          have hN : allN.getD k ByteArray.empty ∈ allN := by
            rw [List.getD_eq_getElem?_getD, List.getElem?_eq_getElem (by simpa [allN] using hlt)]; exact List.getElem_mem _
          generalize allN.getD k ByteArray.empty = N at *
          have q1 := HF1.out N hN; have q2 := HF2.out N hN; have q3 := HAP.out N hN
          have a1 := fun w => VA.out N w; have a2 := fun w => VB.out N w; have a3 := fun w => WA.out N w; have a4 := fun w => WB.out N w
          generalize V N = VN at *
          generalize V' N = VN' at *
          generalize D N = DN at *
          generalize D' N = DN' at *
          generalize numB N = nb at *
          obtain ⟨⟨r1, r2⟩, t1⟩ := VN
          obtain ⟨⟨s1, s2⟩, t2⟩ := VN'
          obtain ⟨x1', u1⟩ := DN
          obtain ⟨x2', u2⟩ := DN'
          simp only at q1 q2 q3 a1 a2 a3 a4
          obtain ⟨rfl, rfl⟩ := q1
          obtain ⟨rfl, rfl⟩ := q2
          clear hN
          obtain rfl := HKD.out
          · clear HKD HWG HWD HAP HF1 HF2 VA VB WA WB
            by_cases i1 : N.toList = [119, 105, 100, 116, 104]
            · have j1 : (N.toList == [119, 105, 100, 116, 104]) = true := by simpa using i1
              clear i1
              clear q3
              have A1 := Lib.hid a1; have A2 := Lib.hid a2; have A3 := Lib.hid a3; have A4 := Lib.hid a4; clear a1 a2 a3 a4
              first | cases t2 | cases t1
              all_goals
                go_wp2_with (first | (go_at_call 8; (with_reducible refine (A1.out _).mono ?_); rintro e w1 ⟨rfl, x1, rfl⟩) | (go_at_call 8; (with_reducible refine (A2.out _).mono ?_); rintro e w1 ⟨rfl, x1, rfl⟩) | (go_at_call 9; (with_reducible refine (A3.out _).mono ?_); rintro e w1 ⟨rfl, x1, rfl⟩) | (go_at_call 9; (with_reducible refine (A4.out _).mono ?_); rintro e w1 ⟨rfl, x1, rfl⟩))
                go_roundw
                case rel => exact ⟨k + 1, by omega, by go_num, (by repeat (with_reducible first | assumption | exact World.grows.refl | apply World.grows.plus | apply World.grows.alloc | apply World.grows.drew | (refine World.grows.setRow' ?_ (by omega) _) | (refine World.grows.setCell' ?_ (by omega) _ _))), (by simp [go_sem, *]), (by simp [go_sem, *]), (by simp [go_sem, *])⟩
                case measure => simp [intOf]; omega
            have j1 : (N.toList == [119, 105, 100, 116, 104]) = false := by simpa using i1
            by_cases i2 : N.toList = [104, 101, 105, 103, 104, 116]
            · have j2 : (N.toList == [104, 101, 105, 103, 104, 116]) = true := by simpa using i2
              clear i1 i2
              clear q3
              have A1 := Lib.hid a1; have A2 := Lib.hid a2; have A3 := Lib.hid a3; have A4 := Lib.hid a4; clear a1 a2 a3 a4
              first | cases t2 | cases t1
              all_goals
                go_wp2_with (first | (go_at_call 8; (with_reducible refine (A1.out _).mono ?_); rintro e w1 ⟨rfl, x1, rfl⟩) | (go_at_call 8; (with_reducible refine (A2.out _).mono ?_); rintro e w1 ⟨rfl, x1, rfl⟩) | (go_at_call 9; (with_reducible refine (A3.out _).mono ?_); rintro e w1 ⟨rfl, x1, rfl⟩) | (go_at_call 9; (with_reducible refine (A4.out _).mono ?_); rintro e w1 ⟨rfl, x1, rfl⟩))
                go_roundw
                case rel => exact ⟨k + 1, by omega, by go_num, (by repeat (with_reducible first | assumption | exact World.grows.refl | apply World.grows.plus | apply World.grows.alloc | apply World.grows.drew | (refine World.grows.setRow' ?_ (by omega) _) | (refine World.grows.setCell' ?_ (by omega) _ _))), (by simp [go_sem, *]), (by simp [go_sem, *]), (by simp [go_sem, *])⟩
                case measure => simp [intOf]; omega
            have j2 : (N.toList == [104, 101, 105, 103, 104, 116]) = false := by simpa using i2
            by_cases i3 : N.toList = [97, 115, 112, 101, 99, 116, 45, 114, 97, 116, 105, 111]
            · have j3 : (N.toList == [97, 115, 112, 101, 99, 116, 45, 114, 97, 116, 105, 111]) = true := by simpa using i3
              clear i1 i2 i3
              clear q3
              have A1 := Lib.hid a1; have A2 := Lib.hid a2; have A3 := Lib.hid a3; have A4 := Lib.hid a4; clear a1 a2 a3 a4
              first | cases t2 | cases t1
              all_goals
                go_wp2_with (first | (go_at_call 8; (with_reducible refine (A1.out _).mono ?_); rintro e w1 ⟨rfl, x1, rfl⟩) | (go_at_call 8; (with_reducible refine (A2.out _).mono ?_); rintro e w1 ⟨rfl, x1, rfl⟩) | (go_at_call 9; (with_reducible refine (A3.out _).mono ?_); rintro e w1 ⟨rfl, x1, rfl⟩) | (go_at_call 9; (with_reducible refine (A4.out _).mono ?_); rintro e w1 ⟨rfl, x1, rfl⟩))
                go_roundw
                case rel => exact ⟨k + 1, by omega, by go_num, (by repeat (with_reducible first | assumption | exact World.grows.refl | apply World.grows.plus | apply World.grows.alloc | apply World.grows.drew | (refine World.grows.setRow' ?_ (by omega) _) | (refine World.grows.setCell' ?_ (by omega) _ _))), (by simp [go_sem, *]), (by simp [go_sem, *]), (by simp [go_sem, *])⟩
                case measure => simp [intOf]; omega
            have j3 : (N.toList == [97, 115, 112, 101, 99, 116, 45, 114, 97, 116, 105, 111]) = false := by simpa using i3
            by_cases i4 : N.toList = [111, 114, 105, 101, 110, 116, 97, 116, 105, 111, 110]
            · have j4 : (N.toList == [111, 114, 105, 101, 110, 116, 97, 116, 105, 111, 110]) = true := by simpa using i4
              clear i1 i2 i3 i4
              clear q3
              have A1 := Lib.hid a1; have A2 := Lib.hid a2; have A3 := Lib.hid a3; have A4 := Lib.hid a4; clear a1 a2 a3 a4
              first | cases t2 | cases t1
              all_goals
                go_wp2_with (first | (go_at_call 8; (with_reducible refine (A1.out _).mono ?_); rintro e w1 ⟨rfl, x1, rfl⟩) | (go_at_call 8; (with_reducible refine (A2.out _).mono ?_); rintro e w1 ⟨rfl, x1, rfl⟩) | (go_at_call 9; (with_reducible refine (A3.out _).mono ?_); rintro e w1 ⟨rfl, x1, rfl⟩) | (go_at_call 9; (with_reducible refine (A4.out _).mono ?_); rintro e w1 ⟨rfl, x1, rfl⟩))
                go_roundw
                case rel => exact ⟨k + 1, by omega, by go_num, (by repeat (with_reducible first | assumption | exact World.grows.refl | apply World.grows.plus | apply World.grows.alloc | apply World.grows.drew | (refine World.grows.setRow' ?_ (by omega) _) | (refine World.grows.setCell' ?_ (by omega) _ _))), (by simp [go_sem, *]), (by simp [go_sem, *]), (by simp [go_sem, *])⟩
                case measure => simp [intOf]; omega
            have j4 : (N.toList == [111, 114, 105, 101, 110, 116, 97, 116, 105, 111, 110]) = false := by simpa using i4
            clear i1 i2 i3 i4
            have hq := q3 (by unfold ownB; simp [j1, j2, j3, j4])
            obtain ⟨hq1, rfl⟩ := hq
            obtain ⟨rfl, rfl⟩ := Prod.mk.inj hq1
            clear q3
            have A1 := Lib.hid a1; have A2 := Lib.hid a2; have A3 := Lib.hid a3; have A4 := Lib.hid a4; clear a1 a2 a3 a4
            first | cases t2 | cases t1
            all_goals
              go_wp2_with (first | (go_at_call 8; (with_reducible refine (A1.out _).mono ?_); rintro e w1 ⟨rfl, x1, rfl⟩) | (go_at_call 8; (with_reducible refine (A2.out _).mono ?_); rintro e w1 ⟨rfl, x1, rfl⟩) | (go_at_call 9; (with_reducible refine (A3.out _).mono ?_); rintro e w1 ⟨rfl, x1, rfl⟩) | (go_at_call 9; (with_reducible refine (A4.out _).mono ?_); rintro e w1 ⟨rfl, x1, rfl⟩))
              go_roundw
              case rel => exact ⟨k + 1, by omega, by go_num, (by repeat (with_reducible first | assumption | exact World.grows.refl | apply World.grows.plus | apply World.grows.alloc | apply World.grows.drew | (refine World.grows.setRow' ?_ (by omega) _) | (refine World.grows.setCell' ?_ (by omega) _ _))), (by simp [go_sem, *]), (by simp [go_sem, *]), (by simp [go_sem, *])⟩
              case measure => simp [intOf]; omega
        · obtain rfl : k = 9 := by omega
          obtain rfl := HKD.out
          · have g1 := fun w => VB.out nmW w; have g2 := fun w => VB.out nmH w
            rw [(HWD.out rfl).1] at g1; rw [(HWD.out rfl).2] at g2
            simp only [nmW, nmH] at g1 g2
            have A1 := Lib.hid g1; have A2 := Lib.hid g2; clear g1 g2
            clear HKD HWG HWD HAP HF1 HF2 VA VB WA WB
            go_wp2_with (first | (go_at_call 8; (with_reducible refine (A1.out _).mono ?_); rintro e w1 ⟨rfl, x1, rfl⟩) | (go_at_call 8; (with_reducible refine (A2.out _).mono ?_); rintro e w1 ⟨rfl, x1, rfl⟩))
            go_ret
            exact ⟨rfl, (by repeat (with_reducible first | assumption | exact World.grows.refl | apply World.grows.plus | apply World.grows.alloc | apply World.grows.drew | (refine World.grows.setRow' ?_ (by omega) _) | (refine World.grows.setCell' ?_ (by omega) _ _)))⟩

set_option maxRecDepth 100000 in
set_option maxHeartbeats 8000000 in
theorem envApart3_any (e : En) (o : Od) (w : World) (ty : TypeId) (fr : Nat × Nat) (he : e.Wf) (ho : o.Wf) (hall : w.row 0 = some (.cells #[.string ⟨#[119, 105, 100, 116, 104]⟩, .string ⟨#[104, 101, 105, 103, 104, 116]⟩, .string ⟨#[97, 115, 112, 101, 99, 116, 45, 114, 97, 116, 105, 111]⟩, .string ⟨#[99, 111, 108, 111, 114]⟩, .string ⟨#[104, 111, 118, 101, 114]⟩, .string ⟨#[111, 114, 105, 101, 110, 116, 97, 116, 105, 111, 110]⟩, .string ⟨#[112, 111, 105, 110, 116, 101, 114]⟩, .string ⟨#[112, 114, 101, 102, 101, 114, 115, 45, 99, 111, 108, 111, 114, 45, 115, 99, 104, 101, 109, 101]⟩, .string ⟨#[112, 114, 101, 102, 101, 114, 115, 45, 114, 101, 100, 117, 99, 101, 100, 45, 109, 111, 116, 105, 111, 110]⟩] ty fr)) (hm : e.may = true) (hk : o.five.ok = true) (hkd : o.five.k0 = 3) : Calls Tryd.prog 3 #[e.v, o.v] w (Gives w (.bool true)) := by
  have fv := fun w => five_any o w
  have cv := fun w => change_any e o.five w he (Od.five_wf ho)
  have m1 := fun w => envMay_any e w he
  have z0 := row_sz' hall
  · skip
    have hc := chg_ok hm hk
    have hfm := upd_may hm hk
    have hwf := upd_wf he (Od.five_wf ho)
    simp only [chgV, hc.1, hc.2] at cv
    rw [hm] at m1
    have hfl1 := flags hm
    have hfl2 := flags hfm
    have hap := apart_all hm hfm hk (five_kind o)
    have hwg := fun h4 => word_given hfm h4 hk
    have m2 := fun w => envMay_any (e.upd o.five) w hwf
    rw [hfm] at m2
    have va := fun n w => envVal_any e n w he
    have vb := fun n w => envVal_any (e.upd o.five) n w hwf
    have wa := fun n w => word_any e n w he
    have wb := fun n w => word_any (e.upd o.five) n w hwf
    have hwd : o.five.k0 = 2 → (e.upd o.five).val nmW = ((o.five.a, o.five.b), true) ∧ (e.upd o.five).val nmH = ((o.five.c, o.five.d), true) := fun h2 => by
      rw [val_nmW hfm, val_nmH hfm]; unfold En.upd; rw [if_pos h2]; exact ⟨rfl, rfl⟩
    generalize e.val = V at *
    generalize (e.upd o.five).val = V' at *
    generalize e.word = D at *
    generalize (e.upd o.five).word = D' at *
    generalize e.upd o.five = F at *
    generalize o.five = O at *
    obtain ⟨k0, k1, k2, k3, n, wd, tp, tl, tc, a, b, c, d, bt, bs, b1, b2, b3, b4, on⟩ := O
    obtain ⟨p, w1, w2, h1, h2, f1, f2, c1, c2, s, h, q, m⟩ := e
    obtain ⟨p', w1', w2', h1', h2', f1', f2', c1', c2', s', h', q', m'⟩ := F
    obtain ⟨o0, o1, o2, o3, on', owd, otp, otl, otc, oa, ob, oc, od, obt, obs, ob1, ob2, ob3, ob4, oon⟩ := o
    simp only at hwd hkd hwg
    have FV := Lib.hid fv; have CV := Lib.hid cv; have M1 := Lib.hid m1; have M2 := Lib.hid m2; have VA := Lib.hid va; have VB := Lib.hid vb; have WA := Lib.hid wa; have WB := Lib.hid wb
    have HF1 := Lib.hid hfl1; have HF2 := Lib.hid hfl2; have HAP := Lib.hid hap; have HWG := Lib.hid hwg; have HWD := Lib.hid hwd; have HKD := Lib.hid hkd
    clear fv cv m1 m2 va vb wa wb hfl1 hfl2 hap hwg hwd hkd hm hk hc hfm hwf he ho
    go_enter Tryd.func3, Tryd.ntmps3
    go_upto_region 7 with (first | (go_at_call 4; (with_reducible refine (FV.out _).mono ?_); rintro e w1 ⟨rfl, x1, rfl⟩) | (go_at_call 5; (with_reducible refine (CV.out _).mono ?_); rintro e w1 ⟨rfl, x1, rfl⟩) | (go_at_call 6; (with_reducible refine (awake_any _).mono ?_); rintro e w1 ⟨rfl, x1, rfl⟩) | (go_at_call 7; (with_reducible refine (M1.out _).mono ?_); rintro e w1 ⟨rfl, x1, rfl⟩) | (go_at_call 7; (with_reducible refine (M2.out _).mono ?_); rintro e w1 ⟨rfl, x1, rfl⟩))
    go_cut [5, 63, 64] (fun s5 s63 s64 wx => ∃ g : Nat, s5 = .pointer (some ⟨g, 0, none⟩) ∧ s63 = .agg #[.string ⟨#[119, 105, 100, 116, 104]⟩, .string ⟨#[104, 101, 105, 103, 104, 116]⟩, .string ⟨#[97, 115, 112, 101, 99, 116, 45, 114, 97, 116, 105, 111]⟩, .string ⟨#[99, 111, 108, 111, 114]⟩, .string ⟨#[104, 111, 118, 101, 114]⟩, .string ⟨#[111, 114, 105, 101, 110, 116, 97, 116, 105, 111, 110]⟩, .string ⟨#[112, 111, 105, 110, 116, 101, 114]⟩, .string ⟨#[112, 114, 101, 102, 101, 114, 115, 45, 99, 111, 108, 111, 114, 45, 115, 99, 104, 101, 109, 101]⟩, .string ⟨#[112, 114, 101, 102, 101, 114, 115, 45, 114, 101, 100, 117, 99, 101, 100, 45, 109, 111, 116, 105, 111, 110]⟩] ∧ s64 = .int .i64 0 ∧ w.grows wx ∧ wx.row 0 = some (.cells #[.string ⟨#[119, 105, 100, 116, 104]⟩, .string ⟨#[104, 101, 105, 103, 104, 116]⟩, .string ⟨#[97, 115, 112, 101, 99, 116, 45, 114, 97, 116, 105, 111]⟩, .string ⟨#[99, 111, 108, 111, 114]⟩, .string ⟨#[104, 111, 118, 101, 114]⟩, .string ⟨#[111, 114, 105, 101, 110, 116, 97, 116, 105, 111, 110]⟩, .string ⟨#[112, 111, 105, 110, 116, 101, 114]⟩, .string ⟨#[112, 114, 101, 102, 101, 114, 115, 45, 99, 111, 108, 111, 114, 45, 115, 99, 104, 101, 109, 101]⟩, .string ⟨#[112, 114, 101, 102, 101, 114, 115, 45, 114, 101, 100, 117, 99, 101, 100, 45, 109, 111, 116, 105, 111, 110]⟩] ty fr) ∧ wx.row w.heap.size = some (.cells #[.bool p, .int .i64 w1, .int .i64 w2, .int .i64 h1, .int .i64 h2, .int .i64 f1, .int .i64 f2, .int .i64 c1, .int .i64 c2, .string s, .string h, .string q, .string m] 25) ∧ wx.row (w.heap.size + 1) = some (.cells #[.int .i64 k0, .int .i64 k1, .int .i64 k2, .int .i64 k3, .string n, .string wd, .slice tp tl tc, .int .i64 a, .int .i64 b, .int .i64 c, .int .i64 d, .int .i64 bt, .string bs, .int .i64 b1, .int .i64 b2, .int .i64 b3, .int .i64 b4, .bool on] 30) ∧ wx.row g = some (.cells #[.bool p', .int .i64 w1', .int .i64 w2', .int .i64 h1', .int .i64 h2', .int .i64 f1', .int .i64 f2', .int .i64 c1', .int .i64 c2', .string s', .string h', .string q', .string m'] 25))
    case first =>
      go_wp2_with (first | (go_at_call 4; (with_reducible refine (FV.out _).mono ?_); rintro e w1 ⟨rfl, x1, rfl⟩) | (go_at_call 5; (with_reducible refine (CV.out _).mono ?_); rintro e w1 ⟨rfl, x1, rfl⟩) | (go_at_call 6; (with_reducible refine (awake_any _).mono ?_); rintro e w1 ⟨rfl, x1, rfl⟩) | (go_at_call 7; (with_reducible refine (M1.out _).mono ?_); rintro e w1 ⟨rfl, x1, rfl⟩) | (go_at_call 7; (with_reducible refine (M2.out _).mono ?_); rintro e w1 ⟨rfl, x1, rfl⟩))
      go_meet
      refine ⟨_, rfl, rfl, rfl, (by repeat (with_reducible first | assumption | exact World.grows.refl | apply World.grows.plus | apply World.grows.alloc | apply World.grows.drew | (refine World.grows.setRow' ?_ (by omega) _) | (refine World.grows.setCell' ?_ (by omega) _ _))), (by simp [go_sem, *]), (by simp [go_sem, *]), (by simp [go_sem, *]), (by simp [go_sem, *])⟩
    case rest =>
      obtain ⟨g, rfl, rfl, rfl, hg, h00, hA, hB, hF⟩ := hcut
      have y0 := row_sz' h00; have y1 := row_sz' hA; have y2 := row_sz' hB; have y3 := row_sz' hF
      go_wp2_with fail
      clear h00 y0
      go_loopw [64] (fun i wr => ∃ k : Nat, k ≤ 9 ∧ i = .int .i64 k ∧ w.grows wr ∧ wr.row w.heap.size = some (.cells #[.bool p, .int .i64 w1, .int .i64 w2, .int .i64 h1, .int .i64 h2, .int .i64 f1, .int .i64 f2, .int .i64 c1, .int .i64 c2, .string s, .string h, .string q, .string m] 25) ∧ wr.row (w.heap.size + 1) = some (.cells #[.int .i64 k0, .int .i64 k1, .int .i64 k2, .int .i64 k3, .string n, .string wd, .slice tp tl tc, .int .i64 a, .int .i64 b, .int .i64 c, .int .i64 d, .int .i64 bt, .string bs, .int .i64 b1, .int .i64 b2, .int .i64 b3, .int .i64 b4, .bool on] 30) ∧ wr.row g = some (.cells #[.bool p', .int .i64 w1', .int .i64 w2', .int .i64 h1', .int .i64 h2', .int .i64 f1', .int .i64 f2', .int .i64 c1', .int .i64 c2', .string s', .string h', .string q', .string m'] 25)) (fun i _ => 9 - (intOf i).toNat)
      case atStart => exact ⟨0, by omega, rfl, (by repeat (with_reducible first | assumption | exact World.grows.refl | apply World.grows.plus | apply World.grows.alloc | apply World.grows.drew | (refine World.grows.setRow' ?_ (by omega) _) | (refine World.grows.setCell' ?_ (by omega) _ _))), (by simp [go_sem, *]), (by simp [go_sem, *]), (by simp [go_sem, *])⟩
      case round =>
        clear hA hB hF y1 y2 y3 hg
        obtain ⟨k, hk, rfl, hg, hA, hB, hF⟩ := hrel
        have y1 := row_sz' hA; have y2 := row_sz' hB; have y3 := row_sz' hF
        by_cases hlt : k < 9
        · have hidx := idx_all k hlt
          have hN : allN.getD k ByteArray.empty ∈ allN := by
            rw [List.getD_eq_getElem?_getD, List.getElem?_eq_getElem (by simpa [allN] using hlt)]; exact List.getElem_mem _
          generalize allN.getD k ByteArray.empty = N at *
          have q1 := HF1.out N hN; have q2 := HF2.out N hN; have q3 := HAP.out N hN
          have a1 := fun w => VA.out N w; have a2 := fun w => VB.out N w; have a3 := fun w => WA.out N w; have a4 := fun w => WB.out N w
          generalize V N = VN at *
          generalize V' N = VN' at *
          generalize D N = DN at *
          generalize D' N = DN' at *
          generalize numB N = nb at *
          obtain ⟨⟨r1, r2⟩, t1⟩ := VN
          obtain ⟨⟨s1, s2⟩, t2⟩ := VN'
          obtain ⟨x1', u1⟩ := DN
          obtain ⟨x2', u2⟩ := DN'
          simp only at q1 q2 q3 a1 a2 a3 a4
          obtain ⟨rfl, rfl⟩ := q1
          obtain ⟨rfl, rfl⟩ := q2
          clear hN
          obtain rfl := HKD.out
          · clear HKD HWG HWD HAP HF1 HF2 VA VB WA WB
            have hq := q3 (by unfold ownB; simp [])
            obtain ⟨hq1, rfl⟩ := hq
            obtain ⟨rfl, rfl⟩ := Prod.mk.inj hq1
            clear q3
            have A1 := Lib.hid a1; have A2 := Lib.hid a2; have A3 := Lib.hid a3; have A4 := Lib.hid a4; clear a1 a2 a3 a4
            first | cases t2 | cases t1
            all_goals
              go_wp2_with (first | (go_at_call 8; (with_reducible refine (A1.out _).mono ?_); rintro e w1 ⟨rfl, x1, rfl⟩) | (go_at_call 8; (with_reducible refine (A2.out _).mono ?_); rintro e w1 ⟨rfl, x1, rfl⟩) | (go_at_call 9; (with_reducible refine (A3.out _).mono ?_); rintro e w1 ⟨rfl, x1, rfl⟩) | (go_at_call 9; (with_reducible refine (A4.out _).mono ?_); rintro e w1 ⟨rfl, x1, rfl⟩))
              go_roundw
              case rel => exact ⟨k + 1, by omega, by go_num, (by repeat (with_reducible first | assumption | exact World.grows.refl | apply World.grows.plus | apply World.grows.alloc | apply World.grows.drew | (refine World.grows.setRow' ?_ (by omega) _) | (refine World.grows.setCell' ?_ (by omega) _ _))), (by simp [go_sem, *]), (by simp [go_sem, *]), (by simp [go_sem, *])⟩
              case measure => simp [intOf]; omega
        · obtain rfl : k = 9 := by omega
          obtain rfl := HKD.out
          · clear HKD HWG HWD HAP HF1 HF2 VA VB WA WB
            go_wp2_with fail
            go_ret
            exact ⟨rfl, (by repeat (with_reducible first | assumption | exact World.grows.refl | apply World.grows.plus | apply World.grows.alloc | apply World.grows.drew | (refine World.grows.setRow' ?_ (by omega) _) | (refine World.grows.setCell' ?_ (by omega) _ _)))⟩

set_option maxRecDepth 100000 in
set_option maxHeartbeats 8000000 in
theorem envApart13_any (e : En) (o : Od) (w : World) (ty : TypeId) (fr : Nat × Nat) (he : e.Wf) (ho : o.Wf) (hall : w.row 0 = some (.cells #[.string ⟨#[119, 105, 100, 116, 104]⟩, .string ⟨#[104, 101, 105, 103, 104, 116]⟩, .string ⟨#[97, 115, 112, 101, 99, 116, 45, 114, 97, 116, 105, 111]⟩, .string ⟨#[99, 111, 108, 111, 114]⟩, .string ⟨#[104, 111, 118, 101, 114]⟩, .string ⟨#[111, 114, 105, 101, 110, 116, 97, 116, 105, 111, 110]⟩, .string ⟨#[112, 111, 105, 110, 116, 101, 114]⟩, .string ⟨#[112, 114, 101, 102, 101, 114, 115, 45, 99, 111, 108, 111, 114, 45, 115, 99, 104, 101, 109, 101]⟩, .string ⟨#[112, 114, 101, 102, 101, 114, 115, 45, 114, 101, 100, 117, 99, 101, 100, 45, 109, 111, 116, 105, 111, 110]⟩] ty fr)) (hm : e.may = true) (hk : o.five.ok = true) (hkd : o.five.k0 = 13) : Calls Tryd.prog 3 #[e.v, o.v] w (Gives w (.bool true)) := by
  have fv := fun w => five_any o w
  have cv := fun w => change_any e o.five w he (Od.five_wf ho)
  have m1 := fun w => envMay_any e w he
  have z0 := row_sz' hall
  · skip
    have hc := chg_ok hm hk
    have hfm := upd_may hm hk
    have hwf := upd_wf he (Od.five_wf ho)
    simp only [chgV, hc.1, hc.2] at cv
    rw [hm] at m1
    have hfl1 := flags hm
    have hfl2 := flags hfm
    have hap := apart_all hm hfm hk (five_kind o)
    have hwg := fun h4 => word_given hfm h4 hk
    have m2 := fun w => envMay_any (e.upd o.five) w hwf
    rw [hfm] at m2
    have va := fun n w => envVal_any e n w he
    have vb := fun n w => envVal_any (e.upd o.five) n w hwf
    have wa := fun n w => word_any e n w he
    have wb := fun n w => word_any (e.upd o.five) n w hwf
    have hwd : o.five.k0 = 2 → (e.upd o.five).val nmW = ((o.five.a, o.five.b), true) ∧ (e.upd o.five).val nmH = ((o.five.c, o.five.d), true) := fun h2 => by
      rw [val_nmW hfm, val_nmH hfm]; unfold En.upd; rw [if_pos h2]; exact ⟨rfl, rfl⟩
    generalize e.val = V at *
    generalize (e.upd o.five).val = V' at *
    generalize e.word = D at *
    generalize (e.upd o.five).word = D' at *
    generalize e.upd o.five = F at *
    generalize o.five = O at *
    obtain ⟨k0, k1, k2, k3, n, wd, tp, tl, tc, a, b, c, d, bt, bs, b1, b2, b3, b4, on⟩ := O
    obtain ⟨p, w1, w2, h1, h2, f1, f2, c1, c2, s, h, q, m⟩ := e
    obtain ⟨p', w1', w2', h1', h2', f1', f2', c1', c2', s', h', q', m'⟩ := F
    obtain ⟨o0, o1, o2, o3, on', owd, otp, otl, otc, oa, ob, oc, od, obt, obs, ob1, ob2, ob3, ob4, oon⟩ := o
    simp only at hwd hkd hwg
    have FV := Lib.hid fv; have CV := Lib.hid cv; have M1 := Lib.hid m1; have M2 := Lib.hid m2; have VA := Lib.hid va; have VB := Lib.hid vb; have WA := Lib.hid wa; have WB := Lib.hid wb
    have HF1 := Lib.hid hfl1; have HF2 := Lib.hid hfl2; have HAP := Lib.hid hap; have HWG := Lib.hid hwg; have HWD := Lib.hid hwd; have HKD := Lib.hid hkd
    clear fv cv m1 m2 va vb wa wb hfl1 hfl2 hap hwg hwd hkd hm hk hc hfm hwf he ho
    go_enter Tryd.func3, Tryd.ntmps3
    go_upto_region 7 with (first | (go_at_call 4; (with_reducible refine (FV.out _).mono ?_); rintro e w1 ⟨rfl, x1, rfl⟩) | (go_at_call 5; (with_reducible refine (CV.out _).mono ?_); rintro e w1 ⟨rfl, x1, rfl⟩) | (go_at_call 6; (with_reducible refine (awake_any _).mono ?_); rintro e w1 ⟨rfl, x1, rfl⟩) | (go_at_call 7; (with_reducible refine (M1.out _).mono ?_); rintro e w1 ⟨rfl, x1, rfl⟩) | (go_at_call 7; (with_reducible refine (M2.out _).mono ?_); rintro e w1 ⟨rfl, x1, rfl⟩))
    go_cut [5, 63, 64] (fun s5 s63 s64 wx => ∃ g : Nat, s5 = .pointer (some ⟨g, 0, none⟩) ∧ s63 = .agg #[.string ⟨#[119, 105, 100, 116, 104]⟩, .string ⟨#[104, 101, 105, 103, 104, 116]⟩, .string ⟨#[97, 115, 112, 101, 99, 116, 45, 114, 97, 116, 105, 111]⟩, .string ⟨#[99, 111, 108, 111, 114]⟩, .string ⟨#[104, 111, 118, 101, 114]⟩, .string ⟨#[111, 114, 105, 101, 110, 116, 97, 116, 105, 111, 110]⟩, .string ⟨#[112, 111, 105, 110, 116, 101, 114]⟩, .string ⟨#[112, 114, 101, 102, 101, 114, 115, 45, 99, 111, 108, 111, 114, 45, 115, 99, 104, 101, 109, 101]⟩, .string ⟨#[112, 114, 101, 102, 101, 114, 115, 45, 114, 101, 100, 117, 99, 101, 100, 45, 109, 111, 116, 105, 111, 110]⟩] ∧ s64 = .int .i64 0 ∧ w.grows wx ∧ wx.row 0 = some (.cells #[.string ⟨#[119, 105, 100, 116, 104]⟩, .string ⟨#[104, 101, 105, 103, 104, 116]⟩, .string ⟨#[97, 115, 112, 101, 99, 116, 45, 114, 97, 116, 105, 111]⟩, .string ⟨#[99, 111, 108, 111, 114]⟩, .string ⟨#[104, 111, 118, 101, 114]⟩, .string ⟨#[111, 114, 105, 101, 110, 116, 97, 116, 105, 111, 110]⟩, .string ⟨#[112, 111, 105, 110, 116, 101, 114]⟩, .string ⟨#[112, 114, 101, 102, 101, 114, 115, 45, 99, 111, 108, 111, 114, 45, 115, 99, 104, 101, 109, 101]⟩, .string ⟨#[112, 114, 101, 102, 101, 114, 115, 45, 114, 101, 100, 117, 99, 101, 100, 45, 109, 111, 116, 105, 111, 110]⟩] ty fr) ∧ wx.row w.heap.size = some (.cells #[.bool p, .int .i64 w1, .int .i64 w2, .int .i64 h1, .int .i64 h2, .int .i64 f1, .int .i64 f2, .int .i64 c1, .int .i64 c2, .string s, .string h, .string q, .string m] 25) ∧ wx.row (w.heap.size + 1) = some (.cells #[.int .i64 k0, .int .i64 k1, .int .i64 k2, .int .i64 k3, .string n, .string wd, .slice tp tl tc, .int .i64 a, .int .i64 b, .int .i64 c, .int .i64 d, .int .i64 bt, .string bs, .int .i64 b1, .int .i64 b2, .int .i64 b3, .int .i64 b4, .bool on] 30) ∧ wx.row g = some (.cells #[.bool p', .int .i64 w1', .int .i64 w2', .int .i64 h1', .int .i64 h2', .int .i64 f1', .int .i64 f2', .int .i64 c1', .int .i64 c2', .string s', .string h', .string q', .string m'] 25))
    case first =>
      go_wp2_with (first | (go_at_call 4; (with_reducible refine (FV.out _).mono ?_); rintro e w1 ⟨rfl, x1, rfl⟩) | (go_at_call 5; (with_reducible refine (CV.out _).mono ?_); rintro e w1 ⟨rfl, x1, rfl⟩) | (go_at_call 6; (with_reducible refine (awake_any _).mono ?_); rintro e w1 ⟨rfl, x1, rfl⟩) | (go_at_call 7; (with_reducible refine (M1.out _).mono ?_); rintro e w1 ⟨rfl, x1, rfl⟩) | (go_at_call 7; (with_reducible refine (M2.out _).mono ?_); rintro e w1 ⟨rfl, x1, rfl⟩))
      go_meet
      refine ⟨_, rfl, rfl, rfl, (by repeat (with_reducible first | assumption | exact World.grows.refl | apply World.grows.plus | apply World.grows.alloc | apply World.grows.drew | (refine World.grows.setRow' ?_ (by omega) _) | (refine World.grows.setCell' ?_ (by omega) _ _))), (by simp [go_sem, *]), (by simp [go_sem, *]), (by simp [go_sem, *]), (by simp [go_sem, *])⟩
    case rest =>
      obtain ⟨g, rfl, rfl, rfl, hg, h00, hA, hB, hF⟩ := hcut
      have y0 := row_sz' h00; have y1 := row_sz' hA; have y2 := row_sz' hB; have y3 := row_sz' hF
      go_wp2_with fail
      clear h00 y0
      go_loopw [64] (fun i wr => ∃ k : Nat, k ≤ 9 ∧ i = .int .i64 k ∧ w.grows wr ∧ wr.row w.heap.size = some (.cells #[.bool p, .int .i64 w1, .int .i64 w2, .int .i64 h1, .int .i64 h2, .int .i64 f1, .int .i64 f2, .int .i64 c1, .int .i64 c2, .string s, .string h, .string q, .string m] 25) ∧ wr.row (w.heap.size + 1) = some (.cells #[.int .i64 k0, .int .i64 k1, .int .i64 k2, .int .i64 k3, .string n, .string wd, .slice tp tl tc, .int .i64 a, .int .i64 b, .int .i64 c, .int .i64 d, .int .i64 bt, .string bs, .int .i64 b1, .int .i64 b2, .int .i64 b3, .int .i64 b4, .bool on] 30) ∧ wr.row g = some (.cells #[.bool p', .int .i64 w1', .int .i64 w2', .int .i64 h1', .int .i64 h2', .int .i64 f1', .int .i64 f2', .int .i64 c1', .int .i64 c2', .string s', .string h', .string q', .string m'] 25)) (fun i _ => 9 - (intOf i).toNat)
      case atStart => exact ⟨0, by omega, rfl, (by repeat (with_reducible first | assumption | exact World.grows.refl | apply World.grows.plus | apply World.grows.alloc | apply World.grows.drew | (refine World.grows.setRow' ?_ (by omega) _) | (refine World.grows.setCell' ?_ (by omega) _ _))), (by simp [go_sem, *]), (by simp [go_sem, *]), (by simp [go_sem, *])⟩
      case round =>
        clear hA hB hF y1 y2 y3 hg
        obtain ⟨k, hk, rfl, hg, hA, hB, hF⟩ := hrel
        have y1 := row_sz' hA; have y2 := row_sz' hB; have y3 := row_sz' hF
        by_cases hlt : k < 9
        · have hidx := idx_all k hlt
          have hN : allN.getD k ByteArray.empty ∈ allN := by
            rw [List.getD_eq_getElem?_getD, List.getElem?_eq_getElem (by simpa [allN] using hlt)]; exact List.getElem_mem _
          generalize allN.getD k ByteArray.empty = N at *
          have q1 := HF1.out N hN; have q2 := HF2.out N hN; have q3 := HAP.out N hN
          have a1 := fun w => VA.out N w; have a2 := fun w => VB.out N w; have a3 := fun w => WA.out N w; have a4 := fun w => WB.out N w
          generalize V N = VN at *
          generalize V' N = VN' at *
          generalize D N = DN at *
          generalize D' N = DN' at *
          generalize numB N = nb at *
          obtain ⟨⟨r1, r2⟩, t1⟩ := VN
          obtain ⟨⟨s1, s2⟩, t2⟩ := VN'
          obtain ⟨x1', u1⟩ := DN
          obtain ⟨x2', u2⟩ := DN'
          simp only at q1 q2 q3 a1 a2 a3 a4
          obtain ⟨rfl, rfl⟩ := q1
          obtain ⟨rfl, rfl⟩ := q2
          clear hN
          obtain rfl := HKD.out
          · clear HKD HWG HWD HAP HF1 HF2 VA VB WA WB
            by_cases i1 : N.toList = [99, 111, 108, 111, 114]
            · have j1 : (N.toList == [99, 111, 108, 111, 114]) = true := by simpa using i1
              clear i1
              clear q3
              have A1 := Lib.hid a1; have A2 := Lib.hid a2; have A3 := Lib.hid a3; have A4 := Lib.hid a4; clear a1 a2 a3 a4
              first | cases t2 | cases t1
              all_goals
                go_wp2_with (first | (go_at_call 8; (with_reducible refine (A1.out _).mono ?_); rintro e w1 ⟨rfl, x1, rfl⟩) | (go_at_call 8; (with_reducible refine (A2.out _).mono ?_); rintro e w1 ⟨rfl, x1, rfl⟩) | (go_at_call 9; (with_reducible refine (A3.out _).mono ?_); rintro e w1 ⟨rfl, x1, rfl⟩) | (go_at_call 9; (with_reducible refine (A4.out _).mono ?_); rintro e w1 ⟨rfl, x1, rfl⟩))
                go_roundw
                case rel => exact ⟨k + 1, by omega, by go_num, (by repeat (with_reducible first | assumption | exact World.grows.refl | apply World.grows.plus | apply World.grows.alloc | apply World.grows.drew | (refine World.grows.setRow' ?_ (by omega) _) | (refine World.grows.setCell' ?_ (by omega) _ _))), (by simp [go_sem, *]), (by simp [go_sem, *]), (by simp [go_sem, *])⟩
                case measure => simp [intOf]; omega
            have j1 : (N.toList == [99, 111, 108, 111, 114]) = false := by simpa using i1
            clear i1
            have hq := q3 (by unfold ownB; simp [j1])
            obtain ⟨hq1, rfl⟩ := hq
            obtain ⟨rfl, rfl⟩ := Prod.mk.inj hq1
            clear q3
            have A1 := Lib.hid a1; have A2 := Lib.hid a2; have A3 := Lib.hid a3; have A4 := Lib.hid a4; clear a1 a2 a3 a4
            first | cases t2 | cases t1
            all_goals
              go_wp2_with (first | (go_at_call 8; (with_reducible refine (A1.out _).mono ?_); rintro e w1 ⟨rfl, x1, rfl⟩) | (go_at_call 8; (with_reducible refine (A2.out _).mono ?_); rintro e w1 ⟨rfl, x1, rfl⟩) | (go_at_call 9; (with_reducible refine (A3.out _).mono ?_); rintro e w1 ⟨rfl, x1, rfl⟩) | (go_at_call 9; (with_reducible refine (A4.out _).mono ?_); rintro e w1 ⟨rfl, x1, rfl⟩))
              go_roundw
              case rel => exact ⟨k + 1, by omega, by go_num, (by repeat (with_reducible first | assumption | exact World.grows.refl | apply World.grows.plus | apply World.grows.alloc | apply World.grows.drew | (refine World.grows.setRow' ?_ (by omega) _) | (refine World.grows.setCell' ?_ (by omega) _ _))), (by simp [go_sem, *]), (by simp [go_sem, *]), (by simp [go_sem, *])⟩
              case measure => simp [intOf]; omega
        · obtain rfl : k = 9 := by omega
          obtain rfl := HKD.out
          · clear HKD HWG HWD HAP HF1 HF2 VA VB WA WB
            go_wp2_with fail
            go_ret
            exact ⟨rfl, (by repeat (with_reducible first | assumption | exact World.grows.refl | apply World.grows.plus | apply World.grows.alloc | apply World.grows.drew | (refine World.grows.setRow' ?_ (by omega) _) | (refine World.grows.setCell' ?_ (by omega) _ _)))⟩

set_option maxRecDepth 100000 in
set_option maxHeartbeats 8000000 in
theorem envApart14_any (e : En) (o : Od) (w : World) (ty : TypeId) (fr : Nat × Nat) (he : e.Wf) (ho : o.Wf) (hall : w.row 0 = some (.cells #[.string ⟨#[119, 105, 100, 116, 104]⟩, .string ⟨#[104, 101, 105, 103, 104, 116]⟩, .string ⟨#[97, 115, 112, 101, 99, 116, 45, 114, 97, 116, 105, 111]⟩, .string ⟨#[99, 111, 108, 111, 114]⟩, .string ⟨#[104, 111, 118, 101, 114]⟩, .string ⟨#[111, 114, 105, 101, 110, 116, 97, 116, 105, 111, 110]⟩, .string ⟨#[112, 111, 105, 110, 116, 101, 114]⟩, .string ⟨#[112, 114, 101, 102, 101, 114, 115, 45, 99, 111, 108, 111, 114, 45, 115, 99, 104, 101, 109, 101]⟩, .string ⟨#[112, 114, 101, 102, 101, 114, 115, 45, 114, 101, 100, 117, 99, 101, 100, 45, 109, 111, 116, 105, 111, 110]⟩] ty fr)) (hm : e.may = true) (hk : o.five.ok = true) (hkd : o.five.k0 = 14) : Calls Tryd.prog 3 #[e.v, o.v] w (Gives w (.bool true)) := by
  have fv := fun w => five_any o w
  have cv := fun w => change_any e o.five w he (Od.five_wf ho)
  have m1 := fun w => envMay_any e w he
  have z0 := row_sz' hall
  · skip
    have hc := chg_ok hm hk
    have hfm := upd_may hm hk
    have hwf := upd_wf he (Od.five_wf ho)
    simp only [chgV, hc.1, hc.2] at cv
    rw [hm] at m1
    have hfl1 := flags hm
    have hfl2 := flags hfm
    have hap := apart_all hm hfm hk (five_kind o)
    have hwg := fun h4 => word_given hfm h4 hk
    have m2 := fun w => envMay_any (e.upd o.five) w hwf
    rw [hfm] at m2
    have va := fun n w => envVal_any e n w he
    have vb := fun n w => envVal_any (e.upd o.five) n w hwf
    have wa := fun n w => word_any e n w he
    have wb := fun n w => word_any (e.upd o.five) n w hwf
    have hwd : o.five.k0 = 2 → (e.upd o.five).val nmW = ((o.five.a, o.five.b), true) ∧ (e.upd o.five).val nmH = ((o.five.c, o.five.d), true) := fun h2 => by
      rw [val_nmW hfm, val_nmH hfm]; unfold En.upd; rw [if_pos h2]; exact ⟨rfl, rfl⟩
    generalize e.val = V at *
    generalize (e.upd o.five).val = V' at *
    generalize e.word = D at *
    generalize (e.upd o.five).word = D' at *
    generalize e.upd o.five = F at *
    generalize o.five = O at *
    obtain ⟨k0, k1, k2, k3, n, wd, tp, tl, tc, a, b, c, d, bt, bs, b1, b2, b3, b4, on⟩ := O
    obtain ⟨p, w1, w2, h1, h2, f1, f2, c1, c2, s, h, q, m⟩ := e
    obtain ⟨p', w1', w2', h1', h2', f1', f2', c1', c2', s', h', q', m'⟩ := F
    obtain ⟨o0, o1, o2, o3, on', owd, otp, otl, otc, oa, ob, oc, od, obt, obs, ob1, ob2, ob3, ob4, oon⟩ := o
    simp only at hwd hkd hwg
    have FV := Lib.hid fv; have CV := Lib.hid cv; have M1 := Lib.hid m1; have M2 := Lib.hid m2; have VA := Lib.hid va; have VB := Lib.hid vb; have WA := Lib.hid wa; have WB := Lib.hid wb
    have HF1 := Lib.hid hfl1; have HF2 := Lib.hid hfl2; have HAP := Lib.hid hap; have HWG := Lib.hid hwg; have HWD := Lib.hid hwd; have HKD := Lib.hid hkd
    clear fv cv m1 m2 va vb wa wb hfl1 hfl2 hap hwg hwd hkd hm hk hc hfm hwf he ho
    go_enter Tryd.func3, Tryd.ntmps3
    go_upto_region 7 with (first | (go_at_call 4; (with_reducible refine (FV.out _).mono ?_); rintro e w1 ⟨rfl, x1, rfl⟩) | (go_at_call 5; (with_reducible refine (CV.out _).mono ?_); rintro e w1 ⟨rfl, x1, rfl⟩) | (go_at_call 6; (with_reducible refine (awake_any _).mono ?_); rintro e w1 ⟨rfl, x1, rfl⟩) | (go_at_call 7; (with_reducible refine (M1.out _).mono ?_); rintro e w1 ⟨rfl, x1, rfl⟩) | (go_at_call 7; (with_reducible refine (M2.out _).mono ?_); rintro e w1 ⟨rfl, x1, rfl⟩))
    go_cut [5, 63, 64] (fun s5 s63 s64 wx => ∃ g : Nat, s5 = .pointer (some ⟨g, 0, none⟩) ∧ s63 = .agg #[.string ⟨#[119, 105, 100, 116, 104]⟩, .string ⟨#[104, 101, 105, 103, 104, 116]⟩, .string ⟨#[97, 115, 112, 101, 99, 116, 45, 114, 97, 116, 105, 111]⟩, .string ⟨#[99, 111, 108, 111, 114]⟩, .string ⟨#[104, 111, 118, 101, 114]⟩, .string ⟨#[111, 114, 105, 101, 110, 116, 97, 116, 105, 111, 110]⟩, .string ⟨#[112, 111, 105, 110, 116, 101, 114]⟩, .string ⟨#[112, 114, 101, 102, 101, 114, 115, 45, 99, 111, 108, 111, 114, 45, 115, 99, 104, 101, 109, 101]⟩, .string ⟨#[112, 114, 101, 102, 101, 114, 115, 45, 114, 101, 100, 117, 99, 101, 100, 45, 109, 111, 116, 105, 111, 110]⟩] ∧ s64 = .int .i64 0 ∧ w.grows wx ∧ wx.row 0 = some (.cells #[.string ⟨#[119, 105, 100, 116, 104]⟩, .string ⟨#[104, 101, 105, 103, 104, 116]⟩, .string ⟨#[97, 115, 112, 101, 99, 116, 45, 114, 97, 116, 105, 111]⟩, .string ⟨#[99, 111, 108, 111, 114]⟩, .string ⟨#[104, 111, 118, 101, 114]⟩, .string ⟨#[111, 114, 105, 101, 110, 116, 97, 116, 105, 111, 110]⟩, .string ⟨#[112, 111, 105, 110, 116, 101, 114]⟩, .string ⟨#[112, 114, 101, 102, 101, 114, 115, 45, 99, 111, 108, 111, 114, 45, 115, 99, 104, 101, 109, 101]⟩, .string ⟨#[112, 114, 101, 102, 101, 114, 115, 45, 114, 101, 100, 117, 99, 101, 100, 45, 109, 111, 116, 105, 111, 110]⟩] ty fr) ∧ wx.row w.heap.size = some (.cells #[.bool p, .int .i64 w1, .int .i64 w2, .int .i64 h1, .int .i64 h2, .int .i64 f1, .int .i64 f2, .int .i64 c1, .int .i64 c2, .string s, .string h, .string q, .string m] 25) ∧ wx.row (w.heap.size + 1) = some (.cells #[.int .i64 k0, .int .i64 k1, .int .i64 k2, .int .i64 k3, .string n, .string wd, .slice tp tl tc, .int .i64 a, .int .i64 b, .int .i64 c, .int .i64 d, .int .i64 bt, .string bs, .int .i64 b1, .int .i64 b2, .int .i64 b3, .int .i64 b4, .bool on] 30) ∧ wx.row g = some (.cells #[.bool p', .int .i64 w1', .int .i64 w2', .int .i64 h1', .int .i64 h2', .int .i64 f1', .int .i64 f2', .int .i64 c1', .int .i64 c2', .string s', .string h', .string q', .string m'] 25))
    case first =>
      go_wp2_with (first | (go_at_call 4; (with_reducible refine (FV.out _).mono ?_); rintro e w1 ⟨rfl, x1, rfl⟩) | (go_at_call 5; (with_reducible refine (CV.out _).mono ?_); rintro e w1 ⟨rfl, x1, rfl⟩) | (go_at_call 6; (with_reducible refine (awake_any _).mono ?_); rintro e w1 ⟨rfl, x1, rfl⟩) | (go_at_call 7; (with_reducible refine (M1.out _).mono ?_); rintro e w1 ⟨rfl, x1, rfl⟩) | (go_at_call 7; (with_reducible refine (M2.out _).mono ?_); rintro e w1 ⟨rfl, x1, rfl⟩))
      go_meet
      refine ⟨_, rfl, rfl, rfl, (by repeat (with_reducible first | assumption | exact World.grows.refl | apply World.grows.plus | apply World.grows.alloc | apply World.grows.drew | (refine World.grows.setRow' ?_ (by omega) _) | (refine World.grows.setCell' ?_ (by omega) _ _))), (by simp [go_sem, *]), (by simp [go_sem, *]), (by simp [go_sem, *]), (by simp [go_sem, *])⟩
    case rest =>
      obtain ⟨g, rfl, rfl, rfl, hg, h00, hA, hB, hF⟩ := hcut
      have y0 := row_sz' h00; have y1 := row_sz' hA; have y2 := row_sz' hB; have y3 := row_sz' hF
      go_wp2_with fail
      clear h00 y0
      go_loopw [64] (fun i wr => ∃ k : Nat, k ≤ 9 ∧ i = .int .i64 k ∧ w.grows wr ∧ wr.row w.heap.size = some (.cells #[.bool p, .int .i64 w1, .int .i64 w2, .int .i64 h1, .int .i64 h2, .int .i64 f1, .int .i64 f2, .int .i64 c1, .int .i64 c2, .string s, .string h, .string q, .string m] 25) ∧ wr.row (w.heap.size + 1) = some (.cells #[.int .i64 k0, .int .i64 k1, .int .i64 k2, .int .i64 k3, .string n, .string wd, .slice tp tl tc, .int .i64 a, .int .i64 b, .int .i64 c, .int .i64 d, .int .i64 bt, .string bs, .int .i64 b1, .int .i64 b2, .int .i64 b3, .int .i64 b4, .bool on] 30) ∧ wr.row g = some (.cells #[.bool p', .int .i64 w1', .int .i64 w2', .int .i64 h1', .int .i64 h2', .int .i64 f1', .int .i64 f2', .int .i64 c1', .int .i64 c2', .string s', .string h', .string q', .string m'] 25)) (fun i _ => 9 - (intOf i).toNat)
      case atStart => exact ⟨0, by omega, rfl, (by repeat (with_reducible first | assumption | exact World.grows.refl | apply World.grows.plus | apply World.grows.alloc | apply World.grows.drew | (refine World.grows.setRow' ?_ (by omega) _) | (refine World.grows.setCell' ?_ (by omega) _ _))), (by simp [go_sem, *]), (by simp [go_sem, *]), (by simp [go_sem, *])⟩
      case round =>
        clear hA hB hF y1 y2 y3 hg
        obtain ⟨k, hk, rfl, hg, hA, hB, hF⟩ := hrel
        have y1 := row_sz' hA; have y2 := row_sz' hB; have y3 := row_sz' hF
        by_cases hlt : k < 9
        · have hidx := idx_all k hlt
          have hN : allN.getD k ByteArray.empty ∈ allN := by
            rw [List.getD_eq_getElem?_getD, List.getElem?_eq_getElem (by simpa [allN] using hlt)]; exact List.getElem_mem _
          generalize allN.getD k ByteArray.empty = N at *
          have q1 := HF1.out N hN; have q2 := HF2.out N hN; have q3 := HAP.out N hN
          have a1 := fun w => VA.out N w; have a2 := fun w => VB.out N w; have a3 := fun w => WA.out N w; have a4 := fun w => WB.out N w
          generalize V N = VN at *
          generalize V' N = VN' at *
          generalize D N = DN at *
          generalize D' N = DN' at *
          generalize numB N = nb at *
          obtain ⟨⟨r1, r2⟩, t1⟩ := VN
          obtain ⟨⟨s1, s2⟩, t2⟩ := VN'
          obtain ⟨x1', u1⟩ := DN
          obtain ⟨x2', u2⟩ := DN'
          simp only at q1 q2 q3 a1 a2 a3 a4
          obtain ⟨rfl, rfl⟩ := q1
          obtain ⟨rfl, rfl⟩ := q2
          clear hN
          obtain rfl := HKD.out
          · clear HKD HWG HWD HAP HF1 HF2 VA VB WA WB
            have hq := q3 (by unfold ownB; simp [])
            obtain ⟨hq1, rfl⟩ := hq
            obtain ⟨rfl, rfl⟩ := Prod.mk.inj hq1
            clear q3
            have A1 := Lib.hid a1; have A2 := Lib.hid a2; have A3 := Lib.hid a3; have A4 := Lib.hid a4; clear a1 a2 a3 a4
            first | cases t2 | cases t1
            all_goals
              go_wp2_with (first | (go_at_call 8; (with_reducible refine (A1.out _).mono ?_); rintro e w1 ⟨rfl, x1, rfl⟩) | (go_at_call 8; (with_reducible refine (A2.out _).mono ?_); rintro e w1 ⟨rfl, x1, rfl⟩) | (go_at_call 9; (with_reducible refine (A3.out _).mono ?_); rintro e w1 ⟨rfl, x1, rfl⟩) | (go_at_call 9; (with_reducible refine (A4.out _).mono ?_); rintro e w1 ⟨rfl, x1, rfl⟩))
              go_roundw
              case rel => exact ⟨k + 1, by omega, by go_num, (by repeat (with_reducible first | assumption | exact World.grows.refl | apply World.grows.plus | apply World.grows.alloc | apply World.grows.drew | (refine World.grows.setRow' ?_ (by omega) _) | (refine World.grows.setCell' ?_ (by omega) _ _))), (by simp [go_sem, *]), (by simp [go_sem, *]), (by simp [go_sem, *])⟩
              case measure => simp [intOf]; omega
        · obtain rfl : k = 9 := by omega
          obtain rfl := HKD.out
          · clear HKD HWG HWD HAP HF1 HF2 VA VB WA WB
            go_wp2_with fail
            go_ret
            exact ⟨rfl, (by repeat (with_reducible first | assumption | exact World.grows.refl | apply World.grows.plus | apply World.grows.alloc | apply World.grows.drew | (refine World.grows.setRow' ?_ (by omega) _) | (refine World.grows.setCell' ?_ (by omega) _ _)))⟩

set_option maxRecDepth 100000 in
set_option maxHeartbeats 8000000 in
theorem envApart4_any (e : En) (o : Od) (w : World) (ty : TypeId) (fr : Nat × Nat) (he : e.Wf) (ho : o.Wf) (hall : w.row 0 = some (.cells #[.string ⟨#[119, 105, 100, 116, 104]⟩, .string ⟨#[104, 101, 105, 103, 104, 116]⟩, .string ⟨#[97, 115, 112, 101, 99, 116, 45, 114, 97, 116, 105, 111]⟩, .string ⟨#[99, 111, 108, 111, 114]⟩, .string ⟨#[104, 111, 118, 101, 114]⟩, .string ⟨#[111, 114, 105, 101, 110, 116, 97, 116, 105, 111, 110]⟩, .string ⟨#[112, 111, 105, 110, 116, 101, 114]⟩, .string ⟨#[112, 114, 101, 102, 101, 114, 115, 45, 99, 111, 108, 111, 114, 45, 115, 99, 104, 101, 109, 101]⟩, .string ⟨#[112, 114, 101, 102, 101, 114, 115, 45, 114, 101, 100, 117, 99, 101, 100, 45, 109, 111, 116, 105, 111, 110]⟩] ty fr)) (hm : e.may = true) (hk : o.five.ok = true) (hkd : o.five.k0 = 4) : Calls Tryd.prog 3 #[e.v, o.v] w (Gives w (.bool true)) := by
  have fv := fun w => five_any o w
  have cv := fun w => change_any e o.five w he (Od.five_wf ho)
  have m1 := fun w => envMay_any e w he
  have z0 := row_sz' hall
  · skip
    have hc := chg_ok hm hk
    have hfm := upd_may hm hk
    have hwf := upd_wf he (Od.five_wf ho)
    simp only [chgV, hc.1, hc.2] at cv
    rw [hm] at m1
    have hfl1 := flags hm
    have hfl2 := flags hfm
    have hap := apart_all hm hfm hk (five_kind o)
    have hwg := fun h4 => word_given hfm h4 hk
    have m2 := fun w => envMay_any (e.upd o.five) w hwf
    rw [hfm] at m2
    have va := fun n w => envVal_any e n w he
    have vb := fun n w => envVal_any (e.upd o.five) n w hwf
    have wa := fun n w => word_any e n w he
    have wb := fun n w => word_any (e.upd o.five) n w hwf
    have hwd : o.five.k0 = 2 → (e.upd o.five).val nmW = ((o.five.a, o.five.b), true) ∧ (e.upd o.five).val nmH = ((o.five.c, o.five.d), true) := fun h2 => by
      rw [val_nmW hfm, val_nmH hfm]; unfold En.upd; rw [if_pos h2]; exact ⟨rfl, rfl⟩
    generalize e.val = V at *
    generalize (e.upd o.five).val = V' at *
    generalize e.word = D at *
    generalize (e.upd o.five).word = D' at *
    generalize e.upd o.five = F at *
    generalize o.five = O at *
    obtain ⟨k0, k1, k2, k3, n, wd, tp, tl, tc, a, b, c, d, bt, bs, b1, b2, b3, b4, on⟩ := O
    obtain ⟨p, w1, w2, h1, h2, f1, f2, c1, c2, s, h, q, m⟩ := e
    obtain ⟨p', w1', w2', h1', h2', f1', f2', c1', c2', s', h', q', m'⟩ := F
    obtain ⟨o0, o1, o2, o3, on', owd, otp, otl, otc, oa, ob, oc, od, obt, obs, ob1, ob2, ob3, ob4, oon⟩ := o
    simp only at hwd hkd hwg
    have FV := Lib.hid fv; have CV := Lib.hid cv; have M1 := Lib.hid m1; have M2 := Lib.hid m2; have VA := Lib.hid va; have VB := Lib.hid vb; have WA := Lib.hid wa; have WB := Lib.hid wb
    have HF1 := Lib.hid hfl1; have HF2 := Lib.hid hfl2; have HAP := Lib.hid hap; have HWG := Lib.hid hwg; have HWD := Lib.hid hwd; have HKD := Lib.hid hkd
    clear fv cv m1 m2 va vb wa wb hfl1 hfl2 hap hwg hwd hkd hm hk hc hfm hwf he ho
    go_enter Tryd.func3, Tryd.ntmps3
    go_upto_region 7 with (first | (go_at_call 4; (with_reducible refine (FV.out _).mono ?_); rintro e w1 ⟨rfl, x1, rfl⟩) | (go_at_call 5; (with_reducible refine (CV.out _).mono ?_); rintro e w1 ⟨rfl, x1, rfl⟩) | (go_at_call 6; (with_reducible refine (awake_any _).mono ?_); rintro e w1 ⟨rfl, x1, rfl⟩) | (go_at_call 7; (with_reducible refine (M1.out _).mono ?_); rintro e w1 ⟨rfl, x1, rfl⟩) | (go_at_call 7; (with_reducible refine (M2.out _).mono ?_); rintro e w1 ⟨rfl, x1, rfl⟩))
    go_cut [5, 63, 64] (fun s5 s63 s64 wx => ∃ g : Nat, s5 = .pointer (some ⟨g, 0, none⟩) ∧ s63 = .agg #[.string ⟨#[119, 105, 100, 116, 104]⟩, .string ⟨#[104, 101, 105, 103, 104, 116]⟩, .string ⟨#[97, 115, 112, 101, 99, 116, 45, 114, 97, 116, 105, 111]⟩, .string ⟨#[99, 111, 108, 111, 114]⟩, .string ⟨#[104, 111, 118, 101, 114]⟩, .string ⟨#[111, 114, 105, 101, 110, 116, 97, 116, 105, 111, 110]⟩, .string ⟨#[112, 111, 105, 110, 116, 101, 114]⟩, .string ⟨#[112, 114, 101, 102, 101, 114, 115, 45, 99, 111, 108, 111, 114, 45, 115, 99, 104, 101, 109, 101]⟩, .string ⟨#[112, 114, 101, 102, 101, 114, 115, 45, 114, 101, 100, 117, 99, 101, 100, 45, 109, 111, 116, 105, 111, 110]⟩] ∧ s64 = .int .i64 0 ∧ w.grows wx ∧ wx.row 0 = some (.cells #[.string ⟨#[119, 105, 100, 116, 104]⟩, .string ⟨#[104, 101, 105, 103, 104, 116]⟩, .string ⟨#[97, 115, 112, 101, 99, 116, 45, 114, 97, 116, 105, 111]⟩, .string ⟨#[99, 111, 108, 111, 114]⟩, .string ⟨#[104, 111, 118, 101, 114]⟩, .string ⟨#[111, 114, 105, 101, 110, 116, 97, 116, 105, 111, 110]⟩, .string ⟨#[112, 111, 105, 110, 116, 101, 114]⟩, .string ⟨#[112, 114, 101, 102, 101, 114, 115, 45, 99, 111, 108, 111, 114, 45, 115, 99, 104, 101, 109, 101]⟩, .string ⟨#[112, 114, 101, 102, 101, 114, 115, 45, 114, 101, 100, 117, 99, 101, 100, 45, 109, 111, 116, 105, 111, 110]⟩] ty fr) ∧ wx.row w.heap.size = some (.cells #[.bool p, .int .i64 w1, .int .i64 w2, .int .i64 h1, .int .i64 h2, .int .i64 f1, .int .i64 f2, .int .i64 c1, .int .i64 c2, .string s, .string h, .string q, .string m] 25) ∧ wx.row (w.heap.size + 1) = some (.cells #[.int .i64 k0, .int .i64 k1, .int .i64 k2, .int .i64 k3, .string n, .string wd, .slice tp tl tc, .int .i64 a, .int .i64 b, .int .i64 c, .int .i64 d, .int .i64 bt, .string bs, .int .i64 b1, .int .i64 b2, .int .i64 b3, .int .i64 b4, .bool on] 30) ∧ wx.row g = some (.cells #[.bool p', .int .i64 w1', .int .i64 w2', .int .i64 h1', .int .i64 h2', .int .i64 f1', .int .i64 f2', .int .i64 c1', .int .i64 c2', .string s', .string h', .string q', .string m'] 25))
    case first =>
      go_wp2_with (first | (go_at_call 4; (with_reducible refine (FV.out _).mono ?_); rintro e w1 ⟨rfl, x1, rfl⟩) | (go_at_call 5; (with_reducible refine (CV.out _).mono ?_); rintro e w1 ⟨rfl, x1, rfl⟩) | (go_at_call 6; (with_reducible refine (awake_any _).mono ?_); rintro e w1 ⟨rfl, x1, rfl⟩) | (go_at_call 7; (with_reducible refine (M1.out _).mono ?_); rintro e w1 ⟨rfl, x1, rfl⟩) | (go_at_call 7; (with_reducible refine (M2.out _).mono ?_); rintro e w1 ⟨rfl, x1, rfl⟩))
      go_meet
      refine ⟨_, rfl, rfl, rfl, (by repeat (with_reducible first | assumption | exact World.grows.refl | apply World.grows.plus | apply World.grows.alloc | apply World.grows.drew | (refine World.grows.setRow' ?_ (by omega) _) | (refine World.grows.setCell' ?_ (by omega) _ _))), (by simp [go_sem, *]), (by simp [go_sem, *]), (by simp [go_sem, *]), (by simp [go_sem, *])⟩
    case rest =>
      obtain ⟨g, rfl, rfl, rfl, hg, h00, hA, hB, hF⟩ := hcut
      have y0 := row_sz' h00; have y1 := row_sz' hA; have y2 := row_sz' hB; have y3 := row_sz' hF
      go_wp2_with fail
      clear h00 y0
      go_loopw [64] (fun i wr => ∃ k : Nat, k ≤ 9 ∧ i = .int .i64 k ∧ w.grows wr ∧ wr.row w.heap.size = some (.cells #[.bool p, .int .i64 w1, .int .i64 w2, .int .i64 h1, .int .i64 h2, .int .i64 f1, .int .i64 f2, .int .i64 c1, .int .i64 c2, .string s, .string h, .string q, .string m] 25) ∧ wr.row (w.heap.size + 1) = some (.cells #[.int .i64 k0, .int .i64 k1, .int .i64 k2, .int .i64 k3, .string n, .string wd, .slice tp tl tc, .int .i64 a, .int .i64 b, .int .i64 c, .int .i64 d, .int .i64 bt, .string bs, .int .i64 b1, .int .i64 b2, .int .i64 b3, .int .i64 b4, .bool on] 30) ∧ wr.row g = some (.cells #[.bool p', .int .i64 w1', .int .i64 w2', .int .i64 h1', .int .i64 h2', .int .i64 f1', .int .i64 f2', .int .i64 c1', .int .i64 c2', .string s', .string h', .string q', .string m'] 25)) (fun i _ => 9 - (intOf i).toNat)
      case atStart => exact ⟨0, by omega, rfl, (by repeat (with_reducible first | assumption | exact World.grows.refl | apply World.grows.plus | apply World.grows.alloc | apply World.grows.drew | (refine World.grows.setRow' ?_ (by omega) _) | (refine World.grows.setCell' ?_ (by omega) _ _))), (by simp [go_sem, *]), (by simp [go_sem, *]), (by simp [go_sem, *])⟩
      case round =>
        clear hA hB hF y1 y2 y3 hg
        obtain ⟨k, hk, rfl, hg, hA, hB, hF⟩ := hrel
        have y1 := row_sz' hA; have y2 := row_sz' hB; have y3 := row_sz' hF
        by_cases hlt : k < 9
        · have hidx := idx_all k hlt
          have hN : allN.getD k ByteArray.empty ∈ allN := by
            rw [List.getD_eq_getElem?_getD, List.getElem?_eq_getElem (by simpa [allN] using hlt)]; exact List.getElem_mem _
          generalize allN.getD k ByteArray.empty = N at *
          have q1 := HF1.out N hN; have q2 := HF2.out N hN; have q3 := HAP.out N hN
          have a1 := fun w => VA.out N w; have a2 := fun w => VB.out N w; have a3 := fun w => WA.out N w; have a4 := fun w => WB.out N w
          generalize V N = VN at *
          generalize V' N = VN' at *
          generalize D N = DN at *
          generalize D' N = DN' at *
          generalize numB N = nb at *
          obtain ⟨⟨r1, r2⟩, t1⟩ := VN
          obtain ⟨⟨s1, s2⟩, t2⟩ := VN'
          obtain ⟨x1', u1⟩ := DN
          obtain ⟨x2', u2⟩ := DN'
          simp only at q1 q2 q3 a1 a2 a3 a4
          obtain ⟨rfl, rfl⟩ := q1
          obtain ⟨rfl, rfl⟩ := q2
          clear hN
          obtain rfl := HKD.out
          · clear HKD HWG HWD HAP HF1 HF2 VA VB WA WB
            by_cases i1 : N.toList = n.toList
            · have j1 : (N.toList == n.toList) = true := by simpa using i1
              clear i1
              clear q3
              have A1 := Lib.hid a1; have A2 := Lib.hid a2; have A3 := Lib.hid a3; have A4 := Lib.hid a4; clear a1 a2 a3 a4
              first | cases t2 | cases t1
              all_goals
                go_wp2_with (first | (go_at_call 8; (with_reducible refine (A1.out _).mono ?_); rintro e w1 ⟨rfl, x1, rfl⟩) | (go_at_call 8; (with_reducible refine (A2.out _).mono ?_); rintro e w1 ⟨rfl, x1, rfl⟩) | (go_at_call 9; (with_reducible refine (A3.out _).mono ?_); rintro e w1 ⟨rfl, x1, rfl⟩) | (go_at_call 9; (with_reducible refine (A4.out _).mono ?_); rintro e w1 ⟨rfl, x1, rfl⟩))
                go_roundw
                case rel => exact ⟨k + 1, by omega, by go_num, (by repeat (with_reducible first | assumption | exact World.grows.refl | apply World.grows.plus | apply World.grows.alloc | apply World.grows.drew | (refine World.grows.setRow' ?_ (by omega) _) | (refine World.grows.setCell' ?_ (by omega) _ _))), (by simp [go_sem, *]), (by simp [go_sem, *]), (by simp [go_sem, *])⟩
                case measure => simp [intOf]; omega
            have j1 : (N.toList == n.toList) = false := by simpa using i1
            clear i1
            have hq := q3 (by unfold ownB; simp [j1])
            obtain ⟨hq1, rfl⟩ := hq
            obtain ⟨rfl, rfl⟩ := Prod.mk.inj hq1
            clear q3
            have A1 := Lib.hid a1; have A2 := Lib.hid a2; have A3 := Lib.hid a3; have A4 := Lib.hid a4; clear a1 a2 a3 a4
            first | cases t2 | cases t1
            all_goals
              go_wp2_with (first | (go_at_call 8; (with_reducible refine (A1.out _).mono ?_); rintro e w1 ⟨rfl, x1, rfl⟩) | (go_at_call 8; (with_reducible refine (A2.out _).mono ?_); rintro e w1 ⟨rfl, x1, rfl⟩) | (go_at_call 9; (with_reducible refine (A3.out _).mono ?_); rintro e w1 ⟨rfl, x1, rfl⟩) | (go_at_call 9; (with_reducible refine (A4.out _).mono ?_); rintro e w1 ⟨rfl, x1, rfl⟩))
              go_roundw
              case rel => exact ⟨k + 1, by omega, by go_num, (by repeat (with_reducible first | assumption | exact World.grows.refl | apply World.grows.plus | apply World.grows.alloc | apply World.grows.drew | (refine World.grows.setRow' ?_ (by omega) _) | (refine World.grows.setCell' ?_ (by omega) _ _))), (by simp [go_sem, *]), (by simp [go_sem, *]), (by simp [go_sem, *])⟩
              case measure => simp [intOf]; omega
        · obtain rfl : k = 9 := by omega
          obtain rfl := HKD.out
          · have g1 := fun w => WB.out n w
            rw [HWG.out rfl] at g1
            have A1 := Lib.hid g1; clear g1
            clear HKD HWG HWD HAP HF1 HF2 VA VB WA WB
            go_wp2_with (first | (go_at_call 9; (with_reducible refine (A1.out _).mono ?_); rintro e w1 ⟨rfl, x1, rfl⟩))
            go_ret
            exact ⟨rfl, (by repeat (with_reducible first | assumption | exact World.grows.refl | apply World.grows.plus | apply World.grows.alloc | apply World.grows.drew | (refine World.grows.setRow' ?_ (by omega) _) | (refine World.grows.setCell' ?_ (by omega) _ _)))⟩

set_option maxRecDepth 100000 in
set_option maxHeartbeats 8000000 in
theorem envApartLaw_any (e : En) (o : Od) (w : World) (ty : TypeId) (fr : Nat × Nat) (he : e.Wf) (ho : o.Wf) (hall : w.row 0 = some (.cells #[.string ⟨#[119, 105, 100, 116, 104]⟩, .string ⟨#[104, 101, 105, 103, 104, 116]⟩, .string ⟨#[97, 115, 112, 101, 99, 116, 45, 114, 97, 116, 105, 111]⟩, .string ⟨#[99, 111, 108, 111, 114]⟩, .string ⟨#[104, 111, 118, 101, 114]⟩, .string ⟨#[111, 114, 105, 101, 110, 116, 97, 116, 105, 111, 110]⟩, .string ⟨#[112, 111, 105, 110, 116, 101, 114]⟩, .string ⟨#[112, 114, 101, 102, 101, 114, 115, 45, 99, 111, 108, 111, 114, 45, 115, 99, 104, 101, 109, 101]⟩, .string ⟨#[112, 114, 101, 102, 101, 114, 115, 45, 114, 101, 100, 117, 99, 101, 100, 45, 109, 111, 116, 105, 111, 110]⟩] ty fr)) : Calls Tryd.prog 3 #[e.v, o.v] w (Gives w (.bool true)) := by
  have fv := fun w => five_any o w
  have cv := fun w => change_any e o.five w he (Od.five_wf ho)
  have m1 := fun w => envMay_any e w he
  have z0 := row_sz' hall
  by_cases hok : e.may = true ∧ o.five.ok = true
  · obtain ⟨hm, hk⟩ := hok
    rcases five_kind o with h | h | h | h | h
    · exact envApart2_any e o w ty fr he ho hall hm hk h
    · exact envApart3_any e o w ty fr he ho hall hm hk h
    · exact envApart13_any e o w ty fr he ho hall hm hk h
    · exact envApart14_any e o w ty fr he ho hall hm hk h
    · exact envApart4_any e o w ty fr he ho hall hm hk h
  · have hno := chg_no (e := e) (o := o.five) (by cases hm : e.may <;> cases hk : o.five.ok <;> simp_all)
    simp only [chgV, hno.1] at cv
    have hx := hno.2
    generalize chgW e o.five.why (o.five.res e) = X at *
    have hb : (X != 0) = true := by simpa using hx
    have hb2 : (X == 0) = false := by simpa using hx
    generalize o.five = O at *
    obtain ⟨k0, k1, k2, k3, n, wd, tp, tl, tc, a, b, c, d, bt, bs, b1, b2, b3, b4, on⟩ := O
    obtain ⟨p, w1, w2, h1, h2, f1, f2, c1, c2, s, h, q, m⟩ := e
    obtain ⟨o0, o1, o2, o3, on', owd, otp, otl, otc, oa, ob, oc, od, obt, obs, ob1, ob2, ob3, ob4, oon⟩ := o
    simp only [En.zero] at cv
    have FV := Lib.hid fv; have CV := Lib.hid cv; clear fv cv hno hx hok he ho m1 hall z0
    go_enter Tryd.func3, Tryd.ntmps3
    go_wp2_with (first | (go_at_call 4; (with_reducible refine (FV.out _).mono ?_); rintro e w1 ⟨rfl, x1, rfl⟩) | (go_at_call 5; (with_reducible refine (CV.out _).mono ?_); rintro e w1 ⟨rfl, x1, rfl⟩) | (go_at_call 6; (with_reducible refine (awake_any _).mono ?_); rintro e w1 ⟨rfl, x1, rfl⟩))
    go_ret
    exact ⟨rfl, (by repeat (first | exact World.grows.refl | apply World.grows.plus | apply World.grows.alloc | apply World.grows.drew))⟩

end Go.Proofs.YtkmpnkgelaaebaaDoor

/- WALKS over jalousieref1, jalousieref3: a number of one digit. No condition but the class of characters. -/
import Derived.Test.YthcaphoejplecaaGreatDoorTk3
import Derived.Laws.Rows
set_option linter.unusedSimpArgs false
set_option linter.unusedVariables false
namespace Go
open Go.RowKit
section
variable {P : Program} {fn : Func} {a : Act} {w : World} {R : Ending → World → Prop}
theorem ret_cell_tmp2 {p q r : Tmp} {t : TypeId} {n g : Nat} {d : TypeDesc} (h : fn.results = #[.cell p t, .tmp q, .tmp r]) (hp : a.tmps.getD p undef = .pointer (some ⟨g, 0, none⟩)) (hu : P.underlying t = some d)
    (hd : (match d with | .struct _ | .array _ _ => true | _ => false) = true) (hi : (P.info? t).map (·.size) = some n) (hrow : rowOk n (w.row g) = true) (hdf : a.defers = [])
    (hR : R (.returned (.tuple #[rowV (w.row g), a.tmps.getD q undef, a.tmps.getD r undef])) w) : bodyPost P fn R .ret a w := by
  refine bodyPost_ret ?_ hdf hR
  have hp' : a.tmps[p]?.getD undef = .pointer (some ⟨g, 0, none⟩) := by simpa using hp
  simp [results, h, hp', asAddr, run_loadVar_rowV hu hd hi hrow]
end
end Go
namespace Go.Proofs.YthcaphoejplecaaGreatDoor
open Go.RowKit
set_option maxRecDepth 100000 in
set_option maxHeartbeats 4000000 in
theorem xdigits_any {w0 w : World} {g : Nat} {a : Option Addr} {cap : Nat} {L : List Int} {i : Nat} (h : Rd w0 w g a cap L i) (h1 : digC (chAt L i) = true) (h2 : digC (chAt L (i + 1)) = false) :
    Calls Tryz.prog 110 #[.pointer (some ⟨g, 0, none⟩)] w (fun e w' => e = .returned (.tuple #[]) ∧ On1 w g a cap L.length (i + 1) w') := by
  have hi : i + 1 ≤ L.length := by
    by_cases hh : L.length ≤ i
    · rw [chAt_end hh] at h1; exact absurd h1 (by decide)
    · omega
  have hlen := h.len
  have hok1 := chAt_ok h.ok i
  have hok2 := chAt_ok h.ok (i + 1)
  have hlo1 : -1 ≤ chAt L i ∧ chAt L i < 128 := by unfold EndC OkC at hok1; omega
  have hlo2 : -1 ≤ chAt L (i + 1) ∧ chAt L (i + 1) < 128 := by unfold EndC OkC at hok2; omega
  have HB1 := Lib.hid (fun (W : World) => xdigit_any (chAt L i) hlo1.1 hlo1.2 W)
  have HB2 := Lib.hid (fun (W : World) => xdigit_any (chAt L (i + 1)) hlo2.1 hlo2.2 W)
  rw [h1] at HB1
  rw [h2] at HB2
  have HRD := Lib.hid h
  clear h hok1 hok2 hlo1 hlo2 h1 h2
  go_enter Tryz.func110, Tryz.ntmps110
  go_wp2_with fail
  go_loopg [2] 1 (fun gn v2 wj => ∃ j : Nat, Hid (gn + j = 1) ∧ On1 w g a cap L.length (i + j) wj)
  case atStart => exact ⟨0, Lib.hid (by omega), HRD.out.here (by repeat (with_reducible first | assumption | exact grA | apply grB | apply grC | apply grD | refine grE ?_ (by omega) _ | refine grF ?_ (by omega) _ _))⟩
  case round =>
    obtain ⟨j, HQ, hon⟩ := hrel
    have hj := HQ.out
    have hrd := HRD.out.on hon (by omega)
    have H0 := Lib.hid (fun (W : World) (hg : wr.grows W) => xat0 (hrd.grows hg))
    have x0 := hrd.row
    have zx0 := row_sz' x0
    have HW := Lib.hid hrd
    clear hrd
    by_cases h0 : j = 0
    · subst h0
      rw [Nat.add_zero] at H0
      have iw : IntKind.i64.wrap ((i : Int) + 1) = (i : Int) + 1 := by rw [IntKind.wrap_i64]; omega
      rw [Nat.add_zero] at x0
      go_wp2_with (first | (go_at_call 61; (with_reducible refine (H0.out _ (by repeat (with_reducible first | assumption | exact grA | apply grB | apply grC | apply grD | refine grE ?_ (by omega) _ | refine grF ?_ (by omega) _ _))).mono ?_); rintro e w1 ⟨rfl, x1, rfl⟩) | (go_at_call 109; (with_reducible refine (HB1.out _).mono ?_); rintro e w1 ⟨rfl, x1, rfl⟩))
      go_roundg 0
      case measure => omega
      case rel =>
        refine ⟨1, Lib.hid (by omega), hon.trans ?_⟩
        exact On1.more (W := wr.setCell ⟨g, 1, none⟩ (.int .i64 ((i : Int) + 1))) (on_step (grownBy_of_grows World.grows.refl _) x0 _ _ (by omega)) (by repeat (with_reducible first | assumption | exact grA | apply grB | apply grC | apply grD | refine grE ?_ (by omega) _ | refine grF ?_ (by omega) _ _))
    · obtain rfl : j = 1 := by omega
      go_wp2_with (first | (go_at_call 61; (with_reducible refine (H0.out _ (by repeat (with_reducible first | assumption | exact grA | apply grB | apply grC | apply grD | refine grE ?_ (by omega) _ | refine grF ?_ (by omega) _ _))).mono ?_); rintro e w1 ⟨rfl, x1, rfl⟩) | (go_at_call 109; (with_reducible refine (HB2.out _).mono ?_); rintro e w1 ⟨rfl, x1, rfl⟩))
      refine bodyPost_end (results_none rfl _ _ _) rfl ⟨rfl, hon.trans (HW.out.here (by repeat (with_reducible first | assumption | exact grA | apply grB | apply grC | apply grD | refine grE ?_ (by omega) _ | refine grF ?_ (by omega) _ _)))⟩
theorem ydig49 (w : World) : Calls Tryz.prog 122 #[.int .u8 49] w (Gives w (.bool true)) := by
  go_enter Tryz.func122, Tryz.ntmps122
  go_wp2_with fail
  go_ret
  exact ⟨rfl, (by repeat (with_reducible first | assumption | exact grA | apply grB | apply grC | apply grD | refine grE ?_ (by omega) _ | refine grF ?_ (by omega) _ _))⟩
theorem ydig53 (w : World) : Calls Tryz.prog 122 #[.int .u8 53] w (Gives w (.bool true)) := by
  go_enter Tryz.func122, Tryz.ntmps122
  go_wp2_with fail
  go_ret
  exact ⟨rfl, (by repeat (with_reducible first | assumption | exact grA | apply grB | apply grC | apply grD | refine grE ?_ (by omega) _ | refine grF ?_ (by omega) _ _))⟩
set_option maxRecDepth 100000 in
theorem yrun49 (w : World) : Calls Tryz.prog 117 #[.string ⟨#[49]⟩, .int .i64 0] w (Gives w (.int .i64 1)) := by
  have g0 : ∀ h, ((({ data := #[49] } : ByteArray)[0]'h).toNat) = 49 := fun h => rfl
  go_enter Tryz.func117, Tryz.ntmps117
  go_wp2_with fail
  go_loopg [1] 1 (fun gn v1 wj => ∃ j : Nat, Hid (gn + j = 1) ∧ v1 = .int .i64 j ∧ w.grows wj)
  case atStart => exact ⟨0, Lib.hid (by omega), by go_num, (by repeat (with_reducible first | assumption | exact grA | apply grB | apply grC | apply grD | refine grE ?_ (by omega) _ | refine grF ?_ (by omega) _ _))⟩
  case round =>
    obtain ⟨j, HQ, rfl, hgj⟩ := hrel
    have hj := HQ.out
    by_cases h0 : j = 0
    · subst h0
      go_wp2_with ((go_at_call 122; (with_reducible refine (ydig49 _).mono ?_); rintro e w1 ⟨rfl, x1, rfl⟩))
      go_roundg 0
      case measure => omega
      case rel => exact ⟨1, Lib.hid (by omega), by go_num, hgj.trans (by repeat (with_reducible first | assumption | exact grA | apply grB | apply grC | apply grD | refine grE ?_ (by omega) _ | refine grF ?_ (by omega) _ _))⟩
    · obtain rfl : j = 1 := by omega
      go_wp2_with fail
      go_ret
      exact ⟨rfl, hgj.trans (by repeat (with_reducible first | assumption | exact grA | apply grB | apply grC | apply grD | refine grE ?_ (by omega) _ | refine grF ?_ (by omega) _ _))⟩
set_option maxRecDepth 100000 in
theorem yrun53 (w : World) : Calls Tryz.prog 117 #[.string ⟨#[53]⟩, .int .i64 0] w (Gives w (.int .i64 1)) := by
  have g0 : ∀ h, ((({ data := #[53] } : ByteArray)[0]'h).toNat) = 53 := fun h => rfl
  go_enter Tryz.func117, Tryz.ntmps117
  go_wp2_with fail
  go_loopg [1] 1 (fun gn v1 wj => ∃ j : Nat, Hid (gn + j = 1) ∧ v1 = .int .i64 j ∧ w.grows wj)
  case atStart => exact ⟨0, Lib.hid (by omega), by go_num, (by repeat (with_reducible first | assumption | exact grA | apply grB | apply grC | apply grD | refine grE ?_ (by omega) _ | refine grF ?_ (by omega) _ _))⟩
  case round =>
    obtain ⟨j, HQ, rfl, hgj⟩ := hrel
    have hj := HQ.out
    by_cases h0 : j = 0
    · subst h0
      go_wp2_with ((go_at_call 122; (with_reducible refine (ydig53 _).mono ?_); rintro e w1 ⟨rfl, x1, rfl⟩))
      go_roundg 0
      case measure => omega
      case rel => exact ⟨1, Lib.hid (by omega), by go_num, hgj.trans (by repeat (with_reducible first | assumption | exact grA | apply grB | apply grC | apply grD | refine grE ?_ (by omega) _ | refine grF ?_ (by omega) _ _))⟩
    · obtain rfl : j = 1 := by omega
      go_wp2_with fail
      go_ret
      exact ⟨rfl, hgj.trans (by repeat (with_reducible first | assumption | exact grA | apply grB | apply grC | apply grD | refine grE ?_ (by omega) _ | refine grF ?_ (by omega) _ _))⟩
set_option maxRecDepth 100000 in
set_option maxHeartbeats 4000000 in
theorem yval49 (w : World) : Calls Tryz.prog 119 #[.bool false, .string ⟨#[49]⟩, .int .i64 0] w (Gives w (.agg #[.int .i64 1, .int .i64 1])) := by
  have g0 : ∀ h, ((({ data := #[49] } : ByteArray)[0]'h).toNat) = 49 := fun h => rfl
  go_enter Tryz.func119, Tryz.ntmps119
  go_upto_region 1 with fail
  refine abs_rows (w := w) (G := fun W => Code.wp _ _ _ _ W) (by repeat (with_reducible first | assumption | exact grA | apply grB | apply grC | apply grD | refine grE ?_ (by omega) _ | refine grF ?_ (by omega) _ _)) [(w.heap.size, .cells #[.int .i64 0, .int .i64 0] 63)] (by simp [go_sem, *]) ?_
  intro w2 gw2 hl
  simp only [List.forall_mem_cons, List.not_mem_nil, false_implies, implies_true, and_true] at hl
  have x9 := hl
  have zx9 := row_sz' x9
  have hs9 := zx9.1
  generalize hb : w.heap.size = b at *
  go_wp2_with fail
  go_loopg [7] 0 (fun gn v7 wj => v7 = .int .i64 0 ∧ w2.grows wj)
  case atStart => exact ⟨by go_num, (by repeat (with_reducible first | assumption | exact grA | apply grB | apply grC | apply grD | refine grE ?_ (by omega) _ | refine grF ?_ (by omega) _ _))⟩
  case round =>
    obtain ⟨rfl, hgA⟩ := hrel
    go_wp2_with fail
    go_loopg [2, 8] 0 (fun gn v2 v8 wj => v2 = .int .i64 0 ∧ v8 = .int .i64 1 ∧ w2.grows wj)
    case atStart => exact ⟨by go_num, by go_num, hgA.trans (by repeat (with_reducible first | assumption | exact grA | apply grB | apply grC | apply grD | refine grE ?_ (by omega) _ | refine grF ?_ (by omega) _ _))⟩
    case round =>
      obtain ⟨rfl, rfl, hgB⟩ := hrel
      obtain ⟨cB, nB, WB, zs, hcv, hgW, hsW, hrow, hn⟩ := conv_row (P := Tryz.prog) (u := .string) wr 9 57 5 ⟨#[49]⟩ (by kernel_rfl) (by kernel_rfl) (by kernel_rfl)
      have gx : ({ data := #[49] } : ByteArray).extract 0 1 = { data := #[49] } := rfl
      have gz : ({ data := #[49] } : ByteArray).size = 1 := rfl
      have c0 : cellR 0 (WB.row wr.heap.size) = some (.int .u8 49) := by rw [hrow]; rfl
      have zC : wr.heap.size < WB.heap.size := by omega
      have hgC := hgB.trans hgW
      generalize wr.heap.size = gB at *
      go_wp2_with fail
      go_loopg [9, 52] 1 (fun gn v9 v52 wj => ∃ j : Nat, Hid (gn + j = 1) ∧ v9 = .int .u64 (if j = 0 then 0 else 1) ∧ v52 = .int .i64 j ∧ WB.grows wj)
      case atStart => exact ⟨0, Lib.hid (by omega), by rfl, by go_num, (by repeat (with_reducible first | assumption | exact grA | apply grB | apply grC | apply grD | refine grE ?_ (by omega) _ | refine grF ?_ (by omega) _ _))⟩
      case round =>
        obtain ⟨j, HQ, rfl, rfl, hgj⟩ := hrel
        have hj := HQ.out
        by_cases h0 : j = 0
        · subst h0
          have c1 : cellR 0 (wr.row gB) = some (.int .u8 49) := by rw [hgj.row_eq zC]; exact c0
          have zC1 : gB < wr.heap.size := Nat.lt_of_lt_of_le zC hgj.below.size
          go_wp2_with fail
          go_roundg 0
          case measure => omega
          case rel => exact ⟨1, Lib.hid (by omega), by rfl, by go_num, hgj.trans (by repeat (with_reducible first | assumption | exact grA | apply grB | apply grC | apply grD | refine grE ?_ (by omega) _ | refine grF ?_ (by omega) _ _))⟩
        · obtain rfl : j = 1 := by omega
          have x91 := ((hgC.trans hgj).row_eq zx9.1).trans x9
          have zx91 := row_sz' x91
          have hgD := hgC.trans hgj
          go_wp2_with fail
          go_loopg [2, 9] 0 (fun gn v2 v9 wj => v2 = .int .i64 0 ∧ v9 = .int .u64 1 ∧ w2.grows wj)
          case atStart => exact ⟨by go_num, by rfl, hgD.trans (by repeat (with_reducible first | assumption | exact grA | apply grB | apply grC | apply grD | refine grE ?_ (by omega) _ | refine grF ?_ (by omega) _ _))⟩
          case round =>
            obtain ⟨rfl, rfl, hgE⟩ := hrel
            go_wp2_with fail
            go_loopg [9, 13] 0 (fun gn v9 v13 wj => v9 = .int .u64 1 ∧ v13 = .int .i64 0 ∧ w2.grows wj)
            case atStart => exact ⟨by rfl, by go_num, hgE.trans (by repeat (with_reducible first | assumption | exact grA | apply grB | apply grC | apply grD | refine grE ?_ (by omega) _ | refine grF ?_ (by omega) _ _))⟩
            case round =>
              obtain ⟨rfl, rfl, hgF⟩ := hrel
              go_wp2_with fail
              go_loopg [9, 14] 0 (fun gn v9 v14 wj => v9 = .int .u64 1 ∧ v14 = .int .i64 0 ∧ w2.grows wj)
              case atStart => exact ⟨by rfl, by go_num, hgF.trans (by repeat (with_reducible first | assumption | exact grA | apply grB | apply grC | apply grD | refine grE ?_ (by omega) _ | refine grF ?_ (by omega) _ _))⟩
              case round =>
                obtain ⟨rfl, rfl, hgG⟩ := hrel
                go_wp2_with fail
                go_loopg [12, 13] 0 (fun gn v12 v13 wj => v12 = .int .u64 1 ∧ v13 = .int .i64 0 ∧ w2.grows wj)
                case atStart => exact ⟨by rfl, by go_num, hgG.trans (by repeat (with_reducible first | assumption | exact grA | apply grB | apply grC | apply grD | refine grE ?_ (by omega) _ | refine grF ?_ (by omega) _ _))⟩
                case round =>
                  obtain ⟨rfl, rfl, hgH⟩ := hrel
                  go_wp2_with fail
                  go_loopg [12, 14] 0 (fun gn v12 v14 wj => v12 = .int .u64 1 ∧ v14 = .int .i64 0 ∧ w2.grows wj)
                  case atStart => exact ⟨by rfl, by go_num, hgH.trans (by repeat (with_reducible first | assumption | exact grA | apply grB | apply grC | apply grD | refine grE ?_ (by omega) _ | refine grF ?_ (by omega) _ _))⟩
                  case round =>
                    obtain ⟨rfl, rfl, hgI⟩ := hrel
                    have x92 := (hgI.row_eq zx9.1).trans x9
                    have zx92 := row_sz' x92
                    have hb2 : w.heap.size ≤ b := Nat.le_of_eq hb
                    have hgw := gw2.trans hgI
                    go_wp2_with fail
                    have hrow2 : ((wr.setCell ⟨b, 0, none⟩ (.int .i64 1)).setCell ⟨b, 1, none⟩ (.int .i64 1)).row b = some (.cells #[.int .i64 1, .int .i64 1] 63) := by
                      rw [World.row_setCell, if_pos rfl, World.row_setCell, if_pos rfl, x92]; rfl
                    exact bodyPost_ret (results_cell_row rfl _ _ b 63 _ (0, 0) _ rfl hrow2 Tryz.underlying63 rfl (by kernel_rfl)) rfl ⟨rfl, (by repeat (with_reducible first | assumption | exact grA | apply grB | apply grC | apply grD | refine grE ?_ (by omega) _ | refine grF ?_ (by omega) _ _))⟩
set_option maxRecDepth 100000 in
set_option maxHeartbeats 4000000 in
theorem yval53 (w : World) : Calls Tryz.prog 119 #[.bool false, .string ⟨#[53]⟩, .int .i64 0] w (Gives w (.agg #[.int .i64 5, .int .i64 1])) := by
  have g0 : ∀ h, ((({ data := #[53] } : ByteArray)[0]'h).toNat) = 53 := fun h => rfl
  go_enter Tryz.func119, Tryz.ntmps119
  go_upto_region 1 with fail
  refine abs_rows (w := w) (G := fun W => Code.wp _ _ _ _ W) (by repeat (with_reducible first | assumption | exact grA | apply grB | apply grC | apply grD | refine grE ?_ (by omega) _ | refine grF ?_ (by omega) _ _)) [(w.heap.size, .cells #[.int .i64 0, .int .i64 0] 63)] (by simp [go_sem, *]) ?_
  intro w2 gw2 hl
  simp only [List.forall_mem_cons, List.not_mem_nil, false_implies, implies_true, and_true] at hl
  have x9 := hl
  have zx9 := row_sz' x9
  have hs9 := zx9.1
  generalize hb : w.heap.size = b at *
  go_wp2_with fail
  go_loopg [7] 0 (fun gn v7 wj => v7 = .int .i64 0 ∧ w2.grows wj)
  case atStart => exact ⟨by go_num, (by repeat (with_reducible first | assumption | exact grA | apply grB | apply grC | apply grD | refine grE ?_ (by omega) _ | refine grF ?_ (by omega) _ _))⟩
  case round =>
    obtain ⟨rfl, hgA⟩ := hrel
    go_wp2_with fail
    go_loopg [2, 8] 0 (fun gn v2 v8 wj => v2 = .int .i64 0 ∧ v8 = .int .i64 1 ∧ w2.grows wj)
    case atStart => exact ⟨by go_num, by go_num, hgA.trans (by repeat (with_reducible first | assumption | exact grA | apply grB | apply grC | apply grD | refine grE ?_ (by omega) _ | refine grF ?_ (by omega) _ _))⟩
    case round =>
      obtain ⟨rfl, rfl, hgB⟩ := hrel
      obtain ⟨cB, nB, WB, zs, hcv, hgW, hsW, hrow, hn⟩ := conv_row (P := Tryz.prog) (u := .string) wr 9 57 5 ⟨#[53]⟩ (by kernel_rfl) (by kernel_rfl) (by kernel_rfl)
      have gx : ({ data := #[53] } : ByteArray).extract 0 1 = { data := #[53] } := rfl
      have gz : ({ data := #[53] } : ByteArray).size = 1 := rfl
      have c0 : cellR 0 (WB.row wr.heap.size) = some (.int .u8 53) := by rw [hrow]; rfl
      have zC : wr.heap.size < WB.heap.size := by omega
      have hgC := hgB.trans hgW
      generalize wr.heap.size = gB at *
      go_wp2_with fail
      go_loopg [9, 52] 1 (fun gn v9 v52 wj => ∃ j : Nat, Hid (gn + j = 1) ∧ v9 = .int .u64 (if j = 0 then 0 else 5) ∧ v52 = .int .i64 j ∧ WB.grows wj)
      case atStart => exact ⟨0, Lib.hid (by omega), by rfl, by go_num, (by repeat (with_reducible first | assumption | exact grA | apply grB | apply grC | apply grD | refine grE ?_ (by omega) _ | refine grF ?_ (by omega) _ _))⟩
      case round =>
        obtain ⟨j, HQ, rfl, rfl, hgj⟩ := hrel
        have hj := HQ.out
        by_cases h0 : j = 0
        · subst h0
          have c1 : cellR 0 (wr.row gB) = some (.int .u8 53) := by rw [hgj.row_eq zC]; exact c0
          have zC1 : gB < wr.heap.size := Nat.lt_of_lt_of_le zC hgj.below.size
          go_wp2_with fail
          go_roundg 0
          case measure => omega
          case rel => exact ⟨1, Lib.hid (by omega), by rfl, by go_num, hgj.trans (by repeat (with_reducible first | assumption | exact grA | apply grB | apply grC | apply grD | refine grE ?_ (by omega) _ | refine grF ?_ (by omega) _ _))⟩
        · obtain rfl : j = 1 := by omega
          have x91 := ((hgC.trans hgj).row_eq zx9.1).trans x9
          have zx91 := row_sz' x91
          have hgD := hgC.trans hgj
          go_wp2_with fail
          go_loopg [2, 9] 0 (fun gn v2 v9 wj => v2 = .int .i64 0 ∧ v9 = .int .u64 5 ∧ w2.grows wj)
          case atStart => exact ⟨by go_num, by rfl, hgD.trans (by repeat (with_reducible first | assumption | exact grA | apply grB | apply grC | apply grD | refine grE ?_ (by omega) _ | refine grF ?_ (by omega) _ _))⟩
          case round =>
            obtain ⟨rfl, rfl, hgE⟩ := hrel
            go_wp2_with fail
            go_loopg [9, 13] 0 (fun gn v9 v13 wj => v9 = .int .u64 5 ∧ v13 = .int .i64 0 ∧ w2.grows wj)
            case atStart => exact ⟨by rfl, by go_num, hgE.trans (by repeat (with_reducible first | assumption | exact grA | apply grB | apply grC | apply grD | refine grE ?_ (by omega) _ | refine grF ?_ (by omega) _ _))⟩
            case round =>
              obtain ⟨rfl, rfl, hgF⟩ := hrel
              go_wp2_with fail
              go_loopg [9, 14] 0 (fun gn v9 v14 wj => v9 = .int .u64 5 ∧ v14 = .int .i64 0 ∧ w2.grows wj)
              case atStart => exact ⟨by rfl, by go_num, hgF.trans (by repeat (with_reducible first | assumption | exact grA | apply grB | apply grC | apply grD | refine grE ?_ (by omega) _ | refine grF ?_ (by omega) _ _))⟩
              case round =>
                obtain ⟨rfl, rfl, hgG⟩ := hrel
                go_wp2_with fail
                go_loopg [12, 13] 0 (fun gn v12 v13 wj => v12 = .int .u64 1 ∧ v13 = .int .i64 0 ∧ w2.grows wj)
                case atStart => exact ⟨by rfl, by go_num, hgG.trans (by repeat (with_reducible first | assumption | exact grA | apply grB | apply grC | apply grD | refine grE ?_ (by omega) _ | refine grF ?_ (by omega) _ _))⟩
                case round =>
                  obtain ⟨rfl, rfl, hgH⟩ := hrel
                  go_wp2_with fail
                  go_loopg [12, 14] 0 (fun gn v12 v14 wj => v12 = .int .u64 1 ∧ v14 = .int .i64 0 ∧ w2.grows wj)
                  case atStart => exact ⟨by rfl, by go_num, hgH.trans (by repeat (with_reducible first | assumption | exact grA | apply grB | apply grC | apply grD | refine grE ?_ (by omega) _ | refine grF ?_ (by omega) _ _))⟩
                  case round =>
                    obtain ⟨rfl, rfl, hgI⟩ := hrel
                    have x92 := (hgI.row_eq zx9.1).trans x9
                    have zx92 := row_sz' x92
                    have hb2 : w.heap.size ≤ b := Nat.le_of_eq hb
                    have hgw := gw2.trans hgI
                    go_wp2_with fail
                    have hrow2 : ((wr.setCell ⟨b, 0, none⟩ (.int .i64 5)).setCell ⟨b, 1, none⟩ (.int .i64 1)).row b = some (.cells #[.int .i64 5, .int .i64 1] 63) := by
                      rw [World.row_setCell, if_pos rfl, World.row_setCell, if_pos rfl, x92]; rfl
                    exact bodyPost_ret (results_cell_row rfl _ _ b 63 _ (0, 0) _ rfl hrow2 Tryz.underlying63 rfl (by kernel_rfl)) rfl ⟨rfl, (by repeat (with_reducible first | assumption | exact grA | apply grB | apply grC | apply grD | refine grE ?_ (by omega) _ | refine grF ?_ (by omega) _ _))⟩
set_option maxRecDepth 100000 in
set_option maxHeartbeats 4000000 in
theorem ydec49 (w : World) : Calls Tryz.prog 111 #[.string ⟨#[49]⟩] w (Gives w (.tuple #[.agg #[.int .i64 1, .int .i64 1], .bool true, .int .i64 0])) := by
  have gx : ({ data := #[49] } : ByteArray).extract 0 1 = { data := #[49] } := rfl
  have gz : ({ data := #[49] } : ByteArray).size = 1 := rfl
  have g0 : ∀ h, ((({ data := #[49] } : ByteArray)[0]'h).toNat) = 49 := fun h => rfl
  go_enter Tryz.func111, Tryz.ntmps111
  go_upto_region 1 with fail
  refine abs_rows (w := w) (G := fun W => Code.wp _ _ _ _ W) (by repeat (with_reducible first | assumption | exact grA | apply grB | apply grC | apply grD | refine grE ?_ (by omega) _ | refine grF ?_ (by omega) _ _)) [(w.heap.size, .cells #[.int .i64 0, .int .i64 0] 63)] (by simp [go_sem, *]) ?_
  intro w2 gw2 hl
  simp only [List.forall_mem_cons, List.not_mem_nil, false_implies, implies_true, and_true] at hl
  have x9 := hl
  have zx9 := row_sz' x9
  have hb2 : w.heap.size ≤ w.heap.size := Nat.le_refl _
  go_wp2_with (first | (go_at_call 117; (with_reducible refine (yrun49 _).mono ?_); rintro e w1 ⟨rfl, x1, rfl⟩) | (go_at_call 119; (with_reducible refine (yval49 _).mono ?_); rintro e w1 ⟨rfl, x1, rfl⟩))
  refine ret_cell_tmp2 (n := 2) rfl rfl Tryz.underlying63 rfl (by kernel_rfl) (by simp [go_sem, x9, zx9]) rfl ⟨by simp [go_sem, x9, zx9], ?_⟩
  exact (by repeat (with_reducible first | assumption | exact grA | apply grB | apply grC | apply grD | refine grE ?_ (by omega) _ | refine grF ?_ (by omega) _ _))
set_option maxRecDepth 100000 in
set_option maxHeartbeats 4000000 in
theorem ydec53 (w : World) : Calls Tryz.prog 111 #[.string ⟨#[53]⟩] w (Gives w (.tuple #[.agg #[.int .i64 5, .int .i64 1], .bool true, .int .i64 0])) := by
  have gx : ({ data := #[53] } : ByteArray).extract 0 1 = { data := #[53] } := rfl
  have gz : ({ data := #[53] } : ByteArray).size = 1 := rfl
  have g0 : ∀ h, ((({ data := #[53] } : ByteArray)[0]'h).toNat) = 53 := fun h => rfl
  go_enter Tryz.func111, Tryz.ntmps111
  go_upto_region 1 with fail
  refine abs_rows (w := w) (G := fun W => Code.wp _ _ _ _ W) (by repeat (with_reducible first | assumption | exact grA | apply grB | apply grC | apply grD | refine grE ?_ (by omega) _ | refine grF ?_ (by omega) _ _)) [(w.heap.size, .cells #[.int .i64 0, .int .i64 0] 63)] (by simp [go_sem, *]) ?_
  intro w2 gw2 hl
  simp only [List.forall_mem_cons, List.not_mem_nil, false_implies, implies_true, and_true] at hl
  have x9 := hl
  have zx9 := row_sz' x9
  have hb2 : w.heap.size ≤ w.heap.size := Nat.le_refl _
  go_wp2_with (first | (go_at_call 117; (with_reducible refine (yrun53 _).mono ?_); rintro e w1 ⟨rfl, x1, rfl⟩) | (go_at_call 119; (with_reducible refine (yval53 _).mono ?_); rintro e w1 ⟨rfl, x1, rfl⟩))
  refine ret_cell_tmp2 (n := 2) rfl rfl Tryz.underlying63 rfl (by kernel_rfl) (by simp [go_sem, x9, zx9]) rfl ⟨by simp [go_sem, x9, zx9], ?_⟩
  exact (by repeat (with_reducible first | assumption | exact grA | apply grB | apply grC | apply grD | refine grE ?_ (by omega) _ | refine grF ?_ (by omega) _ _))
end Go.Proofs.YthcaphoejplecaaGreatDoor

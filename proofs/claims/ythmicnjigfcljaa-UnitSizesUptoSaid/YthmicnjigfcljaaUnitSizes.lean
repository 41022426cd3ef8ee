/- For every unit, context and mask the statement UnitSizes answers true: the units' sizes and names are as the document says (bound: the values are no more than 1048576 in number). -/
import Derived.Test.YthmicnjigfcljaaRows
import Derived.Test.YthmicnjigfcljaaNames
import Derived.Test.YthmicnjigfcljaaUPx
import Derived.Test.YthmicnjigfcljaaOpenX
import Derived.JoinedCond
set_option linter.unusedSimpArgs false
set_option linter.unusedVariables false
namespace Go
open Go.RowKit
theorem namesN_pre (x : Int) (m : Nat) : ∀ d, ∃ t, namesN x (m + d) = namesN x m ++ t
  | 0 => ⟨[], by simp⟩
  | d + 1 => by
    obtain ⟨t, ht⟩ := namesN_pre x m d
    cases hb : tB x (m + d + 1)
    · exact ⟨t, by rw [← Nat.add_assoc, namesN_no hb, ht]⟩
    · exact ⟨t ++ [unitN.getD (m + d) ByteArray.empty], by rw [← Nat.add_assoc, namesN_yes hb, ht, List.append_assoc]⟩
theorem namesN_at {x : Int} {i : Nat} (hi : i < 7) (hb : tB x (i + 1) = true) : (namesN x i).length < (namesN x 7).length ∧ (namesN x 7)[(namesN x i).length]? = some (unitN.getD i ByteArray.empty) := by
  obtain ⟨t, ht⟩ := namesN_pre x (i + 1) (7 - (i + 1))
  rw [show i + 1 + (7 - (i + 1)) = 7 by omega, namesN_yes hb] at ht
  rw [ht]
  refine ⟨by simp, ?_⟩
  rw [List.append_assoc, List.getElem?_append_right (Nat.le_refl _), Nat.sub_self]; rfl
end Go
namespace Go.Proofs.Ythmicnjigfcljaa
open Go.ChangeShapes Go.WideShapes Go.ChangeAt Go.RowKit

@[go_sem high] theorem index_n1 (w : World) : (Instr.index 90 (.agg #[.string ⟨#[]⟩, .string ⟨#[112, 120]⟩, .string ⟨#[101, 109]⟩, .string ⟨#[114, 101, 109]⟩, .string ⟨#[118, 119]⟩, .string ⟨#[118, 104]⟩, .string ⟨#[99, 113, 119]⟩, .string ⟨#[99, 113, 104]⟩]) (.int .i64 1)).run Try.prog w = .ok (.string ⟨#[112, 120]⟩) w := by
  have hc : (0 : Int) ≤ (1 : Int) ∧ (1 : Int) < ((8 : Nat) : Int) := by omega
  simp only [Instr.index, asIntOf, Sem.run_bind, Sem.run_pure, Result.andThen_ok, run_underlying Try.underlying90, if_pos hc]
  simp [go_sem, part]
@[go_sem high] theorem index_n2 (w : World) : (Instr.index 90 (.agg #[.string ⟨#[]⟩, .string ⟨#[112, 120]⟩, .string ⟨#[101, 109]⟩, .string ⟨#[114, 101, 109]⟩, .string ⟨#[118, 119]⟩, .string ⟨#[118, 104]⟩, .string ⟨#[99, 113, 119]⟩, .string ⟨#[99, 113, 104]⟩]) (.int .i64 2)).run Try.prog w = .ok (.string ⟨#[101, 109]⟩) w := by
  have hc : (0 : Int) ≤ (2 : Int) ∧ (2 : Int) < ((8 : Nat) : Int) := by omega
  simp only [Instr.index, asIntOf, Sem.run_bind, Sem.run_pure, Result.andThen_ok, run_underlying Try.underlying90, if_pos hc]
  simp [go_sem, part]
@[go_sem high] theorem index_n3 (w : World) : (Instr.index 90 (.agg #[.string ⟨#[]⟩, .string ⟨#[112, 120]⟩, .string ⟨#[101, 109]⟩, .string ⟨#[114, 101, 109]⟩, .string ⟨#[118, 119]⟩, .string ⟨#[118, 104]⟩, .string ⟨#[99, 113, 119]⟩, .string ⟨#[99, 113, 104]⟩]) (.int .i64 3)).run Try.prog w = .ok (.string ⟨#[114, 101, 109]⟩) w := by
  have hc : (0 : Int) ≤ (3 : Int) ∧ (3 : Int) < ((8 : Nat) : Int) := by omega
  simp only [Instr.index, asIntOf, Sem.run_bind, Sem.run_pure, Result.andThen_ok, run_underlying Try.underlying90, if_pos hc]
  simp [go_sem, part]
@[go_sem high] theorem index_n4 (w : World) : (Instr.index 90 (.agg #[.string ⟨#[]⟩, .string ⟨#[112, 120]⟩, .string ⟨#[101, 109]⟩, .string ⟨#[114, 101, 109]⟩, .string ⟨#[118, 119]⟩, .string ⟨#[118, 104]⟩, .string ⟨#[99, 113, 119]⟩, .string ⟨#[99, 113, 104]⟩]) (.int .i64 4)).run Try.prog w = .ok (.string ⟨#[118, 119]⟩) w := by
  have hc : (0 : Int) ≤ (4 : Int) ∧ (4 : Int) < ((8 : Nat) : Int) := by omega
  simp only [Instr.index, asIntOf, Sem.run_bind, Sem.run_pure, Result.andThen_ok, run_underlying Try.underlying90, if_pos hc]
  simp [go_sem, part]
@[go_sem high] theorem index_n5 (w : World) : (Instr.index 90 (.agg #[.string ⟨#[]⟩, .string ⟨#[112, 120]⟩, .string ⟨#[101, 109]⟩, .string ⟨#[114, 101, 109]⟩, .string ⟨#[118, 119]⟩, .string ⟨#[118, 104]⟩, .string ⟨#[99, 113, 119]⟩, .string ⟨#[99, 113, 104]⟩]) (.int .i64 5)).run Try.prog w = .ok (.string ⟨#[118, 104]⟩) w := by
  have hc : (0 : Int) ≤ (5 : Int) ∧ (5 : Int) < ((8 : Nat) : Int) := by omega
  simp only [Instr.index, asIntOf, Sem.run_bind, Sem.run_pure, Result.andThen_ok, run_underlying Try.underlying90, if_pos hc]
  simp [go_sem, part]
@[go_sem high] theorem index_n6 (w : World) : (Instr.index 90 (.agg #[.string ⟨#[]⟩, .string ⟨#[112, 120]⟩, .string ⟨#[101, 109]⟩, .string ⟨#[114, 101, 109]⟩, .string ⟨#[118, 119]⟩, .string ⟨#[118, 104]⟩, .string ⟨#[99, 113, 119]⟩, .string ⟨#[99, 113, 104]⟩]) (.int .i64 6)).run Try.prog w = .ok (.string ⟨#[99, 113, 119]⟩) w := by
  have hc : (0 : Int) ≤ (6 : Int) ∧ (6 : Int) < ((8 : Nat) : Int) := by omega
  simp only [Instr.index, asIntOf, Sem.run_bind, Sem.run_pure, Result.andThen_ok, run_underlying Try.underlying90, if_pos hc]
  simp [go_sem, part]
@[go_sem high] theorem index_n7 (w : World) : (Instr.index 90 (.agg #[.string ⟨#[]⟩, .string ⟨#[112, 120]⟩, .string ⟨#[101, 109]⟩, .string ⟨#[114, 101, 109]⟩, .string ⟨#[118, 119]⟩, .string ⟨#[118, 104]⟩, .string ⟨#[99, 113, 119]⟩, .string ⟨#[99, 113, 104]⟩]) (.int .i64 7)).run Try.prog w = .ok (.string ⟨#[99, 113, 104]⟩) w := by
  have hc : (0 : Int) ≤ (7 : Int) ∧ (7 : Int) < ((8 : Nat) : Int) := by omega
  simp only [Instr.index, asIntOf, Sem.run_bind, Sem.run_pure, Result.andThen_ok, run_underlying Try.underlying90, if_pos hc]
  simp [go_sem, part]

set_option maxRecDepth 100000 in
theorem name_1 (w : World) : Calls Try.prog 48 #[.int .i64 1] w (Gives w (.string ⟨#[112, 120]⟩)) := by
  go_enter Try.func48, Try.ntmps48
  go_wp2_with fail
  go_ret
  exact ⟨rfl, (by repeat (with_reducible first | assumption | exact World.grows.refl | apply World.grows.plus | apply World.grows.alloc | apply World.grows.drew | (refine World.grows.setRow' ?_ (by omega) _) | (refine World.grows.setCell' ?_ (by omega) _ _)))⟩

set_option maxRecDepth 100000 in
theorem name_2 (w : World) : Calls Try.prog 48 #[.int .i64 2] w (Gives w (.string ⟨#[101, 109]⟩)) := by
  go_enter Try.func48, Try.ntmps48
  go_wp2_with fail
  go_ret
  exact ⟨rfl, (by repeat (with_reducible first | assumption | exact World.grows.refl | apply World.grows.plus | apply World.grows.alloc | apply World.grows.drew | (refine World.grows.setRow' ?_ (by omega) _) | (refine World.grows.setCell' ?_ (by omega) _ _)))⟩

set_option maxRecDepth 100000 in
theorem name_3 (w : World) : Calls Try.prog 48 #[.int .i64 3] w (Gives w (.string ⟨#[114, 101, 109]⟩)) := by
  go_enter Try.func48, Try.ntmps48
  go_wp2_with fail
  go_ret
  exact ⟨rfl, (by repeat (with_reducible first | assumption | exact World.grows.refl | apply World.grows.plus | apply World.grows.alloc | apply World.grows.drew | (refine World.grows.setRow' ?_ (by omega) _) | (refine World.grows.setCell' ?_ (by omega) _ _)))⟩

set_option maxRecDepth 100000 in
theorem name_4 (w : World) : Calls Try.prog 48 #[.int .i64 4] w (Gives w (.string ⟨#[118, 119]⟩)) := by
  go_enter Try.func48, Try.ntmps48
  go_wp2_with fail
  go_ret
  exact ⟨rfl, (by repeat (with_reducible first | assumption | exact World.grows.refl | apply World.grows.plus | apply World.grows.alloc | apply World.grows.drew | (refine World.grows.setRow' ?_ (by omega) _) | (refine World.grows.setCell' ?_ (by omega) _ _)))⟩

set_option maxRecDepth 100000 in
theorem name_5 (w : World) : Calls Try.prog 48 #[.int .i64 5] w (Gives w (.string ⟨#[118, 104]⟩)) := by
  go_enter Try.func48, Try.ntmps48
  go_wp2_with fail
  go_ret
  exact ⟨rfl, (by repeat (with_reducible first | assumption | exact World.grows.refl | apply World.grows.plus | apply World.grows.alloc | apply World.grows.drew | (refine World.grows.setRow' ?_ (by omega) _) | (refine World.grows.setCell' ?_ (by omega) _ _)))⟩

set_option maxRecDepth 100000 in
theorem name_6 (w : World) : Calls Try.prog 48 #[.int .i64 6] w (Gives w (.string ⟨#[99, 113, 119]⟩)) := by
  go_enter Try.func48, Try.ntmps48
  go_wp2_with fail
  go_ret
  exact ⟨rfl, (by repeat (with_reducible first | assumption | exact World.grows.refl | apply World.grows.plus | apply World.grows.alloc | apply World.grows.drew | (refine World.grows.setRow' ?_ (by omega) _) | (refine World.grows.setCell' ?_ (by omega) _ _)))⟩

set_option maxRecDepth 100000 in
theorem name_7 (w : World) : Calls Try.prog 48 #[.int .i64 7] w (Gives w (.string ⟨#[99, 113, 104]⟩)) := by
  go_enter Try.func48, Try.ntmps48
  go_wp2_with fail
  go_ret
  exact ⟨rfl, (by repeat (with_reducible first | assumption | exact World.grows.refl | apply World.grows.plus | apply World.grows.alloc | apply World.grows.drew | (refine World.grows.setRow' ?_ (by omega) _) | (refine World.grows.setCell' ?_ (by omega) _ _)))⟩

theorem name_any (i : Nat) (hi : i < 7) (w : World) : Calls Try.prog 48 #[.int .i64 ((i : Int) + 1)] w (Gives w (.string (unitN.getD i ByteArray.empty))) := by
  rcases (by omega : i = 0 ∨ i = 1 ∨ i = 2 ∨ i = 3 ∨ i = 4 ∨ i = 5 ∨ i = 6) with rfl | rfl | rfl | rfl | rfl | rfl | rfl
  · exact name_1 w
  · exact name_2 w
  · exact name_3 w
  · exact name_4 w
  · exact name_5 w
  · exact name_6 w
  · exact name_7 w

set_option maxRecDepth 100000 in
set_option maxHeartbeats 8000000 in
theorem unitSizes_law (u : Int) (c : Cx) (x : Int) (w : World) (wu : I64 u) (hcb : c.bd) (wx : I64 x) :
    Calls Try.prog 14 #[.int .i64 u, .agg (cxL c).toArray, .int .i64 x] w (Gives w (.bool true)) := by
  have c1 := fun W => unitSize_any c u W hcb wu
  have c2 := fun W => refSize_any c u W hcb wu
  generalize sizeQ c u = R at *
  obtain ⟨R1, R2⟩ := R
  obtain ⟨⟨f1, f2⟩, ⟨r1, r2⟩, ⟨v1, v2⟩, ⟨h1, h2⟩, ⟨cc1, cc2⟩, ⟨d1, d2⟩⟩ := c
  change Calls Try.prog 14 #[_, .agg #[.int .i64 f1, .int .i64 f2, .int .i64 r1, .int .i64 r2, .int .i64 v1, .int .i64 v2, .int .i64 h1, .int .i64 h2, .int .i64 cc1, .int .i64 cc2, .int .i64 d1, .int .i64 d2], _] w _
  change ∀ W, Calls Try.prog 45 #[_, .agg #[.int .i64 f1, .int .i64 f2, .int .i64 r1, .int .i64 r2, .int .i64 v1, .int .i64 v2, .int .i64 h1, .int .i64 h2, .int .i64 cc1, .int .i64 cc2, .int .i64 d1, .int .i64 d2]] W _ at c1
  change ∀ W, Calls Try.prog 46 #[_, .agg #[.int .i64 f1, .int .i64 f2, .int .i64 r1, .int .i64 r2, .int .i64 v1, .int .i64 v2, .int .i64 h1, .int .i64 h2, .int .i64 cc1, .int .i64 cc2, .int .i64 d1, .int .i64 d2]] W _ at c2
  have c3 := fun W => names_any x W wx
  have C1 := Lib.hid c1; have C2 := Lib.hid c2; have C3 := Lib.hid c3
  clear c1 c2 c3 hcb
  go_enter Try.func14, Try.ntmps14
  go_wp2_with fail
  refine wp_region_plus_lit (by kernel_rfl) (by kernel_rfl) ?_
  repeat (go_big_quiet_step ((first | (go_at_call 45; (with_reducible exact Calls.plus_of (C1.out _))) | (go_at_call 46; (with_reducible exact Calls.plus_of (C2.out _))))))
  (refine wpQuiet_nil ?_; intro _ hw'; obtain ⟨xq, hw''⟩ := hw'; subst hw'')
  go_wp2_with (first | (go_at_call 47; (with_reducible refine (C3.out _).mono ?_); rintro e w1 ⟨v, rfl, hg1, ho⟩; have hgw1 : w.grows w1 := World.grows.trans (by repeat (with_reducible first | assumption | exact World.grows.refl | apply World.grows.plus | apply World.grows.alloc | apply World.grows.drew | (refine World.grows.setRow' ?_ (by omega) _) | (refine World.grows.setCell' ?_ (by omega) _ _))) hg1; obtain ⟨a, cp, rfl⟩ := own_slice ho; have HO := Lib.hid ho; clear ho hg1))
  have hlen7 := namesN_len x 7
  generalize hL : (namesN x 7).length = L at *
  go_loopg [8, 9] 7 (fun gn v8 v9 wj => ∃ i n : Nat, Hid (gn + i = 7) ∧ i ≤ 7 ∧ v9 = .int .i64 ((i : Int) + 1) ∧ v8 = .int .i64 n ∧ Hid (n = (namesN x i).length) ∧ w1.grows wj)
  case atStart => exact ⟨0, 0, rfl, by omega, rfl, rfl, rfl, (by repeat (with_reducible first | assumption | exact World.grows.refl | apply World.grows.plus | apply World.grows.alloc | apply World.grows.drew | (refine World.grows.setRow' ?_ (by omega) _) | (refine World.grows.setCell' ?_ (by omega) _ _)))⟩
  case round =>
    obtain ⟨i, n, HK, hi, rfl, rfl, HN, hg⟩ := hrel
    by_cases hi7 : i < 7
    · have hb := bits_shift x (k := i + 1) (by omega)
      have e2 : ((2 ^ (i + 1) : Nat) : Int) = (2 : Int) ^ (i + 1) := by simp
      rw [e2] at hb
      clear e2
      cases ht : tB x (i + 1)
      · have h2 := namesN_no ht
        rw [ht, if_neg (by simp)] at hb
        have H2 := Lib.hid h2
        clear h2 ht
        go_wp2_with fail
        go_roundg (7 - (i + 1))
        case rel => exact ⟨i + 1, n, Lib.hid (by omega), by omega, by go_num, rfl, Lib.hid (by rw [H2.out]; exact HN.out), (by repeat (with_reducible first | assumption | exact World.grows.refl | apply World.grows.plus | apply World.grows.alloc | apply World.grows.drew | (refine World.grows.setRow' ?_ (by omega) _) | (refine World.grows.setCell' ?_ (by omega) _ _)))⟩
        case measure => have := HK.out; omega
      · have h2 := namesN_yes ht
        rw [ht, if_pos rfl] at hb
        have hb0 : ¬ bits .and .i64 (x / (2 : Int) ^ (i + 1)) 1 = 0 := by rw [hb]; omega
        have hb1 : (bits .and .i64 (x / (2 : Int) ^ (i + 1)) 1 == 0) = false := by simpa using hb0
        obtain ⟨hlt, hat⟩ := namesN_at hi7 ht
        rw [hL, ← HN.out] at hlt
        rw [← HN.out] at hat
        have hnl : n + 1 = (namesN x (i + 1)).length := by rw [h2, List.length_append, HN.out]; rfl
        have hname := fun W => name_any i hi7 W
        generalize unitN.getD i ByteArray.empty = nm at *
        obtain ⟨_, ⟨h0, h3⟩ | ⟨gl, cap, cur, hv, hbB, hrow, hnc, hcap, hszc, htake⟩⟩ := HO.out
        · omega
        · have hv2 := hv
          injection hv2 with e1 e2 e3
          subst e1
          have hr1 : w1.row gl = some (.cells cur 9 (0, 0)) := hrow
          have hx := (hg.row_eq (row_lt hr1)).trans hr1
          have z1 := row_sz' hx
          have hc : cur[n]? = some (.string nm) := by
            have : ((namesN x 7).map Value.string)[n]? = some (.string nm) := by rw [List.getElem?_map, hat]; rfl
            rw [← htake, List.getElem?_take_of_lt (by omega)] at this
            simpa using this
          have hge : decide (L ≤ n) = false := by rw [decide_eq_false_iff_not]; omega
          have hge2 : ¬ (L : Int) ≤ (n : Int) := by omega
          have HNL := Lib.hid hnl; have NM := Lib.hid hname
          clear hb h2 ht hat hnl hname hv hrow hr1 htake HO hnc hszc e2 e3
          go_wp2_with fail
          refine wp_region_plus_seq (by kernel_rfl) (by kernel_rfl) (fun x0 => ?_)
          repeat (any_goals (first | (refine wpSeqL_free rfl ?_; first | (go_big_quiet_skip; refine wpQuiet_nil ?_) | (go_big_quiet_step (fail); refine wpQuiet_nil ?_) | (refine wpQuiet_step (fun K hK => ?_); go_simp; split <;> (refine hK _ ?_; clear hK K; refine wpQuiet_nil ?_))) | (refine wpSeqL_link rfl (fun K hK => ?_); go_simp; first | first | (refine hK _ _ (by show World.grows _ _; repeat (first | assumption | exact World.grows.refl | apply World.grows.plus | apply World.grows.alloc | apply World.grows.drew)) ?_; clear hK K) | (((first | (go_at_call 48; (with_reducible refine (NM.out _).mono ?_); rintro e w2 ⟨rfl, x2, rfl⟩))); refine ⟨_, rfl, hK _ _ (by show World.grows _ _; repeat (first | assumption | exact World.grows.refl | apply World.grows.plus | apply World.grows.alloc | apply World.grows.drew)) ?_⟩; clear hK K) | (split <;> (first | (refine hK _ _ (by show World.grows _ _; repeat (first | assumption | exact World.grows.refl | apply World.grows.plus | apply World.grows.alloc | apply World.grows.drew)) ?_; clear hK K) | (((first | (go_at_call 48; (with_reducible refine (NM.out _).mono ?_); rintro e w2 ⟨rfl, x2, rfl⟩))); refine ⟨_, rfl, hK _ _ (by show World.grows _ _; repeat (first | assumption | exact World.grows.refl | apply World.grows.plus | apply World.grows.alloc | apply World.grows.drew)) ?_⟩; clear hK K))))))
          all_goals (refine wpSeqL_end ?_)
          go_wp2_with fail
          go_roundg (7 - (i + 1))
          case rel => exact ⟨i + 1, n + 1, Lib.hid (by omega), by omega, by go_num, by go_num, HNL, (by repeat (with_reducible first | assumption | exact World.grows.refl | apply World.grows.plus | apply World.grows.alloc | apply World.grows.drew | (refine World.grows.setRow' ?_ (by omega) _) | (refine World.grows.setCell' ?_ (by omega) _ _)))⟩
          case measure => have := HK.out; omega
    · obtain rfl : i = 7 := by omega
      have hn : n = L := by rw [HN.out, hL]
      subst hn
      go_wp2_with (first | (go_at_call 41; (with_reducible refine (awake13_any _).mono ?_); rintro e w1 ⟨rfl, x1, rfl⟩))
      go_ret
      exact ⟨rfl, World.grows.trans hgw1 (by repeat (with_reducible first | assumption | exact World.grows.refl | apply World.grows.plus | apply World.grows.alloc | apply World.grows.drew | (refine World.grows.setRow' ?_ (by omega) _) | (refine World.grows.setCell' ?_ (by omega) _ _)))⟩

theorem unitSizes_own : ownKnob Try.prog.godebug = none := by kernel_rfl
theorem unitSizes_laidOut : laidOutB Try.prog = true := by kernel_rfl
set_option maxRecDepth 100000 in
set_option maxHeartbeats 2000000 in
theorem unitSizes_lifted (os : Os) (started : os.Started) (H : Type) (enc : TypeId × Value → H) (F : Stop.Interp) :
    ReturnsInHanded {} Try.checked os 14 .any ((Rows.OpenSpec.upto Rows.unitSizesSpec).pre6 enc Try.prog Try.f14 Rows.unitSizesUptoRow.domain false) (((Rows.OpenSpec.upto Rows.unitSizesSpec).at F).post enc Try.prog Try.f14 false true false false) := by
  refine returnsInHanded_of_cond (C := Try.checked) (s := Rows.OpenSpec.upto Rows.unitSizesSpec) (k := Rows.uptoSmall) rfl unitSizes_own started (by kernel_rfl) Try.func14
    (OpenSpec.witness (enc := enc) (C := Try.checked) (s := Rows.OpenSpec.upto Rows.unitSizesSpec) (k := Rows.uptoSmall) rfl false ⟨#[], #[.int .i64 0, .agg #[.int .i64 0, .int .i64 0, .int .i64 0, .int .i64 0, .int .i64 0, .int .i64 0, .int .i64 0, .int .i64 0, .int .i64 0, .int .i64 0, .int .i64 0, .int .i64 0], .int .i64 0], []⟩ 8 (by kernel_rfl) (by kernel_rfl) (by kernel_rfl)
      (x := ([.lit (.int .i64 0), .agg [.agg [.lit (.int .i64 0), .lit (.int .i64 0)], .agg [.lit (.int .i64 0), .lit (.int .i64 0)], .agg [.lit (.int .i64 0), .lit (.int .i64 0)], .agg [.lit (.int .i64 0), .lit (.int .i64 0)], .agg [.lit (.int .i64 0), .lit (.int .i64 0)], .agg [.lit (.int .i64 0), .lit (.int .i64 0)]], .lit (.int .i64 0)], [], [])) (by kernel_rfl) rfl (by kernel_rfl)) ?_
  intro W base args ds gs before hval0 hW hcnd hk _
  have hval : ∀ (j : Nat) t v, Try.f14.params[j]? = some t → args[j]? = some v → Value.okWide Try.prog W .any base t v := hval0
  have hW' := hW
  obtain ⟨p, q, hA0, hV, rfl, hfz, hnd⟩ := hW
  have hA : DataW.TrodAll enc Try.prog W 0 (fun _ => true) true Try.f14.params.toList args.toList ds p := hA0
  rw [Try.params14] at hA hval
  obtain ⟨v0, vs0, d0, ds0, p0, q0, hargs, rfl, rfl, h0, r0⟩ := trodAll_cons hA
  obtain ⟨v1, vs1, d1, ds1, p1, q1, rfl, rfl, rfl, h1, r1⟩ := trodAll_cons r0
  obtain ⟨v2, vs2, d2, ds2, p2, q2, rfl, rfl, rfl, h2, r2⟩ := trodAll_cons r1
  obtain ⟨rfl, rfl, rfl⟩ := trodAll_nil r2
  obtain rfl : args = #[v0, v1, v2] := by cases args; simp_all
  obtain ⟨rfl, rfl⟩ := trodVars_none hV
  have hbk := bulk_bound hk
  simp only [List.append_nil, Rows.uptoBulkAll] at hbk
  have k0 := h0
  have lt0 : ∀ x ∈ p0, x.block < W.heap.size := by obtain ⟨m, hm⟩ := k0; exact DataW.trod_lt m _ _ _ hm
  have k1 := h1
  have lt1 : ∀ x ∈ p1, x.block < W.heap.size := by obtain ⟨m, hm⟩ := k1; exact DataW.trod_lt m _ _ _ hm
  have k2 := h2
  have lt2 : ∀ x ∈ p2, x.block < W.heap.size := by obtain ⟨m, hm⟩ := k2; exact DataW.trod_lt m _ _ _ hm
  obtain ⟨U, rfl, _, _, wU⟩ := open_int Try.underlying3 (hval 0 3 v0 rfl rfl) h0
  obtain ⟨C_1, C_2, C_3, C_4, C_5, C_6, C_7, C_8, C_9, C_10, C_11, C_12, rfl, w1_0, w1_1, w1_2, w1_3, w1_4, w1_5, w1_6, w1_7, w1_8, w1_9, w1_10, w1_11⟩ := ctx_arg (hval 1 58 v1 rfl rfl) h1
  obtain ⟨X, rfl, _, _, wX⟩ := open_int Try.underlying3 (hval 2 3 v2 rfl rfl) h2
  clear hA0 hval0
  refine (unitSizes_law U ⟨(C_1, C_2), (C_3, C_4), (C_5, C_6), (C_7, C_8), (C_9, C_10), (C_11, C_12)⟩ X W (i64_of wU) ⟨⟨w1_0, w1_1⟩, ⟨w1_2, w1_3⟩, ⟨w1_4, w1_5⟩, ⟨w1_6, w1_7⟩, ⟨w1_8, w1_9⟩, ⟨w1_10, w1_11⟩⟩ (i64_of wX)).mono fun e W' ⟨he, grw⟩ => ?_
  subst he
  have bel := grw.below
  exact ⟨_, rfl, _, _, _, [], _, [], hW', trodAll_mk1 (shut_bool Try.underlying4 _), (trodAll_cons_mk (Below.trod unitSizes_laidOut (by kernel_rfl) (of_decide_eq_true (by kernel_rfl)) k0 bel lt0) (trodAll_cons_mk (Below.trod unitSizes_laidOut (by kernel_rfl) (of_decide_eq_true (by kernel_rfl)) k1 bel lt1) (trodAll_cons_mk (Below.trod unitSizes_laidOut (by kernel_rfl) (of_decide_eq_true (by kernel_rfl)) k2 bel lt2) trodAll_mk0))), rfl, bel.frame _, fun h => by cases h⟩

/-- THE STATEMENT -/
theorem unitSizes_holds : Rows.UnitSizesUptoSaid :=
  OpenClaim.holds_of_cond 14 Try.f14 rfl rfl rfl rfl rfl rfl rfl ⟨rfl, rfl, rfl, rfl, rfl⟩ rfl rfl rfl rfl rfl (by kernel_rfl) Try.func14 (by kernel_rfl)
    (of_decide_eq_true (by kernel_rfl)) (by unfold Func.isWrapper; first | (rw [if_pos (by decide +kernel)]; kernel_rfl) | (rw [if_neg (by decide +kernel)]; exact ⟨rfl, rfl⟩))
    (fun os started H enc _ F => unitSizes_lifted os started H enc F)
#print axioms unitSizes_holds
end Go.Proofs.Ythmicnjigfcljaa

/- WALKS over rat, jalousieref1, ref8, dom: sizes, names, boxes. No condition but that numbers are of their kinds and strings of a length that can be. -/
import Derived.Test.YtdbddnkjiehaiaaGreatRat
import Derived.Test.YtdbddnkjiehaiaaGreatMa
set_option linter.unusedSimpArgs false
set_option linter.unusedVariables false
namespace Go.Proofs.YtdbddnkjiehaiaaGreat
open Go.RowKit

set_option maxHeartbeats 400000 in
theorem refIs_any (n d : Int) (w : World) (h1 : -9223372036854775808 ≤ n) (h2 : n ≤ 9223372036854775807) (h3 : -9223372036854775808 ≤ d) (h4 : d ≤ 9223372036854775807) :
    Calls Tryz.prog 58 #[.agg #[.int .i64 n, .int .i64 d]] w (Gives w (.bool (sureB n d))) := by
  rw [sureB_may]
  go_enter Tryz.func58, Tryz.ntmps58
  go_wp2_with (first | (go_at_call 72; (with_reducible refine (refMay_any _ _ _ h1 h2 h3 h4).mono ?_); rintro e w1 ⟨rfl, x1, rfl⟩))
  all_goals (go_ret; refine ⟨ret_bool ?_, (by repeat (first | exact grA | apply grB | apply grC | apply grD))⟩; simp [*])

set_option maxHeartbeats 400000 in
theorem side_any (n d : Int) (w : World) (h1 : -9223372036854775808 ≤ n) (h2 : n ≤ 9223372036854775807) (h3 : -9223372036854775808 ≤ d) (h4 : d ≤ 9223372036854775807) :
    Calls Tryz.prog 57 #[.agg #[.int .i64 n, .int .i64 d]] w (Gives w (.bool (sizeB n d))) := by
  go_enter Tryz.func57, Tryz.ntmps57
  go_wp2_with (first | (go_at_call 71; (with_reducible refine (may_any _ _ _ h1 h2 h3 h4).mono ?_); rintro e w1 ⟨rfl, x1, rfl⟩))
  all_goals (go_ret; refine ⟨ret_bool ?_, (by repeat (first | exact grA | apply grB | apply grC | apply grD))⟩; first | (simp [sizeB, *]; done) | (simp [sizeB, *]; omega))

set_option maxHeartbeats 400000 in
theorem refSize_any (n d : Int) (w : World) (h1 : -9223372036854775808 ≤ n) (h2 : n ≤ 9223372036854775807) (h3 : -9223372036854775808 ≤ d) (h4 : d ≤ 9223372036854775807) :
    Calls Tryz.prog 42 #[.agg #[.int .i64 n, .int .i64 d]] w (Gives w (.bool (sizeB n d))) := by
  have E0 : sizeB n d = (sureB n d && decide (0 ≤ n)) := by rw [sureB_may, sizeB, Bool.and_assoc]
  rw [E0]; clear E0
  go_enter Tryz.func42, Tryz.ntmps42
  go_wp2_with (first | (go_at_call 58; (with_reducible refine (refIs_any _ _ _ h1 h2 h3 h4).mono ?_); rintro e w1 ⟨rfl, x1, rfl⟩))
  all_goals (go_ret; refine ⟨ret_bool ?_, (by repeat (first | exact grA | apply grB | apply grC | apply grD))⟩; simp [*])

set_option maxRecDepth 100000 in
set_option maxHeartbeats 400000 in
theorem mayName_any (s : ByteArray) (w : World) (hs : s.size ≤ maxLen) :
    Calls Tryz.prog 40 #[.string s] w (Gives w (.bool (nameB s.data.toList))) := by
  unfold maxLen at hs
  by_cases h0 : s.size < 1
  · rw [nameB_no (.inl (by simpa using h0))]
    go_enter Tryz.func40, Tryz.ntmps40
    go_wp2_with fail
    go_ret
    exact ⟨rfl, (by repeat (first | exact grA | apply grB | apply grC | apply grD))⟩
  · by_cases h1 : 64 < s.size
    · rw [nameB_no (.inr (by simpa using h1))]
      go_enter Tryz.func40, Tryz.ntmps40
      go_wp2_with fail
      go_ret
      exact ⟨rfl, (by repeat (first | exact grA | apply grB | apply grC | apply grD))⟩
    · obtain ⟨cp, z, hconv, hcell⟩ := conv_bytes (P := Tryz.prog) w 9 73 5 s Tryz.underlying9 Tryz.underlying73 Tryz.underlying5
      have HC := Lib.hid hcell; clear hcell
      rw [nameB_yes (by simp; omega) (by simp; omega)]
      go_enter Tryz.func40, Tryz.ntmps40
      go_wp2_with fail
      clear hconv
      go_loop [17] (fun u => ∃ k : Nat, k ≤ s.size ∧ u = .int .i64 k ∧ Hid (nameFrom 0 s.data.toList = nameFrom k (s.data.toList.drop k))) (fun u => s.size - (intOf u).toNat)
      case atStart => exact ⟨0, Nat.zero_le _, rfl, rfl⟩
      case round =>
        obtain ⟨k, hk, rfl, HG⟩ := hrel
        by_cases hlt : k < s.size
        · have hcell := HC.out k hlt
          have hst := nameFrom_step (l := s.data.toList) (k := k) (by simpa using hlt)
          have hat := nameAt_iff k (s.data.toList.getD k 0)
          have hle := letterB_iff (s.data.toList.getD k 0)
          have hn := (s.data.toList.getD k 0).toNat_lt
          generalize (s.data.toList.getD k 0) = c at *
          have HS := Lib.hid (HG.out.trans hst)
          have HA := Lib.hid hat
          have HL := Lib.hid hle
          clear hst hat HG hle
          go_upto_region 6 with fail
          go_cut [5] (fun u wx => u = .bool (letterB c) ∧ w.plus z = wx)
          case first =>
            go_wp2
            all_goals (go_meet; refine ⟨congrArg Value.bool ?_, rfl⟩; rw [Bool.eq_iff_iff, HL.out]; simp [*]; try omega)
          case rest =>
            obtain ⟨rfl, rfl⟩ := hcut
            have HH : nameFrom 0 s.data.toList = (nameAt k c && nameFrom (k + 1) (s.data.toList.drop (k + 1))) := HS.out
            have Hh := Lib.hid HH
            clear HH HS
            cases hb : letterB c with
            | true =>
              have ht : nameAt k c = true := by simp [nameAt, hb]
              have HT := Lib.hid ht
              have HB := Lib.hid hb
              clear ht hb
              go_wp2
              go_round
              case rel => exact ⟨k + 1, by omega, by go_num, by show _ = _; rw [Hh.out, HT.out, Bool.true_and]⟩
              case measure => simp [intOf]; omega
            | false =>
              have hl := HL.out
              rw [hb] at hl
              have ha := HA.out
              have HB := Lib.hid hb
              clear hb
              have hl' := Lib.hid hl
              have ha' := Lib.hid ha
              clear hl ha
              go_wp2
              all_goals first
                | (go_round
                   case rel =>
                     have ht : nameAt k c = true := by rw [ha'.out]; simp_all; try omega
                     exact ⟨k + 1, by omega, by go_num, by show _ = _; rw [Hh.out, ht, Bool.true_and]⟩
                   case measure => simp [intOf]; omega)
                | (go_ret
                   have ht : nameAt k c = false := by rw [Bool.eq_false_iff]; intro h; rw [ha'.out] at h; have h1 := hl'.out; simp_all; try omega
                   exact ⟨ret_bool (by rw [Hh.out, ht, Bool.false_and]), (by repeat (first | exact grA | apply grB | apply grC | apply grD))⟩)
        · have hend := nameFrom_end (l := s.data.toList) (k := k) (by simpa using hlt)
          have HE := Lib.hid (HG.out.trans hend)
          clear hend HG HC
          go_wp2
          go_ret
          exact ⟨ret_bool (by rw [HE.out]), (by repeat (first | exact grA | apply grB | apply grC | apply grD))⟩

end Go.Proofs.YtdbddnkjiehaiaaGreat

/- WALKS over vars, jalousieref21: Put of both. No condition but bounds. -/
import Derived.Test.YthcaphoejplecaaGreatDoorVaK
set_option linter.unusedSimpArgs false
set_option linter.unusedVariables false
namespace Go.Proofs.YthcaphoejplecaaGreatDoor
open Go.RowKit
set_option maxRecDepth 100000 in
set_option maxHeartbeats 4000000 in
theorem fPut_any {w : World} {v : Value} {l : List Tk} {mp : Value} {cus : List Cu} {Sk : Nat → Prop} (h : TksAt w v l) (hl : l.length ≤ 4194304) (hk : CusAt w Sk mp cus) (hkl : cus.length ≤ 4194304) (hS : ∀ g, Sk g → g < w.heap.size) :
    Calls Tryz.prog 23 #[v, mp] w (PutAllPost w (putAll (findCu cus) l)) := by
  have HV := Lib.hid (fValues_any h hl)
  have HK := Lib.hid hk
  have HS := Lib.hid hS
  have HN := Lib.hid (Nat.le_trans (parse_nodes l) hl)
  clear h hk hS
  go_enter Tryz.func23, Tryz.ntmps23
  go_upto_region 2 with (go_at_call 26; go_loud ((with_reducible refine HV.out.mono ?_); rintro r w1 ⟨v1, rfl, hg1, hv1⟩))
  have HV1 := Lib.hid hv1
  have HM1 := Lib.hid (fun (W : World) (hg : w1.grows W) => fMay_any (VsAt.grows hv1 hg))
  clear hv1
  cases hm : mayV 64 (parse l) with
  | false =>
    have HR := Lib.hid (show putAll (findCu cus) l = ([], 1) by unfold putAll; rw [if_pos hm])
    rw [hm] at HM1
    clear hm
    go_wp2_with ((go_at_call 27; (with_reducible refine (HM1.out _ (by repeat (with_reducible first | assumption | exact grA | apply grB | apply grC | apply grD | refine grE ?_ (by omega) _ | refine grF ?_ (by omega) _ _))).mono ?_); rintro e w1 ⟨rfl, x1, rfl⟩))
    go_ret2
    rw [HR.out]
    exact ⟨_, rfl, hg1.trans (by repeat (with_reducible first | assumption | exact grA | apply grB | apply grC | apply grD | refine grE ?_ (by omega) _ | refine grF ?_ (by omega) _ _)), SlAt_nil _ _ _ _⟩
  | true =>
    rw [hm] at HM1
    have HPUT : Hid (∀ W : World, w1.grows W → Calls Tryz.prog 39 #[v1, mp, .slice none 0 0] W (PutPost w W W.heap.size (.slice none 0 0) true (putP (findCu cus) 65 [] (parse l)))) := Lib.hid fun W hg => by
      rw [(putPR_same (findCu cus) 65 (parse l) [] (by decide)).1]
      exact fput_any 64 w W W.heap.size mp cus Sk _ [] _ v1 (parse l) ⟨hg1.trans hg, (hg1.trans hg).below.size, Nat.le_refl _, TkO.nil _ _, CusAt.grows HK.out (hg1.trans hg), hkl, (fun g hg2 => Nat.lt_of_lt_of_le (HS.out g hg2) (hg1.trans hg).below.size), VsAt.grows HV1.out hg, (fun g _ e => by cases e), hm, HN.out, by decide, by decide⟩
    cases hp : putP (findCu cus) 65 [] (parse l) with
    | none =>
      have HR := Lib.hid (show putAll (findCu cus) l = ([], 11) by unfold putAll; rw [if_neg (by rw [hm]; decide), hp])
      rw [hp] at HPUT
      clear hm hp
      go_wp2_with (first | (go_at_call 27; (with_reducible refine (HM1.out _ (by repeat (with_reducible first | assumption | exact grA | apply grB | apply grC | apply grD | refine grE ?_ (by omega) _ | refine grF ?_ (by omega) _ _))).mono ?_); rintro e w1 ⟨rfl, x1, rfl⟩) | (go_at_call 39; go_loud ((with_reducible refine (HPUT.out _ (by repeat (with_reducible first | assumption | exact grA | apply grB | apply grC | apply grD | refine grE ?_ (by omega) _ | refine grF ?_ (by omega) _ _))).mono ?_); rintro r w7 ⟨v7, ok7, rfl, p1, p2, p3⟩; (obtain rfl : ok7 = false := p3.1))))
      go_ret2
      rw [HR.out]
      exact ⟨_, rfl, p1, SlAt_nil _ _ _ _⟩
    | some o =>
      have hob := putP_bound hp (by simp)
      have HR := Lib.hid (show putAll (findCu cus) l = if mayV 64 (parse o) = true then (o, 0) else ([], 11) by unfold putAll; rw [if_neg (by rw [hm]; decide), hp])
      rw [hp] at HPUT
      clear hm hp
      go_upto_region 5 with (first | (go_at_call 27; (with_reducible refine (HM1.out _ (by repeat (with_reducible first | assumption | exact grA | apply grB | apply grC | apply grD | refine grE ?_ (by omega) _ | refine grF ?_ (by omega) _ _))).mono ?_); rintro e w1 ⟨rfl, x1, rfl⟩) | (go_at_call 39; go_loud ((with_reducible refine (HPUT.out _ (by repeat (with_reducible first | assumption | exact grA | apply grB | apply grC | apply grD | refine grE ?_ (by omega) _ | refine grF ?_ (by omega) _ _))).mono ?_); rintro r w7 ⟨v7, ok7, rfl, p1, p2, p3⟩; (obtain rfl : ok7 = true := p3.1); (obtain ⟨a7, c7, rfl⟩ := own_slice p3.2.1.1))))
      have HT7 := Lib.hid (show SlAt w7 (fun g => w.heap.size ≤ g ∧ g < w7.heap.size) 6 TkR (.slice a7 o.length c7) o from p3.2.1.slAt fun g h1 h2 => ⟨Nat.le_trans (hg1.trans (by repeat (with_reducible first | assumption | exact grA | apply grB | apply grC | apply grD | refine grE ?_ (by omega) _ | refine grF ?_ (by omega) _ _))).below.size h1, h2⟩)
      have HV2 := Lib.hid (fValues_any (HT7.out.keep (fun g hg _ => ⟨rfl, trivial⟩) fun _ _ _ h => h) (by omega))
      clear p2 p3
      cases hm2 : mayV 64 (parse o) with
      | true =>
        rw [hm2, if_pos rfl] at HR
        go_wp2_with (first | (go_at_call 26; go_loud ((with_reducible refine HV2.out.mono ?_); rintro r w9 ⟨v9, rfl, hg9, hv9⟩; (have HM9 := Lib.hid (fMay_any hv9)); (rw [hm2] at HM9))) | (go_at_call 27; (with_reducible refine (HM9.out).mono ?_); rintro e w1 ⟨rfl, x1, rfl⟩))
        go_ret2
        rw [HR.out]
        exact ⟨_, rfl, p1.trans (hg9.trans (by repeat (with_reducible first | assumption | exact grA | apply grB | apply grC | apply grD | refine grE ?_ (by omega) _ | refine grF ?_ (by omega) _ _))), HT7.out.keep (fun g hg hl => ⟨(hg9.trans (by repeat (with_reducible first | assumption | exact grA | apply grB | apply grC | apply grD | refine grE ?_ (by omega) _ | refine grF ?_ (by omega) _ _))).row_eq hl, hg.1, Nat.lt_of_lt_of_le hl (hg9.trans (by repeat (with_reducible first | assumption | exact grA | apply grB | apply grC | apply grD | refine grE ?_ (by omega) _ | refine grF ?_ (by omega) _ _))).below.size⟩) fun _ _ _ h => h⟩
      | false =>
        rw [hm2, if_neg (by decide)] at HR
        go_wp2_with (first | (go_at_call 26; go_loud ((with_reducible refine HV2.out.mono ?_); rintro r w9 ⟨v9, rfl, hg9, hv9⟩; (have HM9 := Lib.hid (fMay_any hv9)); (rw [hm2] at HM9))) | (go_at_call 27; (with_reducible refine (HM9.out).mono ?_); rintro e w1 ⟨rfl, x1, rfl⟩))
        go_ret2
        rw [HR.out]
        exact ⟨_, rfl, p1.trans (hg9.trans (by repeat (with_reducible first | assumption | exact grA | apply grB | apply grC | apply grD | refine grE ?_ (by omega) _ | refine grF ?_ (by omega) _ _))), SlAt_nil _ _ _ _⟩
set_option maxRecDepth 100000 in
theorem vPut_any {w : World} {v : Value} {l : List Tk} {mp : Value} {cus : List Cu} {Sk : Nat → Prop} (h : TksAt w v l) (hl : l.length ≤ 4194304) (hk : CusAt w Sk mp cus) (hkl : cus.length ≤ 4194304) (hS : ∀ g, Sk g → g < w.heap.size) :
    Calls Tryz.prog 24 #[v, mp] w (PutAllPost w (putAll (findCu cus) l)) := by
  have HB := Lib.hid (by_any hk hkl hS)
  have HT := Lib.hid h
  clear h hk hS
  go_enter Tryz.func24, Tryz.ntmps24
  go_wp2_with (first | (go_at_call 13; go_loud ((with_reducible refine HB.out.mono ?_); rintro r w1 ⟨v1, rfl, hg1, hk1⟩)) | (go_at_call 17; go_loud ((with_reducible refine (vput_any (HT.out.grows hg1 fun _ _ _ h => h) hl hk1 (fun _ h => h)).mono ?_); rintro r w2 ⟨v2, rfl, hg2, hv2⟩)))
  go_ret2
  exact ⟨_, rfl, hg1.trans (hg2.trans (by repeat (with_reducible first | assumption | exact grA | apply grB | apply grC | apply grD | refine grE ?_ (by omega) _ | refine grF ?_ (by omega) _ _))), hv2.keep (fun g hg hl => ⟨(show World.grows w2 _ from (by repeat (with_reducible first | assumption | exact grA | apply grB | apply grC | apply grD | refine grE ?_ (by omega) _ | refine grF ?_ (by omega) _ _))).row_eq hl, Nat.le_trans hg1.below.size hg.1, Nat.lt_of_lt_of_le hl (show World.grows w2 _ from (by repeat (with_reducible first | assumption | exact grA | apply grB | apply grC | apply grD | refine grE ?_ (by omega) _ | refine grF ?_ (by omega) _ _))).below.size⟩) fun _ _ _ h => h⟩
set_option maxRecDepth 100000 in
set_option maxHeartbeats 4000000 in
/-- the same tokens are the same -/
theorem fsame_any {w : World} {S S' : Nat → Prop} {u v : Value} {l : List Tk} (h : SlAt w S 6 TkR u l) (h' : SlAt w S' 6 TkR v l) : Calls Tryz.prog 12 #[u, v] w (Gives w (.bool true)) := by
  obtain ⟨a, cap, rfl, hcap, hcap2⟩ := SlAt.len h
  obtain ⟨a', cap', rfl, -, -⟩ := SlAt.len h'
  have H := Lib.hid h
  have H' := Lib.hid h'
  clear h h'
  go_enter Tryz.func12, Tryz.ntmps12
  go_wp2_with fail
  go_loopg [13] l.length (fun gn v9 wj => ∃ i : Nat, Hid (gn + i = l.length ∧ i ≤ l.length) ∧ v9 = .int .i64 i ∧ w.grows wj)
  case atStart => exact ⟨0, Lib.hid ⟨by simp, Nat.zero_le _⟩, by go_num, (by repeat (with_reducible first | assumption | exact grA | apply grB | apply grC | apply grD | refine grE ?_ (by omega) _ | refine grF ?_ (by omega) _ _))⟩
  case round =>
    obtain ⟨i, HQ, rfl, hgj⟩ := hrel
    obtain ⟨j1, j2⟩ := HQ.out
    by_cases hlt : i < l.length
    · have hgt : l[i]? = some l[i] := List.getElem?_eq_getElem hlt
      obtain ⟨g, off, cs, rfl, -, -, k1, hv⟩ := H.out.elt hgt
      obtain ⟨g', off', cs', rfl, -, -, k1', hv'⟩ := H'.out.elt hgt
      generalize l[i] = x at *
      obtain ⟨rfl, twf⟩ := hv
      obtain ⟨rfl, -⟩ := hv'
      obtain ⟨k, s, n1, d, q1, q2⟩ := x
      have k2 := k1.grows hgj
      have z3 := lt_sz k2.lt
      obtain ⟨u1, u2⟩ := k2
      have k2' := k1'.grows hgj
      have z3' := lt_sz k2'.lt
      obtain ⟨u1', u2'⟩ := k2'
      replace u1 : segOk (off + i * 6) 6 (wr.row g) = true := u1
      replace u2 : segV (off + i * 6) 6 (wr.row g) = .agg #[.int .i64 k, .string s, .int .i64 n1, .int .i64 d, .bool q1, .bool q2] := u2
      replace u1' : segOk (off' + i * 6) 6 (wr.row g') = true := u1'
      replace u2' : segV (off' + i * 6) 6 (wr.row g') = .agg #[.int .i64 k, .string s, .int .i64 n1, .int .i64 d, .bool q1, .bool q2] := u2'
      have i1 : (0 : Int) ≤ (i : Int) := by omega
      have i2 : (i : Int) < (l.length : Int) := by omega
      have iw : IntKind.i64.wrap ((i : Int) + 1) = (i : Int) + 1 := by rw [IntKind.wrap_i64]; omega
      clear k1 k1' twf hgt hlt
      go_upto_region 6 with fail
      refine wp_region_plus_lit (by kernel_rfl) (by kernel_rfl) ?_
      repeat (go_big_quiet_step (fail))
      (refine wpQuiet_nil ?_; intro _ hw'; obtain ⟨xq, hw''⟩ := hw'; subst hw'')
      go_wp2_with fail
      go_roundg (l.length - (i + 1))
      case measure => have := HQ.out; omega
      case rel => exact ⟨i + 1, Lib.hid ⟨by omega, by omega⟩, by go_num, hgj.trans (by repeat (with_reducible first | assumption | exact grA | apply grB | apply grC | apply grD | refine grE ?_ (by omega) _ | refine grF ?_ (by omega) _ _))⟩
    · have i2 : ¬ (i : Int) < (l.length : Int) := by omega
      go_wp2_with fail
      go_ret
      exact ⟨rfl, hgj.trans (by repeat (with_reducible first | assumption | exact grA | apply grB | apply grC | apply grD | refine grE ?_ (by omega) _ | refine grF ?_ (by omega) _ _))⟩
end Go.Proofs.YthcaphoejplecaaGreatDoor
